/- Lemmas of the proof of TopAgrees, in one text: the parts Base, StrAt, Fw, Acc, AcB, Bst. Each part's own comment says what it shows. No condition but those that each lemma names. -/
import Derived.WalkKit
import Derived.WalkSpells
import Derived.Deep.MidRow
import Derived.Deep.Draws
import Derived.Deep.WholeRow
import Derived.Lib.Hide
import Derived.Great.BuildSlice
import Derived.Lib.AppendStr
import Derived.Test.YtfjfkmoofmncnaaDoorProg
import Derived.WalkLawsBesides
import Derived.Deep.AppendLies
import Derived.Deep.RegionLaw
import Derived.Deep.RegionHeld3
import Derived.Laws.OwnMore
import Derived.Laws.AppendOwnNone
import Derived.Maps.AppendAt
import Derived.BigQuiet
import Derived.Lib.BufferMore
import Derived.StillTailTactics
/- Plain facts on worlds: what a call may turn (Moves), and how cells, ranges and owned rows stay. No program in sight. -/
namespace Go.Proofs.YtfjfkmoofmncnaaDoor
open Go.RowKit

/-- Nothing but the blocks of F, of those that were there, has turned. -/
structure Moves (F : Nat → Prop) (w w' : World) : Prop where
  os : w'.os = w.os
  tape : w'.tape = w.tape
  output : w'.output = w.output
  size : w.heap.size ≤ w'.heap.size
  block : ∀ k, k < w.heap.size → ¬ F k → w'.heap[k]? = w.heap[k]?

theorem Moves.refl (F : Nat → Prop) (w : World) : Moves F w w := ⟨rfl, rfl, rfl, Nat.le_refl _, fun _ _ _ => rfl⟩
theorem Moves.trans {F F' : Nat → Prop} {a b c : World} (h : Moves F a b) (k : Moves F' b c) (hf : ∀ i, F' i → F i ∨ a.heap.size ≤ i) : Moves F a c :=
  ⟨k.os.trans h.os, k.tape.trans h.tape, k.output.trans h.output, Nat.le_trans h.size k.size, fun i hi hn =>
    (k.block i (Nat.lt_of_lt_of_le hi h.size) (fun hF => by rcases hf i hF with h1 | h1; exact hn h1; omega)).trans (h.block i hi hn)⟩
theorem Moves.mono {F F' : Nat → Prop} {a b : World} (h : Moves F a b) (hf : ∀ i, i < a.heap.size → F i → F' i) : Moves F' a b :=
  ⟨h.os, h.tape, h.output, h.size, fun i hi hn => h.block i hi (fun hF => hn (hf i hi hF))⟩
theorem Moves.drew {F : Nat → Prop} {a b : World} (h : Moves F a b) : Moves F a b.drew := ⟨h.os, h.tape, h.output, h.size, h.block⟩
theorem Moves.drewN {F : Nat → Prop} {a b : World} (h : Moves F a b) (n : Nat) : Moves F a (b.drewN n) := ⟨h.os, h.tape, h.output, h.size, h.block⟩
theorem Moves.alloc {F : Nat → Prop} {a b : World} (h : Moves F a b) (o : Obj) : Moves F a (b.alloc o) :=
  ⟨h.os, h.tape, h.output, by have := h.size; simp; omega, fun i hi hn => (Below.heap_alloc _ _ _ (Nat.lt_of_lt_of_le hi h.size)).trans (h.block i hi hn)⟩
theorem Moves.setCell {F : Nat → Prop} {a b : World} (h : Moves F a b) (p : Addr) (v : Value) (hp : F p.block ∨ a.heap.size ≤ p.block) : Moves F a (b.setCell p v) :=
  ⟨h.os, h.tape, h.output, by have := h.size; simpa using this, fun i hi hn => (Below.heap_setCell _ _ _ _ (fun e => by subst e; rcases hp with h1 | h1; exact hn h1; omega)).trans (h.block i hi hn)⟩
theorem heap_setCells (b k : Nat) (hk : k ≠ b) : ∀ (vs : List Value) (o : Nat) (w : World), (w.setCells b o vs).heap[k]? = w.heap[k]?
  | [], _, _ => rfl
  | v :: r, o, w => by rw [World.setCells, heap_setCells b k hk r]; exact Below.heap_setCell _ _ _ _ hk
theorem size_setCells (b : Nat) : ∀ (vs : List Value) (o : Nat) (w : World), (w.setCells b o vs).heap.size = w.heap.size
  | [], _, _ => rfl
  | v :: r, o, w => by rw [World.setCells, size_setCells b r]; simp
theorem os_setCells (b : Nat) : ∀ (vs : List Value) (o : Nat) (w : World), (w.setCells b o vs).os = w.os ∧ (w.setCells b o vs).tape = w.tape ∧ (w.setCells b o vs).output = w.output
  | [], _, _ => ⟨rfl, rfl, rfl⟩
  | v :: r, o, w => by rw [World.setCells]; exact os_setCells b r _ _
theorem Moves.setCells {F : Nat → Prop} {a b : World} (h : Moves F a b) (g o : Nat) (vs : List Value) (hp : F g ∨ a.heap.size ≤ g) : Moves F a (b.setCells g o vs) :=
  ⟨(os_setCells g vs o b).1.trans h.os, (os_setCells g vs o b).2.1.trans h.tape, (os_setCells g vs o b).2.2.trans h.output, by rw [size_setCells]; exact h.size,
    fun i hi hn => (heap_setCells g i (fun e => by subst e; rcases hp with h1 | h1; exact hn h1; omega) vs o b).trans (h.block i hi hn)⟩
theorem Moves.grown {F : Nat → Prop} {a b c : World} {row : Option Nat} (h : Moves F a b) (hg : b.grownBy c row) (hr : ∀ k, row = some k → F k ∨ a.heap.size ≤ k) : Moves F a c :=
  ⟨hg.os.trans h.os, hg.tape.trans h.tape, hg.output.trans h.output, Nat.le_trans h.size hg.size, fun i hi hn =>
    (hg.block i (Nat.lt_of_lt_of_le hi h.size) (fun e => by rcases hr i e.symm with h1 | h1; exact hn h1; omega)).trans (h.block i hi hn)⟩
theorem Moves.below {F : Nat → Prop} {a b : World} (h : Moves F a b) {B : Nat} (hB : B ≤ a.heap.size) (hF : ∀ k, F k → B ≤ k) : Below B a b :=
  ⟨h.os, h.tape, h.output, h.size, fun k hk => h.block k (by omega) (fun hf => by have := hF k hf; omega)⟩
theorem Moves.of_below {F : Nat → Prop} {a b : World} (h : Below a.heap.size a b) : Moves F a b := ⟨h.os, h.tape, h.output, h.size, fun k hk _ => h.block k hk⟩
theorem Moves.cell {F : Nat → Prop} {a b : World} (h : Moves F a b) {p : Addr} (hp : p.block < a.heap.size) (hn : ¬ F p.block) : b.cell? p = a.cell? p :=
  World.cell?_of_block (w := a) (h.block p.block hp hn)
theorem Moves.frozen {F : Nat → Prop} {a b : World} (h : Moves F a b) {p : Addr} (hp : p.block < a.heap.size) (hn : ¬ F p.block) : b.frozen? p = a.frozen? p :=
  World.frozen?_of_block (w := a) (h.block p.block hp hn)

/-- The blocks of an owned row. -/
theorem ownsRow_keep {w w' : World} {base : Nat} {e : TypeId} {size : Nat} {v : Value} {n : Nat} {xs : List Value} (h : w.ownsRow base e size v n xs)
    (hk : ∀ k, v.ownBlock = some k → w'.heap[k]? = w.heap[k]?) : w'.ownsRow base e size v n xs := by
  obtain ⟨h1, h2⟩ := h
  refine ⟨h1, ?_⟩
  rcases h2 with h2 | ⟨g, cap, cur, hv, hg, hh, r⟩
  · exact .inl h2
  · exact .inr ⟨g, cap, cur, hv, hg, by rw [hk g (by rw [hv]; rfl)]; exact hh, r⟩
theorem ownsRow_setCell {w : World} {base : Nat} {e : TypeId} {size : Nat} {v : Value} {n : Nat} {xs : List Value} (h : w.ownsRow base e size v n xs)
    (p : Addr) (u : Value) (hk : v.ownBlock ≠ some p.block) : (w.setCell p u).ownsRow base e size v n xs :=
  ownsRow_keep h fun k hv => Below.heap_setCell _ _ _ _ (fun e => hk (by rw [hv, e]))
theorem ownsRow_setCells {w : World} {base : Nat} {e : TypeId} {size : Nat} {v : Value} {n : Nat} {xs : List Value} (h : w.ownsRow base e size v n xs)
    (g o : Nat) (vs : List Value) (hk : v.ownBlock ≠ some g) : (w.setCells g o vs).ownsRow base e size v n xs :=
  ownsRow_keep h fun k hv => heap_setCells g k (fun e => hk (by rw [hv, e])) vs o w
theorem ownsRow_base {w : World} {base base' : Nat} {e : TypeId} {size : Nat} {v : Value} {n : Nat} {xs : List Value} (h : w.ownsRow base e size v n xs)
    (hb : ∀ k, v.ownBlock = some k → base' ≤ k) : w.ownsRow base' e size v n xs := by
  obtain ⟨h1, h2⟩ := h
  refine ⟨h1, ?_⟩
  rcases h2 with h2 | ⟨g, cap, cur, hv, hg, r⟩
  · exact .inl h2
  · exact .inr ⟨g, cap, cur, hv, hb g (by rw [hv]; rfl), r⟩
/-- The value of an owned row, by its parts; and every cell of it. -/
theorem ownsRow_form {w : World} {base : Nat} {e : TypeId} {size : Nat} {v : Value} {n : Nat} {xs : List Value} (h : w.ownsRow base e size v n xs) :
    (v = .slice none 0 0 ∧ n = 0 ∧ xs = []) ∨ ∃ g cap, v = .slice (some ⟨g, 0, none⟩) n cap ∧ base ≤ g ∧ g < w.heap.size ∧ n ≤ cap ∧ cap ≤ maxLen ∧ w.rangeAt g 0 xs ∧ (∀ j, w.frozen? ⟨g, j, none⟩ = false) := by
  rcases h.2 with ⟨h1, h2⟩ | ⟨g, cap, cur, rfl, hg, hh, hn, hm, hs, ht⟩
  · refine .inl ⟨h1, h2, ?_⟩
    have := h.1
    rw [h2, Nat.zero_mul] at this
    exact List.eq_nil_of_length_eq_zero this
  · refine .inr ⟨g, cap, rfl, hg, (Array.getElem?_eq_some_iff.1 hh).1, hn, hm, fun j u hu => ?_, fun j => frozen_of_row w g j cur e hh⟩
    rw [Nat.zero_add, cell_of_row w g j cur e (0, 0) hh]
    rw [← ht, List.getElem?_take] at hu
    split at hu
    · simpa using hu
    · cases hu

theorem ownsRow_slice {w : World} {base : Nat} {e : TypeId} {size : Nat} {v : Value} {n : Nat} {xs : List Value} (h : w.ownsRow base e size v n xs) :
    ∃ a cap, v = .slice a n cap ∧ n ≤ cap ∧ cap ≤ maxLen ∧ (0 < n → ∃ g, a = some ⟨g, 0, none⟩) := by
  rcases ownsRow_form h with ⟨rfl, h1, _⟩ | ⟨g, cap, rfl, _, _, h1, h2, _⟩
  · exact ⟨none, 0, by rw [h1], by omega, by simp [maxLen], fun h => by omega⟩
  · exact ⟨_, cap, rfl, h1, h2, fun _ => ⟨g, rfl⟩⟩
theorem rangeAt_part {w : World} {b o : Nat} {cs : List Value} (h : w.rangeAt b o cs) (k : Nat) (ds : List Value) (hd : ∀ j v, ds[j]? = some v → cs[k + j]? = some v) : w.rangeAt b (o + k) ds :=
  fun j v hv => by rw [Nat.add_assoc]; exact h (k + j) v (hd j v hv)
theorem rangeAt_congr {w w' : World} {b o : Nat} {cs : List Value} (h : w.rangeAt b o cs) (hb : w'.heap[b]? = w.heap[b]?) : w'.rangeAt b o cs :=
  fun j v hv => (World.cell?_of_block (a := ⟨b, o + j, none⟩) hb).trans (h j v hv)
theorem rangeAt_setCell {w : World} {b o : Nat} {cs : List Value} (h : w.rangeAt b o cs) (p : Addr) (v : Value) (hp : p.block ≠ b ∨ p.off < o ∨ o + cs.length ≤ p.off) : (w.setCell p v).rangeAt b o cs :=
  fun j u hu => by
    have hj : j < cs.length := (List.getElem?_eq_some_iff.1 hu).1
    rw [World.cell?_setCell_other]
    · exact h j u hu
    · intro e
      subst e
      rcases hp with h1 | h1 | h1
      · exact h1 rfl
      · simp at h1; omega
      · simp at h1; omega

/-- Bytes as cells. -/
def bcells (s : List UInt8) : List Value := s.map fun b => .int .u8 (b.toNat : Int)
theorem length_bcells (s : List UInt8) : (bcells s).length = s.length := by simp [bcells]
theorem one_bcells (s : List UInt8) : ∀ v ∈ bcells s, v.oneCell' = true := by
  intro v hv
  simp [bcells] at hv
  obtain ⟨x, _, rfl⟩ := hv
  rfl
theorem run_copy_string (P : Program) (w : World) (dT sT ty elem : TypeId) (g o dLen dCap : Nat) (str : ByteArray) (cur : Array Value) (t : TypeId)
    (hu : P.underlying dT = some (.slice elem)) (hs : (P.info? elem).map (·.size) = some 1) (hg : w.heap[g]? = some (.cells cur t (0, 0))) (hl : str.size ≤ dLen) (hfit : o + str.size ≤ cur.size) :
    (Builtin.copy_ #[dT, sT] ty #[.slice (some ⟨g, o, none⟩) dLen dCap, .string str]).run P w =
      .ok (goInt str.size) (w.setRow g (cur.toList.take o ++ bcells str.data.toList ++ cur.toList.drop (o + str.size)).toArray) := by
  have e1 : Nat.min str.size dLen = str.size := Nat.min_eq_left hl
  have hlen : (bcells str.data.toList).length = str.size := by rw [length_bcells]; rfl
  have hst := run_storeCells_at P g o t (bcells str.data.toList) 0 cur w hg (by rw [hlen]; simpa using hfit) (one_bcells _)
  have et : List.take str.size (bcells str.data.toList) = bcells str.data.toList := List.take_of_length_le (by omega)
  rw [hlen, Nat.add_zero] at hst
  cases hq : P.info? elem with
  | none => simp [hq] at hs
  | some i =>
    simp [Builtin.copy_, run_underlying hu, Builtin.lenOf, Builtin.firstCells, sizeOf, typeInfo, hq, e1, ← bcells.eq_1, et, hst]
theorem fill_all (cs : List Value) : ∀ (l : List Value) (k : Nat) (acc : Array Value), acc.size = cs.length → cs.drop k = l → (∀ j, j < k → acc[j]? = cs[j]?) →
    (l.zipIdx k).foldl (fun (a : Array Value) (x : Value × Nat) => a.setIfInBounds (0 + x.2) x.1) acc = cs.toArray
  | [], k, acc, hs, hd, ha => by
    have hk : cs.length ≤ k := by simpa using hd
    apply Array.ext_getElem?
    intro j
    simp only [List.zipIdx_nil, List.foldl_nil, List.getElem?_toArray]
    by_cases hj : j < k
    · exact ha j hj
    · rw [Array.getElem?_eq_none (by omega), List.getElem?_eq_none (by omega)]
  | v :: r, k, acc, hs, hd, ha => by
    have hk : k < cs.length := by
      rcases Nat.lt_or_ge k cs.length with h | h
      · exact h
      · rw [List.drop_eq_nil_of_le h] at hd; cases hd
    have hv : cs[k]? = some v := by
      rw [List.drop_eq_getElem_cons hk] at hd
      rw [List.getElem?_eq_getElem hk]
      exact congrArg some (List.cons.inj hd).1
    have hr : cs.drop (k + 1) = r := by
      rw [List.drop_eq_getElem_cons hk] at hd
      exact (List.cons.inj hd).2
    simp only [List.zipIdx_cons, List.foldl_cons]
    refine fill_all cs r (k + 1) _ (by simpa using hs) hr (fun j hj => ?_)
    rw [Nat.zero_add, Array.getElem?_setIfInBounds]
    by_cases hjk : k = j
    · subst hjk
      simp [hs, hk]
      rw [List.getElem?_eq_getElem hk] at hv
      exact (Option.some.inj hv).symm
    · simp [hjk]
      exact ha j (by omega)
theorem run_buildSlice_one {P : Program} (w : World) (t e : TypeId) (cs : List Value) (z : Value) (hu : P.underlying t = some (.slice e)) (hi : (P.info? e).map (fun i => (i.zero, i.size)) = some (some z, cs.length))
    (h0 : 0 < cs.length) (h1 : cs.length ≤ 2 ^ 24) :
    (Instr.buildSlice t 1 #[(0, .agg cs.toArray)]).run P w = .ok (.slice (some ⟨w.heap.size, 0, none⟩) 1 1) (w.alloc (.cells cs.toArray e)) := by
  cases hq : P.info? e with
  | none => simp [hq] at hi
  | some i' =>
    simp [hq] at hi
    have hf : (cs.toArray.zipIdx.foldl (fun (a : Array Value) (x : Value × Nat) => a.setIfInBounds (0 + x.2) x.1) ((Array.range (1 * cs.length)).map (z.cells[· % z.cells.size]!))) = cs.toArray := by
      rw [← Array.foldl_toList]
      have := fill_all cs cs 0 ((Array.range (1 * cs.length)).map (z.cells[· % z.cells.size]!)) (by simp) rfl (fun j hj => by omega)
      simpa using this
    have ec : (Value.agg cs.toArray).cells = cs.toArray := rfl
    have hfill : Instr.fill (fun i => some (i * i'.size, i'.size)) ((Array.range (1 * i'.size)).map (z.cells[· % z.cells.size]!)) [(0, .agg cs.toArray)] = some cs.toArray := by
      rw [hi.2]
      simp only [Instr.fill, ec, List.size_toArray, Array.size_map, Array.size_range]
      rw [if_neg (by simp), Nat.zero_mul, hf]
    exact run_buildSlice w t e 1 #[(0, .agg cs.toArray)] cs.toArray i' z hu hq hi.1 (by rw [hi.2]; omega) (by rw [hi.2]; omega) hfill
theorem wp_buildSlice_one {P : Program} {op : Oper} {a : Act} {w : World} {K : Act → World → Prop} {Q : Exit → Act → World → Prop} (t e : TypeId) (x : Operand) (ho : op.op = .buildSlice t 1 #[(0, x)]) (cs : List Value) (z : Value)
    (hu : P.underlying t = some (.slice e)) (hi : (P.info? e).map (fun i => (i.zero, i.size)) = some (some z, cs.length)) (h0 : 0 < cs.length) (h1 : cs.length ≤ 2 ^ 24)
    (hx : a.eval x = .agg cs.toArray) (h : K (a.put op.dst (.slice (some ⟨w.heap.size, 0, none⟩) 1 1)) (w.alloc (.cells cs.toArray e))) : op.wp P a w K Q := by
  have hr := run_buildSlice_one w t e cs z hu hi h0 h1
  unfold Oper.wp execOp
  simp only [ho, List.map_toArray, List.map_cons, List.map_nil, hx, Sem.run_bind, hr, Sem.run_pure, Result.andThen_ok]
  exact h
/-- make of n elements of one cell each. -/
theorem run_make_one {P : Program} (w : World) (t e : TypeId) (i : TypeInfo) (z : Value) (ht : P.underlying t = some (.slice e)) (hi : P.info? e = some i) (hz : i.zero = some z) (hc : z.cells = #[z]) (hs : i.size = 1)
    (n : Nat) (hb : i.bytes * n ≤ 281474976710656) (hn : n ≤ maxLen) :
    (Instr.makeSlice t (.int .i64 (n : Int)) (.int .i64 (n : Int))).run P w = .ok (.slice (some ⟨w.heap.size, 0, none⟩) n n) (w.alloc (.cells (Array.replicate n z) e)) := by
  unfold maxLen at hn
  have hb' : (i.bytes : Int) * (n : Int) ≤ 281474976710656 := by
    have h : ((i.bytes * n : Nat) : Int) ≤ 281474976710656 := by omega
    rwa [Int.natCast_mul] at h
  have hr := run_make (P := P) w t e i z ht hi hz .i64 .i64 n n (by omega) (by omega) hb' (by omega)
  have em : madeCells #[z] n = Array.replicate n z := by
    apply Array.toList_inj.1
    rw [toList_madeCells_one, Array.toList_replicate]
  rw [hs, hc, Int.toNat_natCast, Nat.mul_one, em] at hr
  exact hr
section
variable {P : Program} {ops : Array Oper} {rest : List Oper} {op : Oper} {a : Act} {w : World} {Q : Exit → Act → World → Prop}
/-- A whole value into the block that was made last. -/
theorem wpList_store_last (hgd : op.guard = none) (ty : TypeId) (x y : Operand) (ho : op.op = .store ty x y) (W : World) (z : Array Value) (t : TypeId) (cells : List Value)
    (hw : w = W.alloc (.cells z t)) (hx : a.eval x = .pointer (some ⟨W.heap.size, 0, none⟩)) (hy : a.eval y = .agg cells.toArray) (hz : z.size = cells.length)
    (hi : (P.info? ty).map (·.size) = some cells.length) (h1 : ∀ v ∈ cells, v.oneCell' = true)
    (h : wpList P ops Q rest (a.put op.dst undef) (W.alloc (.cells cells.toArray t))) : wpList P ops Q (op :: rest) a w := by
  subst hw
  refine wpList_store_row hgd ty x y ho W.heap.size cells.toArray hx hy t z (heap_alloc_last W _) hi hz (all_oneCell_toArray h1) ?_
  rw [World.setRow_alloc_new]
  exact h
/-- copy into cells that are there, wherever they lie. -/
theorem wpList_copy_cells (hgd : op.guard = none) (d s : Operand) (dT sT : TypeId) (ho : op.op = .call { callee := .builtin .copy, args := #[d, s], argTypes := #[dT, sT] })
    (elem : TypeId) (hu : P.underlying dT = some (.slice elem)) (hsz : (P.info? elem).map (·.size) = some 1) (b o dLen dCap : Nat) (ad : Addr) (sLen sCap : Nat)
    (hd : a.eval d = .slice (some ⟨b, o, none⟩) dLen dCap) (hs : a.eval s = .slice (some ad) sLen sCap) (cs : List Value) (hn : cs.length = Nat.min sLen dLen)
    (hsrc : ∀ j v, cs[j]? = some v → w.cell? (ad.add j) = some v) (ht : w.there b o cs.length) (h1 : ∀ v ∈ cs, v.oneCell' = true)
    (h : wpList P ops Q rest (a.put op.dst (goInt cs.length)) (w.setCells b o cs)) : wpList P ops Q (op :: rest) a w := by
  refine wpList_plain hgd fun K hK => ?_
  have hrun := run_copy_cells (P := P) w dT sT op.type elem b o dLen dCap ad sLen sCap cs hu hsz hn hsrc (fun j hj => (ht j hj).1) (fun j hj => (ht j hj).2) h1
  unfold Oper.wp
  simp [execOp, ho, resolve, invoke, builtin, hd, hs, hrun, Result.andThen]
  exact hK _ _ h
theorem wpList_make_one (hgd : op.guard = none) (x y : Operand) (t : TypeId) (ho : op.op = .makeSlice t x y) (e : TypeId) (i : TypeInfo) (z : Value) (ht : P.underlying t = some (.slice e)) (hi : P.info? e = some i) (hz : i.zero = some z) (hc : z.cells = #[z]) (hs : i.size = 1)
    (n : Nat) (hx : a.eval x = .int .i64 (n : Int)) (hy : a.eval y = .int .i64 (n : Int)) (hb : i.bytes * n ≤ 281474976710656) (hn : n ≤ maxLen)
    (h : wpList P ops Q rest (a.put op.dst (.slice (some ⟨w.heap.size, 0, none⟩) n n)) (w.alloc (.cells (Array.replicate n z) e))) : wpList P ops Q (op :: rest) a w := by
  refine wpList_plain hgd fun K hK => ?_
  have hr := run_make_one (P := P) w t e i z ht hi hz hc hs n hb hn
  unfold Oper.wp execOp
  simp only [ho, hx, hy, Sem.run_bind, Sem.run_pure, Result.andThen_ok, hr]
  exact hK _ _ h
/-- copy of a string's bytes into the block that was made last. -/
theorem wpList_copy_string (hgd : op.guard = none) (d s : Operand) (dT sT : TypeId) (ho : op.op = .call { callee := .builtin .copy, args := #[d, s], argTypes := #[dT, sT] })
    (elem : TypeId) (hu : P.underlying dT = some (.slice elem)) (hsz : (P.info? elem).map (·.size) = some 1) (W : World) (c : List Value) (t : TypeId) (o dLen dCap : Nat) (str : ByteArray)
    (hw : w = W.alloc (.cells c.toArray t)) (hd : a.eval d = .slice (some ⟨W.heap.size, o, none⟩) dLen dCap) (hs : a.eval s = .string str) (hl : str.size ≤ dLen) (hfit : o + str.size ≤ c.length)
    (h : wpList P ops Q rest (a.put op.dst (goInt str.size)) (W.alloc (.cells (c.take o ++ bcells str.data.toList ++ c.drop (o + str.size)).toArray t))) : wpList P ops Q (op :: rest) a w := by
  subst hw
  refine wpList_plain hgd fun K hK => ?_
  have hrun := run_copy_string P (W.alloc (.cells c.toArray t)) dT sT op.type elem W.heap.size o dLen dCap str c.toArray t hu hsz (heap_alloc_last W _) hl (by simpa using hfit)
  rw [World.setRow_alloc_new] at hrun
  unfold Oper.wp
  simp only [execOp, ho, resolve, invoke, builtin, Sem.run_bind, Sem.run_pure, Result.andThen_ok, List.map_toArray, List.map_cons, List.map_nil, hd, hs, hrun]
  exact hK _ _ h
end
end Go.Proofs.YtfjfkmoofmncnaaDoor
/- append of a string's bytes: where the new slice lies. No program in sight. -/
namespace Go.Proofs.YtfjfkmoofmncnaaDoor
open Go.RowKit Go.Lib
section
variable {P : Program} {w : World}
theorem append_string_lies (base : Nat) (t u ty e : TypeId) (i : TypeInfo) (ht : P.underlying t = some (.slice e)) (hu : P.underlying u = some .string) (hi : P.info? e = some i) (hz : i.zero = some (.int .u8 0))
    (hs1 : i.size = 1) (hby : i.bytes = 1) {v v' : Value} {w' : World} {n : Nat} {xs : List Value} (hown : w.ownsRow base e 1 v n xs) (s : ByteArray) (h63 : n + s.size ≤ maxLen) (hb : n + s.size ≤ 140737488355328)
    (hr : (Builtin.append_ #[t, u] ty #[v, .string s]).run P w = .ok v' w') (hnil : v' = .slice none 0 0 ↔ v = .slice none 0 0 ∧ s.size = 0) : v'.ownBlock = v.ownBlock ∨ v'.ownBlock = some w.heap.size := by
  have hxl : xs.length = n := by simpa using hown.1
  unfold maxLen at h63
  rcases hown.2 with ⟨rfl, rfl⟩ | ⟨g, cap, cur, rfl, hbg, hg, hnc, hcm, hcs, htake⟩
  · by_cases hm : s.size = 0
    · rw [hnil.2 ⟨rfl, hm⟩]; exact .inl rfl
    · have h2 := run_append_nil_string (P := P) w t u ty e i (.int .u8 0) ht hu hi hz s (by omega) (by omega) (by rw [hby]; omega)
      rw [h2] at hr
      cases hr
      exact .inr rfl
  · by_cases hroom : n + s.size ≤ cap
    · have hcs' : cur.size = cap := by simpa using hcs
      have h2 := run_append_room_string (P := P) w t u ty e i ht hu hi hs1 g n cap cur hg s hroom (by omega)
      rw [h2] at hr
      cases hr
      exact .inl rfl
    · have holds : ∀ j u, xs[j]? = some u → w.cell? ((⟨g, 0, none⟩ : Addr).add j) = some u := hown.cells (g := g) rfl
      have h2 := run_append_grow_string (P := P) w t u ty e i (.int .u8 0) ht hu hi hz ⟨g, 0, none⟩ n cap xs (by rw [hs1]; simpa using hxl) holds s (by omega) (by omega) (by rw [hby]; exact growslice_fits (by omega) (by omega))
      rw [h2] at hr
      cases hr
      exact .inr rfl
theorem wpList_append_string_at {ops : Array Oper} {rest : List Oper} {o : Oper} {a : Act} {Q : Exit → Act → World → Prop} (hgd : o.guard = none) (sl x : Operand) (t u : TypeId)
    (ho : o.op = .call { callee := .builtin .append, args := #[sl, x], argTypes := #[t, u] })
    (base : Nat) (e : TypeId) (i : TypeInfo) (ht : P.underlying t = some (.slice e)) (hu : P.underlying u = some .string) (hi : P.info? e = some i) (hz : i.zero = some (.int .u8 0))
    (hs1 : i.size = 1) (hby : i.bytes = 1)
    (v : Value) (n : Nat) (xs : List Value) (hs : a.eval sl = v) (hown : w.ownsRow base e 1 v n xs) (s : ByteArray) (hx : a.eval x = .string s)
    (h63 : n + s.size ≤ maxLen) (hb : n + s.size ≤ 140737488355328) (hbase : base ≤ w.heap.size)
    (h : ∀ v' w', w'.ownsRow base e 1 v' (n + s.size) (xs ++ strCells s) → w.grownBy w' v.ownBlock → (v'.ownBlock = v.ownBlock ∨ v'.ownBlock = some w.heap.size) → wpList P ops Q rest (a.put o.dst v') w') : wpList P ops Q (o :: rest) a w := by
  refine wpList_plain hgd fun K hK => ?_
  obtain ⟨v', w', hr, h2, h3, h4⟩ := run_append_own_string (P := P) w base t u o.type e i ht hu hi hz hs1 hby v n xs hown s h63 hb hbase
  have h5 := append_string_lies base t u o.type e i ht hu hi hz hs1 hby hown s h63 hb hr h4
  unfold Oper.wp execOp
  simp only [ho, resolve, invoke, builtin, Sem.run_bind, Sem.run_pure, Result.andThen_ok, List.map_toArray, List.map_cons, List.map_nil, hs, hx, hr]
  exact hK _ _ (h v' w' h2 h3 h5)
end
end Go.Proofs.YtfjfkmoofmncnaaDoor
/- The program's Writer of fields: as it lies in memory; NewWriter, put, Num, Text, Bytes. -/
namespace Go.Proofs.YtfjfkmoofmncnaaDoor
open Go.RowKit
/-- The lowest k bytes of n, the lowest first. -/
def leN (n : Nat) (k : Nat) : List UInt8 := (List.range k).map fun i => UInt8.ofNat (n / 256 ^ i)
theorem leN_succ (n k : Nat) : leN n (k + 1) = leN n k ++ [UInt8.ofNat (n / 256 ^ k)] := by simp [leN, List.range_succ]
theorem length_leN (n k : Nat) : (leN n k).length = k := by simp [leN]
theorem bcells_app (a b : List UInt8) : bcells (a ++ b) = bcells a ++ bcells b := by simp [bcells]
theorem row_lens {w : World} {base : Nat} {e : TypeId} {size : Nat} {v : Value} {n : Nat} {xs : List Value} (h : w.ownsRow base e size v n xs) : ∃ a cap, v = .slice a n cap := by
  rcases ownsRow_form h with ⟨h0, h1⟩ | ⟨g, cap, h0, _⟩
  · exact ⟨none, 0, by rw [h0, h1.1]⟩
  · exact ⟨_, _, h0⟩
theorem Tryd.infoU8 : (Tryd.prog.info? 5).map (fun i => (i.zero, i.size, i.bytes)) = some (some (.int .u8 0), 1, 1) := by kernel_rfl
/-- A writer at b, its slice v, its bytes L. -/
structure IsW (w : World) (b : Nat) (v : Value) (L : List UInt8) : Prop where
  c0 : w.cell? ⟨b, 0, none⟩ = some v
  row : w.ownsRow 0 5 1 v L.length (bcells L)
  fro : w.frozen? ⟨b, 0, none⟩ = false
  ne : v.ownBlock ≠ some b
def wfp (b : Nat) (v : Value) (k : Nat) : Prop := k = b ∨ v.ownBlock = some k
section
variable {w : World} {b : Nat} {v : Value} {L : List UInt8}
theorem IsW.lt (h : IsW w b v L) : ∀ k, wfp b v k → k < w.heap.size := by
  intro k hk
  rcases hk with rfl | hk
  · exact World.block_lt_of_cell? w _ h.c0
  · exact (h.row.lt k hk).2
theorem IsW.keeps {w' : World} (h : IsW w b v L) (hk : ∀ k, wfp b v k → w'.heap[k]? = w.heap[k]?) : IsW w' b v L := by
  have hb := hk b (.inl rfl)
  exact ⟨(World.cell?_of_block (a := ⟨b, 0, none⟩) hb).trans h.c0, ownsRow_keep h.row fun k hv => hk k (.inr hv), (World.frozen?_of_block (a := ⟨b, 0, none⟩) hb).trans h.fro, h.ne⟩
theorem IsW.below {w' : World} (h : IsW w b v L) (hb : Below w.heap.size w w') : IsW w' b v L := h.keeps fun k hk => hb.block k (h.lt k hk)
theorem IsW.told {w1 : World} {v' : Value} {L' : List UInt8} (h : IsW w b v L) (hb : w1.heap[b]? = w.heap[b]?) (ho : w1.ownsRow 0 5 1 v' L'.length (bcells L')) (hne : v'.ownBlock ≠ some b) :
    IsW (w1.setCell ⟨b, 0, none⟩ v') b v' L' :=
  ⟨World.cell?_setCell_same _ _ _ ((World.cell?_of_block (a := ⟨b, 0, none⟩) hb).trans h.c0), ownsRow_setCell ho _ _ hne, by rw [World.frozen?_setCell]; exact (World.frozen?_of_block (a := ⟨b, 0, none⟩) hb).trans h.fro, hne⟩
theorem IsW.lens (h : IsW w b v L) : ∃ a cap, v = .slice a L.length cap := by
  rcases ownsRow_form h.row with ⟨h0, h1⟩ | ⟨g, cap, h0, _⟩
  · exact ⟨none, 0, by rw [h0, h1.1]⟩
  · exact ⟨_, _, h0⟩
end
/-- A writer of a caller's own: what was there at w0 is as it was; of the blocks F none is the writer's. -/
def WS (w0 : World) (F : Nat → Prop) (b : Nat) (wr : World) (L : List UInt8) : Prop :=
  ∃ v, IsW wr b v L ∧ Below w0.heap.size w0 wr ∧ (∀ k, wfp b v k → w0.heap.size ≤ k ∧ ¬ F k) ∧ ∀ k, F k → k < wr.heap.size
section
variable {w0 wr w2 : World} {F G : Nat → Prop} {b : Nat} {L : List UInt8}
theorem WS.below (h : WS w0 F b wr L) : Below w0.heap.size w0 wr := h.choose_spec.2.1
theorem WS.fl (h : WS w0 F b wr L) {k : Nat} (hk : F k) : k < wr.heap.size := h.choose_spec.2.2.2 k hk
theorem WS.bl (h : WS w0 F b wr L) : b < wr.heap.size := h.choose_spec.1.lt b (.inl rfl)
theorem WS.also (h : WS w0 F b wr L) (hb : Below wr.heap.size wr w2) (hG : ∀ k, G k → (F k ∨ wr.heap.size ≤ k) ∧ k < w2.heap.size) : WS w0 G b w2 L := by
  obtain ⟨v, h1, h2, h3, h4⟩ := h
  refine ⟨v, h1.below hb, h2.trans (hb.mono h2.size), fun k hk => ⟨(h3 k hk).1, fun hg => ?_⟩, fun k hk => (hG k hk).2⟩
  rcases (hG k hg).1 with h5 | h5
  · exact (h3 k hk).2 h5
  · have := h1.lt k hk; omega
theorem WS.more (h : WS w0 F b wr L) (hb : Below wr.heap.size wr w2) : WS w0 F b w2 L := h.also hb fun _ hk => ⟨.inl hk, Nat.lt_of_lt_of_le (h.fl hk) hb.size⟩
/-- The row is told anew. -/
theorem WS.pushed {v v5 : Value} {w5 : World} {L' : List UInt8} (h1 : IsW wr b v L) (h2 : Below w0.heap.size w0 wr) (h3 : ∀ k, wfp b v k → w0.heap.size ≤ k ∧ ¬ F k) (h4 : ∀ k, F k → k < wr.heap.size)
    (hm : Moves (wfp b v) wr w5) (hb5 : w5.heap[b]? = wr.heap[b]?) (ho : w5.ownsRow 0 5 1 v5 L'.length (bcells L')) (hor : v5.ownBlock = v.ownBlock ∨ ∀ k, v5.ownBlock = some k → wr.heap.size ≤ k) :
    WS w0 F b (w5.setCell ⟨b, 0, none⟩ v5) L' ∧ ∀ q, F q → (w5.setCell ⟨b, 0, none⟩ v5).heap[q]? = wr.heap[q]? := by
  have hbl := h1.lt b (.inl rfl)
  have hne : v5.ownBlock ≠ some b := by
    rcases hor with h | h
    · rw [h]; exact h1.ne
    · intro e; have := h b e; omega
  have hm2 : Moves (wfp b v) wr (w5.setCell ⟨b, 0, none⟩ v5) := hm.setCell _ _ (.inl (.inl rfl))
  refine ⟨⟨v5, h1.told hb5 ho hne, h2.trans (hm2.below h2.size fun k hk => (h3 k hk).1), fun k hk => ?_, fun k hk => Nat.lt_of_lt_of_le (h4 k hk) hm2.size⟩, fun q hq => hm2.block q (h4 q hq) fun hw => (h3 q hw).2 hq⟩
  rcases hk with hk | hk
  · exact h3 k (.inl hk)
  · rcases hor with h | h
    · exact h3 k (.inr (h ▸ hk))
    · have := h k hk
      exact ⟨Nat.le_trans h2.size this, fun hf => by have := h4 k hf; omega⟩
set_option maxRecDepth 100000 in
theorem WS.new (w0 : World) (F : Nat → Prop) (hb : Below w0.heap.size w0 wr) (hF : ∀ k, F k → k < wr.heap.size) : Calls Tryd.prog 18 #[] wr fun e w' => e = .returned (.pointer (some ⟨wr.heap.size, 0, none⟩)) ∧ WS w0 F wr.heap.size w' [] ∧ Below wr.heap.size wr w' := by
  go_enter Tryd.func18, Tryd.ntmps18
  go_wp2_with fail
  go_ret
  have hb1 : Below wr.heap.size wr (wr.alloc (.cells #[.slice none 0 0] 137)) := (Below.refl _ _).alloc (Nat.le_refl _) _
  refine ⟨rfl, ⟨.slice none 0 0, ⟨?_, World.ownsRow_nil _ _ _ _, World.frozen?_alloc_new _ _ _ _, by simp [Value.ownBlock]⟩, hb.trans (hb1.mono hb.size), fun k hk => ?_, fun k hk => Nat.lt_of_lt_of_le (hF k hk) hb1.size⟩, hb1⟩
  · rw [World.cell?_alloc_new]; rfl
  · rcases hk with rfl | hk
    · exact ⟨hb.size, fun h => by have := hF _ h; omega⟩
    · simp [Value.ownBlock] at hk
set_option maxRecDepth 100000 in
set_option maxHeartbeats 2000000 in
theorem WS.put (h : WS w0 F b wr L) (hl : L.length ≤ 1000000) (n k : Nat) (hk : k ≤ 8) (hn : n < 9223372036854775808) :
    Calls Tryd.prog 44 #[.pointer (some ⟨b, 0, none⟩), .int .i64 (n : Int), .int .i64 (k : Int)] wr fun e w' => e = .returned (.tuple #[]) ∧ WS w0 F b w' (L ++ leN n k) ∧ ∀ q, F q → w'.heap[q]? = wr.heap[q]? := by
  obtain ⟨i0, hi0, hz0, hz1, hz2⟩ := info_parts Tryd.infoU8
  have Hi := Lib.hid hi0
  have Hz := Lib.hid hz0
  have Hz1 := Lib.hid hz1
  have Hz2 := Lib.hid hz2
  clear hi0 hz0 hz1 hz2
  have H := Lib.hid h
  clear h
  go_enter Tryd.func44, Tryd.ntmps44
  go_wp2_with fail
  go_loopw [1, 7] (fun x i w => ∃ j : Nat, j ≤ k ∧ i = .int .i64 (j : Int) ∧ x = .int .i64 ((n / 256 ^ j : Nat) : Int) ∧ WS w0 F b w (L ++ leN n j) ∧ ∀ q, F q → w.heap[q]? = wr.heap[q]?) (fun _ i _ => k - (intOf i).toNat)
  case atStart => exact ⟨0, Nat.zero_le _, rfl, by simp, by simpa [leN] using H.out, fun _ _ => rfl⟩
  case round =>
    obtain ⟨j, hj, rfl, rfl, hs, hf⟩ := hrel
    by_cases hlt : j < k
    · obtain ⟨v, h1, h2, h3, h4⟩ := hs
      obtain ⟨a, cap, rfl⟩ := h1.lens
      have hlj : (L ++ leN n j).length ≤ 1000008 := by rw [List.length_append, length_leN]; omega
      have hnj : (n / 256 ^ j : Nat) < 9223372036854775808 := Nat.lt_of_le_of_lt (Nat.div_le_self _ _) hn
      have hnx : n / 256 ^ (j + 1) = n / 256 ^ j / 256 := by rw [Nat.pow_succ, Nat.div_div_eq_div_mul]
      have hsn : L ++ leN n (j + 1) = (L ++ leN n j) ++ [UInt8.ofNat (n / 256 ^ j)] := by rw [leN_succ, List.append_assoc]
      generalize hLL : L ++ leN n j = LL at h1 h3 hlj hsn
      generalize hNN : n / 256 ^ j = NN at hnj hnx hsn ⊢
      have hbt : [Value.int .u8 ((NN : Int) % 256)] = bcells [UInt8.ofNat NN] := by simp [bcells]
      have c0 := h1.c0
      have f0 := h1.fro
      have hbl := h1.lt b (.inl rfl)
      have hoA := World.ownsRow.alloc h1.row (.cells #[.int .u8 ((NN : Int) % 256)] 5)
      have hcl : ∀ j u, [Value.int .u8 ((NN : Int) % 256)][j]? = some u → (wr.alloc (.cells #[.int .u8 ((NN : Int) % 256)] 5)).cell? ((⟨wr.heap.size, 0, none⟩ : Addr).add j) = some u := fun j u hj => by
        rw [Addr.add_mid, Nat.zero_add, World.cell?_alloc_new]
        simpa using hj
      have hml : LL.length + 1 ≤ maxLen := by unfold maxLen; omega
      have O1 : ∀ v ∈ [Value.int .u8 ((NN : Int) % 256)], v.oneCell' = true := fun v hv => by simp at hv; subst hv; rfl
      have hbA : Below wr.heap.size wr (wr.alloc (.cells #[.int .u8 ((NN : Int) % 256)] 5)) := (Below.refl _ _).alloc (Nat.le_refl _) _
      have H1 := Lib.hid h1
      have H2 := Lib.hid h2
      have H3 := Lib.hid h3
      have H4 := Lib.hid h4
      have HF := Lib.hid hf
      have HOA := Lib.hid hoA
      have Hcl := Lib.hid hcl
      have HBT := Lib.hid hbt
      have HSN := Lib.hid hsn
      have HNX := Lib.hid hnx
      have HBA := Lib.hid hbA
      clear h1 h2 h3 h4 hf hLL hNN hoA hcl hbt hsn hnx hbA
      go_wp2_with (refine wpList_append_own_at _ rfl (.tmp 13) (.tmp 16) 24 rfl 0 5 i0 _ 1 1 Tryd.underlying24 Hi.out Hz.out Hz1.out Hz2.out rfl (by decide) _ LL.length (bcells LL) rfl HOA.out ⟨wr.heap.size, 0, none⟩ 1 1 [.int .u8 ((NN : Int) % 256)] rfl rfl Hcl.out O1 hml (by omega) (Nat.zero_le _) ?_)
      intro v5 w5 hown5 hgrow hnn hor
      rw [HBT.out, ← bcells_app] at hown5
      obtain ⟨a5, cap5, rfl⟩ := row_lens hown5
      have hb5 : w5.heap[b]? = wr.heap[b]? := (hgrow.block b (by simp; omega) (fun e => H1.out.ne e.symm)).trans (HBA.out.block b hbl)
      have hm5 : Moves (wfp b (.slice a LL.length cap)) wr w5 := (Moves.of_below HBA.out).grown hgrow fun q hq => .inl (.inr hq)
      have hps := WS.pushed (L' := LL ++ [UInt8.ofNat NN]) H1.out H2.out H3.out H4.out hm5 hb5 (by rw [List.length_append]; exact hown5) (hor.imp id fun h k hk => by rw [h] at hk; cases hk; omega)
      have c5 : w5.cell? ⟨b, 0, none⟩ = some (.slice a LL.length cap) := (World.cell?_of_block (a := ⟨b, 0, none⟩) hb5).trans c0
      have f5 : w5.frozen? ⟨b, 0, none⟩ = false := (World.frozen?_of_block (a := ⟨b, 0, none⟩) hb5).trans f0
      have HPS := Lib.hid hps
      clear hown5 hgrow hnn hor hb5 hm5 hps c0 f0
      go_wp2_with fail
      go_roundw
      case rel =>
        refine ⟨j + 1, by omega, by go_num, by rw [HNX.out]; go_num, by rw [HSN.out]; exact HPS.out.1, fun q hq => (HPS.out.2 q hq).trans (HF.out q hq)⟩
      case measure => simp [intOf]; omega
    · have ej : j = k := by omega
      have HS := Lib.hid hs
      have HF := Lib.hid hf
      rw [ej] at HS
      clear hs hf ej
      go_wp2_with fail
      go_end0
      exact ⟨rfl, HS.out, HF.out⟩
/-- A fault at q. -/
structure IsF (w : World) (q : Nat) (e i : Int) : Prop where
  c0 : w.cell? ⟨q, 0, none⟩ = some (.int .i64 e)
  c1 : w.cell? ⟨q, 1, none⟩ = some (.int .i64 i)
  c2 : w.cell? ⟨q, 2, none⟩ = some .nilIface
theorem IsF.below {w w' : World} {q : Nat} {e i : Int} (h : IsF w q e i) (hb : Below w.heap.size w w') : IsF w' q e i := by
  have hk := hb.block q (World.block_lt_of_cell? w _ h.c0)
  exact ⟨(World.cell?_of_block (a := ⟨q, 0, none⟩) hk).trans h.c0, (World.cell?_of_block (a := ⟨q, 1, none⟩) hk).trans h.c1, (World.cell?_of_block (a := ⟨q, 2, none⟩) hk).trans h.c2⟩
set_option maxRecDepth 100000 in
theorem wrap_any (e i : Int) (he : (e == 0) = false) : Calls Tryd.prog 43 #[.int .i64 e, .int .i64 i, .nilIface] wr fun en w' => en = .returned (.iface 178 (.pointer (some ⟨wr.heap.size, 0, none⟩))) ∧ IsF w' wr.heap.size e i ∧ Below wr.heap.size wr w' ∧ wr.heap.size < w'.heap.size := by
  go_enter Tryd.func43, Tryd.ntmps43
  go_wp2_with fail
  go_ret
  refine ⟨rfl, ⟨?_, ?_, ?_⟩, (Below.refl _ _).alloc (Nat.le_refl _) _, by simp⟩ <;> (rw [World.cell?_alloc_new]; rfl)
set_option maxRecDepth 100000 in
theorem wrap_ok (i : Int) : Calls Tryd.prog 43 #[.int .i64 0, .int .i64 i, .nilIface] wr fun en w' => en = .returned .nilIface ∧ wr = w' := by
  go_enter Tryd.func43, Tryd.ntmps43
  go_wp2_with fail
  go_ret
  exact ⟨rfl, rfl⟩
def NumOk (w0 : World) (F : Nat → Prop) (b : Nat) (wr : World) (L : List UInt8) (e : Ending) (w' : World) : Prop := e = .returned .nilIface ∧ WS w0 F b w' L ∧ ∀ q, F q → w'.heap[q]? = wr.heap[q]?
set_option maxRecDepth 100000 in
set_option maxHeartbeats 2000000 in
theorem WS.num (h : WS w0 F b wr L) (hl : L.length ≤ 1000000) (n k : Nat) (hk : k = 1 ∨ k = 2 ∨ k = 4 ∨ k = 8) (hn : n < 256 ^ k) (hn8 : n < 9223372036854775808) :
    Calls Tryd.prog 20 #[.pointer (some ⟨b, 0, none⟩), .int .i64 (n : Int), .int .i64 (k : Int)] wr (NumOk w0 F b wr (L ++ leN n k)) := by
  have hp := h.put hl n k (by omega) hn8
  have hn0 : decide ((n : Int) < 0) = false := by simp
  rcases hk with rfl | rfl | rfl | rfl
  · have hn1 : decide ((255 : Int) < (n : Int)) = false := by simp; omega
    have hn2 : n ≤ 255 := by omega
    clear h hl hn hn8
    go_enter Tryd.func20, Tryd.ntmps20
    go_wp2_with fail
    refine hp.mono ?_
    rintro e w1 ⟨rfl, hs, hf⟩
    have HS := Lib.hid hs
    have HF := Lib.hid hf
    clear hp hs hf
    go_wp2_with fail
    go_ret
    exact ⟨rfl, HS.out, HF.out⟩
  · have hn1 : decide ((65535 : Int) < (n : Int)) = false := by simp; omega
    have hn2 : n ≤ 65535 := by omega
    clear h hl hn hn8
    go_enter Tryd.func20, Tryd.ntmps20
    go_wp2_with fail
    refine hp.mono ?_
    rintro e w1 ⟨rfl, hs, hf⟩
    have HS := Lib.hid hs
    have HF := Lib.hid hf
    clear hp hs hf
    go_wp2_with fail
    go_ret
    exact ⟨rfl, HS.out, HF.out⟩
  · have hn1 : decide ((4294967295 : Int) < (n : Int)) = false := by simp; omega
    have hn2 : n ≤ 4294967295 := by omega
    clear h hl hn hn8
    go_enter Tryd.func20, Tryd.ntmps20
    go_wp2_with fail
    refine hp.mono ?_
    rintro e w1 ⟨rfl, hs, hf⟩
    have HS := Lib.hid hs
    have HF := Lib.hid hf
    clear hp hs hf
    go_wp2_with fail
    go_ret
    exact ⟨rfl, HS.out, HF.out⟩
  · have hn1 : decide ((9223372036854775807 : Int) < (n : Int)) = false := by simp; omega
    have hn2 : n ≤ 9223372036854775807 := by omega
    clear h hl hn hn8
    go_enter Tryd.func20, Tryd.ntmps20
    go_wp2_with fail
    refine hp.mono ?_
    rintro e w1 ⟨rfl, hs, hf⟩
    have HS := Lib.hid hs
    have HF := Lib.hid hf
    clear hp hs hf
    go_wp2_with fail
    go_ret
    exact ⟨rfl, HS.out, HF.out⟩
theorem strCells_eq (s : ByteArray) : Lib.strCells s = bcells s.data.toList := rfl
set_option maxRecDepth 100000 in
theorem WS.bytes (h : WS w0 F b wr L) :
    Calls Tryd.prog 21 #[.pointer (some ⟨b, 0, none⟩)] wr fun e w' => e = .returned (.string ⟨L.toArray⟩) ∧ wr = w' := by
  obtain ⟨v, h1, -⟩ := h
  obtain ⟨a, cap, rfl⟩ := h1.lens
  have c0 := h1.c0
  have hconv : (convert 24 9 (.slice a L.length cap)).run Tryd.prog wr = .ok (.string ⟨L.toArray⟩) wr := by
    rcases ownsRow_form h1.row with ⟨h0, h2⟩ | ⟨g, cap', h0, _⟩
    · have : L = [] := List.length_eq_zero_iff.1 h2.1
      subst this
      cases h0
      exact run_convert_bytes_string wr 24 9 5 none 0 0 Tryd.underlying24 Tryd.underlying5 Tryd.underlying9
    · cases h0
      exact run_convert_bytes_back wr 24 9 5 ⟨g, 0, none⟩ cap L Tryd.underlying24 Tryd.underlying5 Tryd.underlying9 fun j hj => by
        have := World.ownsRow.cells h1.row (g := g) rfl j (.int .u8 (L[j].toNat : Int)) (by simp [bcells, hj])
        exact this
  clear h1
  go_enter Tryd.func21, Tryd.ntmps21
  go_wp2_with fail
  go_ret
  exact ⟨rfl, rfl⟩
/-- A number that does not fit. -/
def NumBad (w0 : World) (F : Nat → Prop) (b : Nat) (wr : World) (L : List UInt8) (e : Ending) (w' : World) : Prop := ∃ q : Nat, e = .returned (.iface 178 (.pointer (some ⟨q, 0, none⟩))) ∧ WS w0 F b w' L ∧ ∀ q, F q → w'.heap[q]? = wr.heap[q]?
def numFits (n : Int) (k : Nat) : Prop := 0 ≤ n ∧ n < 256 ^ k
set_option maxRecDepth 100000 in
set_option maxHeartbeats 2000000 in
theorem WS.num_bad (h : WS w0 F b wr L) (n : Int) (k : Nat) (hk : k = 1 ∨ k = 2 ∨ k = 4 ∨ k = 8) (hn : ¬ numFits n k) (hn7 : -9223372036854775808 ≤ n) (hn8 : n < 9223372036854775808) :
    Calls Tryd.prog 20 #[.pointer (some ⟨b, 0, none⟩), .int .i64 n, .int .i64 (k : Int)] wr (NumBad w0 F b wr L) := by
  obtain ⟨v, h1, -⟩ := id h
  obtain ⟨a, cap, rfl⟩ := h1.lens
  have c0 := h1.c0
  have hwp := wrap_any (wr := wr) 1 (L.length : Int) rfl
  have H := Lib.hid h
  have hfin : ∀ w', Below wr.heap.size wr w' → WS w0 F b w' L ∧ ∀ q, F q → w'.heap[q]? = wr.heap[q]? := fun w' hb => ⟨H.out.more hb, fun q hq => hb.block q (H.out.fl hq)⟩
  have HFin := Lib.hid hfin
  unfold numFits at hn
  clear h h1 hfin
  by_cases hn0 : n < 0
  · have hn1 : decide (n < 0) = true := by simpa using hn0
    rcases hk with rfl | rfl | rfl | rfl
    all_goals
      clear hn
      go_enter Tryd.func20, Tryd.ntmps20
      go_wp2_with fail
      refine hwp.mono ?_
      rintro e w1 ⟨rfl, -, hb, -⟩
      have HQ := Lib.hid (HFin.out _ hb)
      clear hwp hb
      go_wp2_with fail
      go_ret
      exact ⟨_, rfl, HQ.out⟩
  · have hn1 : decide (n < 0) = false := by simpa using hn0
    obtain ⟨m, rfl⟩ := Int.eq_ofNat_of_zero_le (show 0 ≤ n by omega)
    rcases hk with rfl | rfl | rfl | rfl
    · have hn2 : decide ((255 : Int) < (m : Int)) = true := by simp; omega
      have hn3 : 255 < m := by omega
      clear hn
      go_enter Tryd.func20, Tryd.ntmps20
      go_wp2_with fail
      refine hwp.mono ?_
      rintro e w1 ⟨rfl, -, hb, -⟩
      have HQ := Lib.hid (HFin.out _ hb)
      clear hwp hb
      go_wp2_with fail
      go_ret
      exact ⟨_, rfl, HQ.out⟩
    · have hn2 : decide ((65535 : Int) < (m : Int)) = true := by simp; omega
      have hn3 : 65535 < m := by omega
      clear hn
      go_enter Tryd.func20, Tryd.ntmps20
      go_wp2_with fail
      refine hwp.mono ?_
      rintro e w1 ⟨rfl, -, hb, -⟩
      have HQ := Lib.hid (HFin.out _ hb)
      clear hwp hb
      go_wp2_with fail
      go_ret
      exact ⟨_, rfl, HQ.out⟩
    · have hn2 : decide ((4294967295 : Int) < (m : Int)) = true := by simp; omega
      have hn3 : 4294967295 < m := by omega
      clear hn
      go_enter Tryd.func20, Tryd.ntmps20
      go_wp2_with fail
      refine hwp.mono ?_
      rintro e w1 ⟨rfl, -, hb, -⟩
      have HQ := Lib.hid (HFin.out _ hb)
      clear hwp hb
      go_wp2_with fail
      go_ret
      exact ⟨_, rfl, HQ.out⟩
    · exact absurd ⟨by omega, by omega⟩ hn
end
end Go.Proofs.YtfjfkmoofmncnaaDoor
/- An acceptor as it lies in memory; New, since, Votes. -/
namespace Go.Proofs.YtfjfkmoofmncnaaDoor
open Go.RowKit
/-- What an acceptor holds of a slot. -/
structure Vt where
  bal : Int
  val : ByteArray
/-- A vote: a slot's value, by a ballot. -/
structure Vote where
  slot : Int
  bal : Int
  val : ByteArray
namespace Vote
def cells (v : Vote) : List Value := [.int .i64 v.slot, .int .i64 v.bal, .string v.val]
def val' (v : Vote) : Value := .agg #[.int .i64 v.slot, .int .i64 v.bal, .string v.val]
def zero : Vote := ⟨0, 0, ⟨#[]⟩⟩
end Vote
theorem one_vcells (v : Vote) : ∀ x ∈ v.cells, x.oneCell' = true := by
  intro x hx
  simp only [Vote.cells, List.mem_cons, List.not_mem_nil, or_false] at hx
  rcases hx with rfl | rfl | rfl <;> rfl
def vrows (l : List Vote) : List Value := l.flatMap Vote.cells
theorem vrows_app (a b : List Vote) : vrows (a ++ b) = vrows a ++ vrows b := by simp [vrows]
theorem length_vrows (l : List Vote) : (vrows l).length = l.length * 3 := by
  induction l with
  | nil => rfl
  | cons x r ih => show (x.cells ++ vrows r).length = _; rw [List.length_append, ih]; simp [Vote.cells]; omega
theorem one_vrows (l : List Vote) : ∀ v ∈ vrows l, v.oneCell' = true := by
  intro v hv
  obtain ⟨m, _, h⟩ := List.mem_flatMap.1 hv
  exact one_vcells m v h
theorem vrows_at : ∀ (l : List Vote) (k : Nat) (m : Vote), l[k]? = some m → ∀ j v, m.cells[j]? = some v → (vrows l)[k * 3 + j]? = some v
  | [], k, m, h, _, _, _ => by simp at h
  | y :: r, 0, m, h, j, v, hv => by
    simp at h
    subst h
    have hj : j < y.cells.length := (List.getElem?_eq_some_iff.1 hv).1
    show (y.cells ++ vrows r)[0 * 3 + j]? = _
    rw [Nat.zero_mul, Nat.zero_add, List.getElem?_append_left hj]
    exact hv
  | y :: r, k + 1, m, h, j, v, hv => by
    have hy : y.cells.length = 3 := rfl
    show (y.cells ++ vrows r)[(k + 1) * 3 + j]? = _
    rw [List.getElem?_append_right (by omega), hy, show (k + 1) * 3 + j - 3 = k * 3 + j by omega]
    exact vrows_at r k m (by simpa using h) j v hv
theorem Tryd.infoVote : (Tryd.prog.info? 100).map (fun i => (i.zero, i.size, i.bytes)) = some (some Vote.zero.val', 3, 32) := by kernel_rfl
/-- A vote in a block of its own. -/
def VBox (w : World) (u : Nat) (v : Vote) : Prop := ∀ j x, v.cells[j]? = some x → w.cell? ⟨u, j, none⟩ = some x
theorem VBox.lt {w : World} {u : Nat} {v : Vote} (h : VBox w u v) : u < w.heap.size := World.block_lt_of_cell? w _ (h 0 _ rfl)
theorem VBox.keep {w w' : World} {u : Nat} {v : Vote} (h : VBox w u v) (hk : w'.heap[u]? = w.heap[u]?) : VBox w' u v := fun j x hj => (World.cell?_of_block (a := ⟨u, j, none⟩) hk).trans (h j x hj)
theorem VBox.made (w : World) (v : Vote) (T : TypeId) : VBox (w.alloc (.cells v.cells.toArray T)) w.heap.size v := fun j x hj => by
  rw [World.cell?_alloc_new]; simpa using hj
/-- The cell of a slot. -/
def vptr (B : Nat → Nat) (V : Nat → Option Vt) (i : Nat) : Value := match V i with
  | none => .pointer none
  | some _ => .pointer (some ⟨B i, 0, none⟩)
/-- An acceptor at b: what it promised, its votes (in the blocks B). -/
structure IsAcc (w : World) (b : Nat) (p : Int) (B : Nat → Nat) (V : Nat → Option Vt) : Prop where
  c0 : w.cell? ⟨b, 0, none⟩ = some (.int .i64 p)
  cs : ∀ i, i < 4096 → w.cell? ⟨b, 1 + i, none⟩ = some (vptr B V i)
  vs : ∀ i x, V i = some x → VBox w (B i) ⟨i, x.bal, x.val⟩
  fro : ∀ o, w.frozen? ⟨b, o, none⟩ = false
/-- An acceptor, whose votes lie in none of the blocks X. -/
def Acc (w : World) (X : Nat → Prop) (b : Nat) (p : Int) (V : Nat → Option Vt) : Prop := ∃ B, IsAcc w b p B V ∧ ∀ i x, V i = some x → ¬ X (B i)
section
variable {w w' : World} {X Y : Nat → Prop} {b b' : Nat} {p : Int} {V : Nat → Option Vt} {B : Nat → Nat}
theorem IsAcc.lt (h : IsAcc w b p B V) : b < w.heap.size := World.block_lt_of_cell? w _ h.c0
theorem IsAcc.keep (h : IsAcc w b p B V) (hk : w'.heap[b]? = w.heap[b]?) (hv : ∀ i x, V i = some x → w'.heap[B i]? = w.heap[B i]?) : IsAcc w' b p B V :=
  ⟨(World.cell?_of_block (a := ⟨b, 0, none⟩) hk).trans h.c0, fun i hi => (World.cell?_of_block (a := ⟨b, 1 + i, none⟩) hk).trans (h.cs i hi), fun i x hx => (h.vs i x hx).keep (hv i x hx), fun o => (World.frozen?_of_block (a := ⟨b, o, none⟩) hk).trans (h.fro o)⟩
theorem IsAcc.below (h : IsAcc w b p B V) (hb : Below w.heap.size w w') : IsAcc w' b p B V := h.keep (hb.block b h.lt) fun i x hx => hb.block _ (h.vs i x hx).lt
theorem Acc.lt (h : Acc w X b p V) : b < w.heap.size := h.choose_spec.1.lt
theorem Acc.below (h : Acc w X b p V) (hb : Below w.heap.size w w') : Acc w' X b p V := by
  obtain ⟨B, h1, h2⟩ := h
  exact ⟨B, h1.below hb, h2⟩
theorem Acc.moves (h : Acc w X b p V) (hm : Moves (fun q => q = b') w w') (hX : X b') (hne : b ≠ b') : Acc w' X b p V := by
  obtain ⟨B, h1, h2⟩ := h
  exact ⟨B, h1.keep (hm.block b h1.lt hne) fun i x hx => hm.block _ (h1.vs i x hx).lt fun e => h2 i x hx (e ▸ hX), h2⟩
/-- The blocks X may be others, where no vote lies in them. -/
theorem Acc.also (h : Acc w X b p V) (hY : ∀ q, q < w.heap.size → Y q → X q) : Acc w Y b p V := by
  obtain ⟨B, h1, h2⟩ := h
  exact ⟨B, h1, fun i x hx hy => h2 i x hx (hY _ (h1.vs i x hx).lt hy)⟩
def zAcc : List Value := .int .i64 0 :: List.replicate 4096 (.pointer none)
set_option maxRecDepth 1000000 in
theorem Tryd.infoAcc : (Tryd.prog.info? 135).map (fun i => (i.zero, i.size)) = some (some (.agg zAcc.toArray), 4097) := by kernel_rfl
set_option maxRecDepth 1000000 in
theorem Tryd.infoRow : (Tryd.prog.info? 133).map (·.size) = some 4096 := by kernel_rfl
set_option maxRecDepth 100000 in
theorem newacc_any (X : Nat → Prop) : Calls Tryd.prog 17 #[] w fun e w' => e = .returned (.pointer (some ⟨w.heap.size, 0, none⟩)) ∧ Acc w' X w.heap.size 0 (fun _ => none) ∧ Below w.heap.size w w' := by
  have hz := (zero_of_info Tryd.infoAcc).1
  have hfin : Acc (w.alloc (.cells zAcc.toArray 135)) X w.heap.size 0 (fun _ => none) ∧ Below w.heap.size w (w.alloc (.cells zAcc.toArray 135)) := by
    refine ⟨⟨fun _ => 0, ⟨?_, fun i hi => ?_, fun i x hx => by simp at hx, fun o => World.frozen?_alloc_new _ _ _ _⟩, fun i x hx => by simp at hx⟩, (Below.refl _ _).alloc (Nat.le_refl _) _⟩
    · rw [World.cell?_alloc_new]; rfl
    · rw [World.cell?_alloc_new, List.getElem?_toArray]
      unfold zAcc vptr
      rw [Nat.add_comm, List.getElem?_cons_succ, List.getElem?_replicate, if_pos hi]
  have HF := Lib.hid hfin
  clear hfin
  go_enter Tryd.func17, Tryd.ntmps17
  go_wp2_with fail
  go_ret
  exact ⟨rfl, HF.out⟩
set_option maxRecDepth 100000 in
theorem Tryd.idxRow (CL : List Value) (k : Nat) (x : Value) (hk : k < 4096) (hx : CL[k]? = some x) (w : World) : (Instr.index 133 (.agg CL.toArray) (.int .i64 (k : Int))).run Tryd.prog w = .ok x w := by
  have hu := Tryd.underlying133
  have hs : (sizeOf 132).run Tryd.prog w = .ok 1 w := by kernel_rfl
  have ha : (isAgg 132).run Tryd.prog w = .ok false w := by kernel_rfl
  have h1 : (0 : Int) ≤ (k : Int) ∧ (k : Int) < ((4096 : Nat) : Int) := ⟨by omega, by omega⟩
  simp only [Instr.index, asIntOf, Sem.run_bind, Sem.run_pure, Result.andThen_ok, run_underlying hu]
  rw [if_pos h1]
  simp only [Sem.run_bind, hs, Result.andThen_ok, part, ha, Bool.false_eq_true, if_false, Int.toNat_natCast, Nat.mul_one, List.getElem?_toArray, hx, Sem.run_pure]
/-- The votes of the slots from lo on, below k. -/
def votesTo (V : Nat → Option Vt) (lo : Int) (k : Nat) : List Vote := (List.range k).filterMap fun (i : Nat) => if lo ≤ (i : Int) then (V i).map fun x => ⟨(i : Int), x.bal, x.val⟩ else none
theorem votesTo_succ (V : Nat → Option Vt) (lo : Int) (k : Nat) : votesTo V lo (k + 1) = votesTo V lo k ++ (if lo ≤ (k : Int) then (match V k with | none => [] | some x => [⟨(k : Int), x.bal, x.val⟩]) else []) := by
  unfold votesTo
  rw [List.range_succ, List.filterMap_append]
  congr 1
  by_cases h : lo ≤ (k : Int)
  · cases hv : V k <;> simp [h, hv]
  · simp [h]
theorem votesTo_len (V : Nat → Option Vt) (lo : Int) (k : Nat) : (votesTo V lo k).length ≤ k := by
  have := List.length_filterMap_le (fun (i : Nat) => if lo ≤ (i : Int) then (V i).map fun x => (⟨(i : Int), x.bal, x.val⟩ : Vote) else none) (List.range k)
  simpa [votesTo] using this
set_option maxRecDepth 100000 in
set_option maxHeartbeats 4000000 in
theorem since_any (h : Acc w X b p V) (lo : Int) :
    Calls Tryd.prog 48 #[.pointer (some ⟨b, 0, none⟩), .int .i64 lo] w fun e w' => ∃ v, e = .returned v ∧ w'.ownsRow w.heap.size 100 3 v (votesTo V lo 4096).length (vrows (votesTo V lo 4096)) ∧ Below w.heap.size w w' := by
  obtain ⟨i0, hi0, hz0, hz1, hz2⟩ := info_parts Tryd.infoVote
  have Hi := Lib.hid hi0
  have Hz := Lib.hid hz0
  have Hz1 := Lib.hid hz1
  have Hz2 := Lib.hid hz2
  clear hi0 hz0 hz1 hz2
  obtain ⟨B, h1, -⟩ := h
  obtain ⟨CL, hCL⟩ : ∃ CL, CL = (List.range 4096).map (vptr B V) := ⟨_, rfl⟩
  have hrng : w.rangeAt b 1 CL := fun j u hj => by
    subst hCL
    have hjl : j < 4096 := by have := (List.getElem?_eq_some_iff.1 hj).1; simpa using this
    rw [h1.cs j hjl]
    simp [hjl] at hj
    rw [hj]
  have hln : CL.length = 4096 := by subst hCL; simp
  have hat : ∀ k, k < 4096 → CL[k]? = some (vptr B V k) := fun k hk => by subst hCL; simp [hk]
  have hsz : (Tryd.prog.info? 133).map (·.size) = some CL.length := by rw [hln]; exact Tryd.infoRow
  have H1 := Lib.hid h1
  have Hat := Lib.hid hat
  have Hln := Lib.hid hln
  clear hCL hln hat h1
  go_enter Tryd.func48, Tryd.ntmps48
  go_wp2_with (refine wpList_load_mid rfl 133 (.tmp 10) rfl b 1 rfl CL _ hrng Tryd.underlying133 rfl hsz ?_)
  go_loopw [5, 6, 7, 12] (fun v _ _ c wr => ∃ k : Nat, k ≤ 4096 ∧ c = .int .i64 (k : Int) ∧ wr.ownsRow w.heap.size 100 3 v (votesTo V lo k).length (vrows (votesTo V lo k)) ∧ Below w.heap.size w wr) (fun _ _ _ c _ => 4096 - (intOf c).toNat)
  case atStart => exact ⟨0, by omega, rfl, by show World.ownsRow _ _ _ _ _ 0 []; exact World.ownsRow_nil _ _ _ _, Below.refl _ _⟩
  case round =>
    obtain ⟨k, hk, rfl, ho, hb⟩ := hrel
    by_cases hlt : k < 4096
    · have hidx := Tryd.idxRow CL k _ hlt (Hat.out k hlt)
      have hsn := votesTo_succ V lo k
      have hln := votesTo_len V lo k
      obtain ⟨a, cap, rfl⟩ := row_lens ho
      cases hv : V k with
      | none =>
        rw [show vptr B V k = .pointer none by unfold vptr; rw [hv]] at hidx
        have hs2 : votesTo V lo (k + 1) = votesTo V lo k := by rw [hsn, hv]; simp
        have HS2 := Lib.hid hs2
        have HO := Lib.hid ho
        have HB := Lib.hid hb
        clear hsn hs2 ho hb hv
        go_wp2_with fail
        go_roundw
        case rel => exact ⟨k + 1, by omega, by go_num, by rw [HS2.out]; exact HO.out, HB.out⟩
        case measure => simp [intOf]; omega
      | some x =>
        rw [show vptr B V k = .pointer (some ⟨B k, 0, none⟩) by unfold vptr; rw [hv]] at hidx
        have hvb := (H1.out.vs k x hv)
        have hvk : VBox wr (B k) ⟨k, x.bal, x.val⟩ := hvb.keep (hb.block _ hvb.lt)
        by_cases hlo : lo ≤ (k : Int)
        · have e1 : decide (lo ≤ (k : Int)) = true := by simpa using hlo
          have hs2 : votesTo V lo (k + 1) = votesTo V lo k ++ [⟨(k : Int), x.bal, x.val⟩] := by rw [hsn, if_pos hlo, hv]
          have z0 := hvk 0 _ rfl
          have z1 := hvk 1 _ rfl
          have z2 := hvk 2 _ rfl
          dsimp only at z0 z1 z2
          have hbA : Below w.heap.size w (wr.alloc (.cells #[.int .i64 (k : Int), .int .i64 x.bal, .string x.val] 100)) := hb.alloc hb.size _
          have hoA := World.ownsRow.alloc ho (.cells #[.int .i64 (k : Int), .int .i64 x.bal, .string x.val] 100)
          have hcl : ∀ j u, (Vote.cells ⟨(k : Int), x.bal, x.val⟩)[j]? = some u → (wr.alloc (.cells #[.int .i64 (k : Int), .int .i64 x.bal, .string x.val] 100)).cell? ((⟨wr.heap.size, 0, none⟩ : Addr).add j) = some u := fun j u hj => by
            rw [Addr.add_mid, Nat.zero_add, World.cell?_alloc_new]
            simpa [Vote.cells] using hj
          have hml : (votesTo V lo k).length + 1 ≤ maxLen := by unfold maxLen; omega
          have hbs := hbA.size
          have O1 := one_vcells ⟨(k : Int), x.bal, x.val⟩
          have HS2 := Lib.hid hs2
          have HOA := Lib.hid hoA
          have HBA := Lib.hid hbA
          have Hcl := Lib.hid hcl
          generalize votesTo V lo k = LL at HS2 HOA hln hml ⊢
          clear hsn hs2 ho hb hv hvb hvk hbA hoA hcl
          go_wp2_with (refine wpList_append_own_at _ rfl (.tmp 23) (.tmp 27) 90 rfl w.heap.size 100 i0 _ 3 32 Tryd.underlying90 Hi.out Hz.out Hz1.out Hz2.out rfl (by decide) _ LL.length (vrows LL) rfl HOA.out ⟨wr.heap.size, 0, none⟩ 1 1 (Vote.cells ⟨(k : Int), x.bal, x.val⟩) rfl rfl Hcl.out O1 hml (by omega) hbs ?_)
          intro v5 w5 hown5 hgrow hnn hor
          have hb5 : Below w.heap.size w w5 := HBA.out.trans ⟨hgrow.os, hgrow.tape, hgrow.output, hgrow.size, fun q hq => hgrow.block q (Nat.lt_of_lt_of_le hq HBA.out.size) (fun e => by have := (HOA.out.lt q e.symm).1; omega)⟩
          have HO5 := Lib.hid (show w5.ownsRow w.heap.size 100 3 v5 (votesTo V lo (k + 1)).length (vrows (votesTo V lo (k + 1))) by
            rw [HS2.out, List.length_append, vrows_app]; exact hown5)
          have HB5 := Lib.hid hb5
          clear hown5 hgrow hnn hor hb5
          go_wp2_with fail
          go_roundw
          case rel => exact ⟨k + 1, by omega, by go_num, HO5.out, HB5.out⟩
          case measure => simp [intOf]; omega
        · have e1 : decide (lo ≤ (k : Int)) = false := by simpa using hlo
          have hs2 : votesTo V lo (k + 1) = votesTo V lo k := by rw [hsn, if_neg hlo]; simp
          have HS2 := Lib.hid hs2
          have HO := Lib.hid ho
          have HB := Lib.hid hb
          clear hsn hs2 ho hb hv hvb hvk
          go_wp2_with fail
          go_roundw
          case rel => exact ⟨k + 1, by omega, by go_num, by rw [HS2.out]; exact HO.out, HB.out⟩
          case measure => simp [intOf]; omega
    · have ek : k = 4096 := by omega
      subst ek
      have HO := Lib.hid ho
      have HB := Lib.hid hb
      clear ho hb
      go_wp2_with fail
      go_ret
      exact ⟨_, rfl, HO.out, HB.out⟩
end
end Go.Proofs.YtfjfkmoofmncnaaDoor
/- The acceptor's Votes, Prepare, Accept; Number. -/
namespace Go.Proofs.YtfjfkmoofmncnaaDoor
open Go.RowKit
section
variable {w w' : World} {X Y : Nat → Prop} {b b' : Nat} {p : Int} {V : Nat → Option Vt} {B : Nat → Nat}
set_option maxRecDepth 100000 in
theorem ballot_yes (n : Int) (h1 : 1 ≤ n) (h2 : n ≤ 1099511627776) : Calls Tryd.prog 47 #[.int .i64 n] w fun e w' => e = .returned (.bool true) ∧ w = w' := by
  have e1 : decide (1 ≤ n) = true := by simpa using h1
  have e2 : decide (n ≤ 1099511627776) = true := by simpa using h2
  go_enter Tryd.func47, Tryd.ntmps47
  go_wp2_with fail
  go_ret
  exact ⟨rfl, rfl⟩
theorem IsAcc.promise (h : IsAcc w b p B V) (hB : ∀ i x, V i = some x → B i ≠ b) (n : Int) : IsAcc (w.setCell ⟨b, 0, none⟩ (.int .i64 n)) b n B V := by
  refine ⟨World.cell?_setCell_same _ _ _ h.c0, fun i hi => ?_, fun i x hx => (h.vs i x hx).keep (Below.heap_setCell _ _ _ _ (hB i x hx)), fun o => by rw [World.frozen?_setCell]; exact h.fro o⟩
  rw [World.cell?_setCell_other _ _ _ _ (by intro e; injection e with e1 e2; omega)]; exact h.cs i hi
set_option maxRecDepth 100000 in
set_option maxHeartbeats 2000000 in
theorem prep_ok (h : Acc w X b p V) (hX : X b) (n : Int) (h1 : 1 ≤ n) (h2 : n ≤ 1099511627776) (hp : p ≤ n) (lo : Int) :
    Calls Tryd.prog 27 #[.pointer (some ⟨b, 0, none⟩), .int .i64 n, .int .i64 lo] w fun e w' => ∃ v, e = .returned (.tuple #[v, .int .i64 0]) ∧ w'.ownsRow w.heap.size 100 3 v (votesTo V lo 4096).length (vrows (votesTo V lo 4096)) ∧ Acc w' X b n V ∧ Moves (fun q => q = b) w w' := by
  have hbl := ballot_yes (w := w) n h1 h2
  obtain ⟨B, ha, hv⟩ := h
  have c0 := ha.c0
  have f0 := ha.fro 0
  have e1 : decide (n < p) = false := by simpa using hp
  have hac : Acc (w.setCell ⟨b, 0, none⟩ (.int .i64 n)) X b n V := ⟨B, ha.promise (fun i x hx e => hv i x hx (e ▸ hX)) n, hv⟩
  have hs := since_any hac lo
  rw [show (w.setCell ⟨b, 0, none⟩ (.int .i64 n)).heap.size = w.heap.size by simp] at hs
  have HA := Lib.hid hac
  have HM := Lib.hid ((Moves.refl (fun q => q = b) w).setCell ⟨b, 0, none⟩ (.int .i64 n) (.inl rfl))
  generalize votesTo V lo 4096 = LL at hs ⊢
  clear ha hv hac
  go_enter Tryd.func27, Tryd.ntmps27
  go_wp2_with fail
  refine hbl.mono ?_
  rintro e w1 ⟨rfl, rfl⟩
  clear hbl
  go_wp2_with fail
  refine hs.mono ?_
  rintro e w2 ⟨v, rfl, ho, hb⟩
  have hb' : Below (w.setCell ⟨b, 0, none⟩ (.int .i64 n)).heap.size (w.setCell ⟨b, 0, none⟩ (.int .i64 n)) w2 := by simpa using hb
  have HO := Lib.hid ho
  have HA2 := Lib.hid (HA.out.below hb')
  have HM2 := Lib.hid (HM.out.trans (Moves.of_below (F := fun _ => False) hb') fun _ h => h.elim)
  clear hs ho hb hb' c0 f0
  go_wp2_with fail
  go_ret2
  exact ⟨_, rfl, HO.out, HA2.out, HM2.out⟩
set_option maxRecDepth 100000 in
set_option maxHeartbeats 2000000 in
theorem prep_old (h : Acc w X b p V) (n : Int) (h1 : 1 ≤ n) (h2 : n ≤ 1099511627776) (hp : n < p) (lo : Int) :
    Calls Tryd.prog 27 #[.pointer (some ⟨b, 0, none⟩), .int .i64 n, .int .i64 lo] w fun e w' => e = .returned (.tuple #[.slice none 0 0, .int .i64 5]) ∧ w = w' := by
  have hbl := ballot_yes (w := w) n h1 h2
  obtain ⟨B, ha, hv⟩ := h
  have c0 := ha.c0
  have e1 : decide (n < p) = true := by simpa using hp
  clear ha hv
  go_enter Tryd.func27, Tryd.ntmps27
  go_wp2_with fail
  refine hbl.mono ?_
  rintro e w1 ⟨rfl, rfl⟩
  clear hbl
  go_wp2_with fail
  go_ret2
  exact ⟨rfl, rfl⟩
def updV (V : Nat → Option Vt) (s : Nat) (x : Vt) (i : Nat) : Option Vt := if i = s then some x else V i
theorem IsAcc.vote (h : IsAcc w b p B V) (hB : ∀ i x, V i = some x → B i ≠ b) (s : Nat) (u : Nat) (x : Vt) (hu : VBox w u ⟨s, x.bal, x.val⟩) (hub : u ≠ b) :
    IsAcc (w.setCell ⟨b, 1 + s, none⟩ (.pointer (some ⟨u, 0, none⟩))) b p (fun i => if i = s then u else B i) (updV V s x) := by
  refine ⟨by rw [World.cell?_setCell_other _ _ _ _ (by intro e; injection e with e1 e2; omega)]; exact h.c0, fun i hi => ?_, fun i y hy => ?_, fun o => by rw [World.frozen?_setCell]; exact h.fro o⟩
  · by_cases his : i = s
    · subst his
      rw [World.cell?_setCell_same _ _ _ (h.cs i hi)]
      simp [vptr, updV]
    · rw [World.cell?_setCell_other _ _ _ _ (by intro e; injection e with e1 e2; omega), h.cs i hi]
      simp [vptr, updV, his]
  · by_cases his : i = s
    · subst his
      simp only [updV, if_true, Option.some.injEq] at hy
      subst hy
      rw [if_pos rfl]
      exact hu.keep (Below.heap_setCell _ _ _ _ hub)
    · rw [updV, if_neg his] at hy
      rw [if_neg his]
      exact (h.vs i y hy).keep (Below.heap_setCell _ _ _ _ (hB i y hy))
set_option maxRecDepth 100000 in
set_option maxHeartbeats 2000000 in
theorem accept_ok (h : Acc w X b p V) (hX : X b) (hXl : ∀ q, X q → q < w.heap.size) (s : Nat) (hs : s < 4096) (n : Int) (h1 : 1 ≤ n) (h2 : n ≤ 1099511627776) (hp : p ≤ n) (t : ByteArray) (ht : t.size ≤ 1024) :
    Calls Tryd.prog 32 #[.pointer (some ⟨b, 0, none⟩), .agg #[.int .i64 (s : Int), .int .i64 n, .string t]] w fun e w' => e = .returned (.int .i64 0) ∧ Acc w' X b n (updV V s ⟨n, t⟩) ∧ Moves (fun q => q = b) w w' := by
  obtain ⟨B, ha, hv⟩ := h
  have hsi : (s : Int) < 4096 := by omega
  have hbA : Below w.heap.size w (w.alloc (.cells #[.int .i64 (s : Int), .int .i64 n, .string t] 100)) := (Below.refl _ _).alloc (Nat.le_refl _) _
  have haA := ha.below hbA
  have hvb : VBox (w.alloc (.cells #[.int .i64 (s : Int), .int .i64 n, .string t] 100)) w.heap.size ⟨s, n, t⟩ := VBox.made w ⟨s, n, t⟩ _
  have hub : w.heap.size ≠ b := by have := ha.lt; omega
  have hnb : ∀ i x, V i = some x → B i ≠ b := fun i x hx e => hv i x hx (e ▸ hX)
  have hvx : ∀ i x, updV V s ⟨n, t⟩ i = some x → ¬ X (if i = s then w.heap.size else B i) := fun i x hx => by
    by_cases his : i = s
    · rw [if_pos his]; intro hq; have := hXl _ hq; omega
    · rw [updV, if_neg his] at hx
      rw [if_neg his]; exact hv i x hx
  have hbl := ballot_yes (w := w.alloc (.cells #[.int .i64 (s : Int), .int .i64 n, .string t] 100)) n h1 h2
  have z0 := hvb 0 _ rfl
  have z1 := hvb 1 _ rfl
  have z2 := hvb 2 _ rfl
  dsimp only at z0 z1 z2
  have c0 := haA.c0
  have e0 : decide ((s : Int) < 0) = false := by simp
  have e1 : decide ((4096 : Int) ≤ (s : Int)) = false := by simp; omega
  have e2 : decide ((1024 : Int) < (t.size : Int)) = false := by simp; omega
  have e3 : decide (n < p) = false := by simpa using hp
  have HA := Lib.hid haA
  have HVB := Lib.hid hvb
  have HVX := Lib.hid hvx
  have HNB := Lib.hid hnb
  have HM := Lib.hid (Moves.of_below (F := fun q => q = b) hbA)
  clear ha hv hbA haA hvb hnb hvx
  go_enter Tryd.func32, Tryd.ntmps32
  go_wp2_with fail
  refine hbl.mono ?_
  rintro e w1 ⟨rfl, rfl⟩
  clear hbl
  go_wp2_with fail
  go_quiet (fail)
  have hbq : Below (w.alloc (.cells #[.int .i64 (s : Int), .int .i64 n, .string t] 100)).heap.size (w.alloc (.cells #[.int .i64 (s : Int), .int .i64 n, .string t] 100)) ((w.alloc (.cells #[.int .i64 (s : Int), .int .i64 n, .string t] 100)).drewN nq) := ⟨rfl, rfl, rfl, Nat.le_refl _, fun _ _ => rfl⟩
  have ha1 := HA.out.below hbq
  have hv1 := HVB.out.keep (w' := (w.alloc (.cells #[.int .i64 (s : Int), .int .i64 n, .string t] 100)).drewN nq) rfl
  have hm1 := HM.out.drewN nq
  clear hbq z0 z1 z2 c0 HA HVB HM
  generalize (w.alloc (.cells #[.int .i64 (s : Int), .int .i64 n, .string t] 100)).drewN nq = W1 at ha1 hv1 hm1 ⊢
  generalize w.heap.size = u at hv1 hub HVX ⊢
  have y0 := hv1 0 _ rfl
  have y1 := hv1 1 _ rfl
  dsimp only at y0 y1
  have d0 := ha1.c0
  have f0 := ha1.fro 0
  have ha2 := ha1.promise HNB.out n
  have hv2 : VBox (W1.setCell ⟨b, 0, none⟩ (.int .i64 n)) u ⟨s, n, t⟩ := hv1.keep (Below.heap_setCell _ _ _ _ hub)
  have hm2 := hm1.setCell ⟨b, 0, none⟩ (.int .i64 n) (.inl rfl)
  have HA2 := Lib.hid ha2
  have HV2 := Lib.hid hv2
  have HM2 := Lib.hid hm2
  clear ha1 hv1 hm1 ha2 hv2 hm2 e3
  go_wp2_with fail
  clear d0 f0 y0 y1
  generalize W1.setCell ⟨b, 0, none⟩ (.int .i64 n) = W2 at HA2 HV2 HM2 ⊢
  have x0 := HV2.out 0 _ rfl
  dsimp only at x0
  have g0 := HA2.out.fro (1 + s)
  have gc := HA2.out.cs s hs
  have hsn : (0 : Int) ≤ (s : Int) := by omega
  have hst : ((s : Int)).toNat = s := by omega
  have HFin := Lib.hid (show Acc (W2.drew.setCell ⟨b, 1 + s, none⟩ (.pointer (some ⟨u, 0, none⟩))) X b n (updV V s ⟨n, t⟩) from ⟨_, (HA2.out.below (w' := W2.drew) ⟨rfl, rfl, rfl, Nat.le_refl _, fun _ _ => rfl⟩).vote HNB.out s u ⟨n, t⟩ (HV2.out.keep rfl) hub, HVX.out⟩)
  have HMF := Lib.hid (HM2.out.drew.setCell ⟨b, 1 + s, none⟩ (.pointer (some ⟨u, 0, none⟩)) (.inl rfl))
  refine wp_region_still_tail 6 (by kernel_rfl) (by kernel_rfl) ?_
  simp only [List.take_succ_cons, List.take_zero, List.drop_succ_cons, List.drop_zero]
  iterate 6 still_step
  refine wpStill_nil ?_
  go_wp2_with fail
  go_ret
  exact ⟨rfl, HFin.out, HMF.out⟩
set_option maxRecDepth 100000 in
set_option maxHeartbeats 2000000 in
theorem accept_old (h : Acc w X b p V) (s : Nat) (hs : s < 4096) (n : Int) (h1 : 1 ≤ n) (h2 : n ≤ 1099511627776) (hp : n < p) (t : ByteArray) (ht : t.size ≤ 1024) :
    Calls Tryd.prog 32 #[.pointer (some ⟨b, 0, none⟩), .agg #[.int .i64 (s : Int), .int .i64 n, .string t]] w fun e w' => e = .returned (.int .i64 5) ∧ Below w.heap.size w w' := by
  obtain ⟨B, ha, -⟩ := h
  have hbA : Below w.heap.size w (w.alloc (.cells #[.int .i64 (s : Int), .int .i64 n, .string t] 100)) := (Below.refl _ _).alloc (Nat.le_refl _) _
  have haA := ha.below hbA
  have hvb : VBox (w.alloc (.cells #[.int .i64 (s : Int), .int .i64 n, .string t] 100)) w.heap.size ⟨s, n, t⟩ := VBox.made w ⟨s, n, t⟩ _
  have hbl := ballot_yes (w := w.alloc (.cells #[.int .i64 (s : Int), .int .i64 n, .string t] 100)) n h1 h2
  have z0 := hvb 0 _ rfl
  have z1 := hvb 1 _ rfl
  have z2 := hvb 2 _ rfl
  dsimp only at z0 z1 z2
  have c0 := haA.c0
  have e0 : decide ((s : Int) < 0) = false := by simp
  have e1 : decide ((4096 : Int) ≤ (s : Int)) = false := by simp; omega
  have e2 : decide ((1024 : Int) < (t.size : Int)) = false := by simp; omega
  have e3 : decide (n < p) = true := by simpa using hp
  have HB := Lib.hid hbA
  clear ha hbA haA hvb
  go_enter Tryd.func32, Tryd.ntmps32
  go_wp2_with fail
  refine hbl.mono ?_
  rintro e w1 ⟨rfl, rfl⟩
  clear hbl
  go_wp2_with fail
  go_quiet (fail)
  go_wp2_with fail
  go_ret
  exact ⟨rfl, HB.out.trans ⟨rfl, rfl, rfl, Nat.le_refl _, fun _ _ => rfl⟩⟩
set_option maxRecDepth 100000 in
set_option maxHeartbeats 2000000 in
theorem number_ok (r n : Int) (hr : 0 ≤ r) (hr2 : r ≤ 100000) (hn : 0 ≤ n) (hn2 : n < 8) : Calls Tryd.prog 23 #[.int .i64 r, .int .i64 n] w fun e w' => e = .returned (.tuple #[.int .i64 (r * 8 + n + 1), .int .i64 0]) ∧ w = w' := by
  have e0 : decide (r < 0) = false := by simpa using hr
  have e1 : decide (n < 0) = false := by simpa using hn
  have e2 : decide (8 ≤ n) = false := by simpa using hn2
  have e3 : decide ((1099511627775 - n) / 8 < r) = false := by simp; omega
  go_enter Tryd.func23, Tryd.ntmps23
  go_wp2_with fail
  go_ret2
  exact ⟨rfl, rfl⟩
end
end Go.Proofs.YtfjfkmoofmncnaaDoor
/- Bytes as a string; a cell of a row of votes. -/
namespace Go.Proofs.YtfjfkmoofmncnaaDoor
open Go.RowKit
/-- Bytes as a string. -/
def bstr (l : List UInt8) : ByteArray := ⟨l.toArray⟩
theorem bstr_size (l : List UInt8) : (bstr l).size = l.length := by simp [bstr, ByteArray.size]
theorem bstr_app (a b : List UInt8) : bstr a ++ bstr b = bstr (a ++ b) := by
  apply ByteArray.ext
  rw [ByteArray.data_append]
  simp [bstr]
theorem bstr_list (l : List UInt8) : (bstr l).data.toList = l := by simp [bstr]
theorem bstr_of (s : ByteArray) : bstr s.data.toList = s := by cases s; simp [bstr]
theorem bstr_extract (l : List UInt8) (i j : Nat) : (bstr l).extract i j = bstr ((l.drop i).take (j - i)) := by
  apply ByteArray.ext
  rw [ByteArray.data_extract]
  apply Array.toList_inj.1
  simp [bstr, List.extract_eq_take_drop]
theorem rowcell {w : World} {base : Nat} {v : Value} {l : List Vote} (h : w.ownsRow base 100 3 v l.length (vrows l)) {k : Nat} {m : Vote} (hk : l[k]? = some m) :
    ∃ g cap, v = .slice (some ⟨g, 0, none⟩) l.length cap ∧ ∀ j x, m.cells[j]? = some x → w.cell? ⟨g, k * 3 + j, none⟩ = some x := by
  have hkl := (List.getElem?_eq_some_iff.1 hk).1
  rcases ownsRow_form h with ⟨h0, h1⟩ | ⟨g, cap, rfl, _⟩
  · have : l.length = 0 := h1.1
    omega
  · refine ⟨g, cap, rfl, fun j x hj => ?_⟩
    have hj3 : j < 3 := (List.getElem?_eq_some_iff.1 hj).1
    rw [World.ownsRow.cellAt h (k * 3 + j) (by omega)]
    exact vrows_at l k m hk j x hj
end Go.Proofs.YtfjfkmoofmncnaaDoor
