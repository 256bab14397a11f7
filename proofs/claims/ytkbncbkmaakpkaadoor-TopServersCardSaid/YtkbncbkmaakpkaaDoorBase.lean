/- Plain facts on worlds: what a call may turn (Moves), and how cells, ranges and owned rows stay. No program in sight. -/
import Derived.WalkKit
import Derived.WalkSpells
import Derived.Deep.MidRow
import Derived.Deep.Draws
import Derived.Deep.WholeRow
import Derived.Lib.Hide
import Derived.Great.BuildSlice
namespace Go.Proofs.YtkbncbkmaakpkaaDoor
open Go.RowKit

/-- Nothing but the blocks of F, of those that were there, has turned. -/
structure Moves (F : Nat → Prop) (w w' : World) : Prop where
  os : w'.os = w.os
  tape : w'.tape = w.tape
  output : w'.output = w.output
  size : w.heap.size ≤ w'.heap.size
  block : ∀ k, k < w.heap.size → ¬ F k → w'.heap[k]? = w.heap[k]?

theorem Moves.refl (F : Nat → Prop) (w : World) : Moves F w w := ⟨rfl, rfl, rfl, Nat.le_refl _, fun _ _ _ => rfl⟩
theorem Moves.trans {F F' : Nat → Prop} {a b c : World} (h : Moves F a b) (k : Moves F' b c) (hf : ∀ i, F' i → F i ∨ a.heap.size ≤ i) : Moves F a c :=
  ⟨k.os.trans h.os, k.tape.trans h.tape, k.output.trans h.output, Nat.le_trans h.size k.size, fun i hi hn =>
    (k.block i (Nat.lt_of_lt_of_le hi h.size) (fun hF => by rcases hf i hF with h1 | h1; exact hn h1; omega)).trans (h.block i hi hn)⟩
theorem Moves.mono {F F' : Nat → Prop} {a b : World} (h : Moves F a b) (hf : ∀ i, i < a.heap.size → F i → F' i) : Moves F' a b :=
  ⟨h.os, h.tape, h.output, h.size, fun i hi hn => h.block i hi (fun hF => hn (hf i hi hF))⟩
theorem Moves.drew {F : Nat → Prop} {a b : World} (h : Moves F a b) : Moves F a b.drew := ⟨h.os, h.tape, h.output, h.size, h.block⟩
theorem Moves.drewN {F : Nat → Prop} {a b : World} (h : Moves F a b) (n : Nat) : Moves F a (b.drewN n) := ⟨h.os, h.tape, h.output, h.size, h.block⟩
theorem Moves.alloc {F : Nat → Prop} {a b : World} (h : Moves F a b) (o : Obj) : Moves F a (b.alloc o) :=
  ⟨h.os, h.tape, h.output, by have := h.size; simp; omega, fun i hi hn => (Below.heap_alloc _ _ _ (Nat.lt_of_lt_of_le hi h.size)).trans (h.block i hi hn)⟩
theorem Moves.setCell {F : Nat → Prop} {a b : World} (h : Moves F a b) (p : Addr) (v : Value) (hp : F p.block ∨ a.heap.size ≤ p.block) : Moves F a (b.setCell p v) :=
  ⟨h.os, h.tape, h.output, by have := h.size; simpa using this, fun i hi hn => (Below.heap_setCell _ _ _ _ (fun e => by subst e; rcases hp with h1 | h1; exact hn h1; omega)).trans (h.block i hi hn)⟩
theorem heap_setCells (b k : Nat) (hk : k ≠ b) : ∀ (vs : List Value) (o : Nat) (w : World), (w.setCells b o vs).heap[k]? = w.heap[k]?
  | [], _, _ => rfl
  | v :: r, o, w => by rw [World.setCells, heap_setCells b k hk r]; exact Below.heap_setCell _ _ _ _ hk
theorem size_setCells (b : Nat) : ∀ (vs : List Value) (o : Nat) (w : World), (w.setCells b o vs).heap.size = w.heap.size
  | [], _, _ => rfl
  | v :: r, o, w => by rw [World.setCells, size_setCells b r]; simp
theorem os_setCells (b : Nat) : ∀ (vs : List Value) (o : Nat) (w : World), (w.setCells b o vs).os = w.os ∧ (w.setCells b o vs).tape = w.tape ∧ (w.setCells b o vs).output = w.output
  | [], _, _ => ⟨rfl, rfl, rfl⟩
  | v :: r, o, w => by rw [World.setCells]; exact os_setCells b r _ _
theorem Moves.setCells {F : Nat → Prop} {a b : World} (h : Moves F a b) (g o : Nat) (vs : List Value) (hp : F g ∨ a.heap.size ≤ g) : Moves F a (b.setCells g o vs) :=
  ⟨(os_setCells g vs o b).1.trans h.os, (os_setCells g vs o b).2.1.trans h.tape, (os_setCells g vs o b).2.2.trans h.output, by rw [size_setCells]; exact h.size,
    fun i hi hn => (heap_setCells g i (fun e => by subst e; rcases hp with h1 | h1; exact hn h1; omega) vs o b).trans (h.block i hi hn)⟩
theorem Moves.grown {F : Nat → Prop} {a b c : World} {row : Option Nat} (h : Moves F a b) (hg : b.grownBy c row) (hr : ∀ k, row = some k → F k ∨ a.heap.size ≤ k) : Moves F a c :=
  ⟨hg.os.trans h.os, hg.tape.trans h.tape, hg.output.trans h.output, Nat.le_trans h.size hg.size, fun i hi hn =>
    (hg.block i (Nat.lt_of_lt_of_le hi h.size) (fun e => by rcases hr i e.symm with h1 | h1; exact hn h1; omega)).trans (h.block i hi hn)⟩
theorem Moves.below {F : Nat → Prop} {a b : World} (h : Moves F a b) {B : Nat} (hB : B ≤ a.heap.size) (hF : ∀ k, F k → B ≤ k) : Below B a b :=
  ⟨h.os, h.tape, h.output, h.size, fun k hk => h.block k (by omega) (fun hf => by have := hF k hf; omega)⟩
theorem Moves.of_below {F : Nat → Prop} {a b : World} (h : Below a.heap.size a b) : Moves F a b := ⟨h.os, h.tape, h.output, h.size, fun k hk _ => h.block k hk⟩
theorem Moves.cell {F : Nat → Prop} {a b : World} (h : Moves F a b) {p : Addr} (hp : p.block < a.heap.size) (hn : ¬ F p.block) : b.cell? p = a.cell? p :=
  World.cell?_of_block (w := a) (h.block p.block hp hn)
theorem Moves.frozen {F : Nat → Prop} {a b : World} (h : Moves F a b) {p : Addr} (hp : p.block < a.heap.size) (hn : ¬ F p.block) : b.frozen? p = a.frozen? p :=
  World.frozen?_of_block (w := a) (h.block p.block hp hn)

/-- The blocks of an owned row. -/
theorem ownsRow_keep {w w' : World} {base : Nat} {e : TypeId} {size : Nat} {v : Value} {n : Nat} {xs : List Value} (h : w.ownsRow base e size v n xs)
    (hk : ∀ k, v.ownBlock = some k → w'.heap[k]? = w.heap[k]?) : w'.ownsRow base e size v n xs := by
  obtain ⟨h1, h2⟩ := h
  refine ⟨h1, ?_⟩
  rcases h2 with h2 | ⟨g, cap, cur, hv, hg, hh, r⟩
  · exact .inl h2
  · exact .inr ⟨g, cap, cur, hv, hg, by rw [hk g (by rw [hv]; rfl)]; exact hh, r⟩
theorem ownsRow_setCell {w : World} {base : Nat} {e : TypeId} {size : Nat} {v : Value} {n : Nat} {xs : List Value} (h : w.ownsRow base e size v n xs)
    (p : Addr) (u : Value) (hk : v.ownBlock ≠ some p.block) : (w.setCell p u).ownsRow base e size v n xs :=
  ownsRow_keep h fun k hv => Below.heap_setCell _ _ _ _ (fun e => hk (by rw [hv, e]))
theorem ownsRow_setCells {w : World} {base : Nat} {e : TypeId} {size : Nat} {v : Value} {n : Nat} {xs : List Value} (h : w.ownsRow base e size v n xs)
    (g o : Nat) (vs : List Value) (hk : v.ownBlock ≠ some g) : (w.setCells g o vs).ownsRow base e size v n xs :=
  ownsRow_keep h fun k hv => heap_setCells g k (fun e => hk (by rw [hv, e])) vs o w
theorem ownsRow_base {w : World} {base base' : Nat} {e : TypeId} {size : Nat} {v : Value} {n : Nat} {xs : List Value} (h : w.ownsRow base e size v n xs)
    (hb : ∀ k, v.ownBlock = some k → base' ≤ k) : w.ownsRow base' e size v n xs := by
  obtain ⟨h1, h2⟩ := h
  refine ⟨h1, ?_⟩
  rcases h2 with h2 | ⟨g, cap, cur, hv, hg, r⟩
  · exact .inl h2
  · exact .inr ⟨g, cap, cur, hv, hb g (by rw [hv]; rfl), r⟩
/-- The value of an owned row, by its parts; and every cell of it. -/
theorem ownsRow_form {w : World} {base : Nat} {e : TypeId} {size : Nat} {v : Value} {n : Nat} {xs : List Value} (h : w.ownsRow base e size v n xs) :
    (v = .slice none 0 0 ∧ n = 0 ∧ xs = []) ∨ ∃ g cap, v = .slice (some ⟨g, 0, none⟩) n cap ∧ base ≤ g ∧ g < w.heap.size ∧ n ≤ cap ∧ cap ≤ maxLen ∧ w.rangeAt g 0 xs ∧ (∀ j, w.frozen? ⟨g, j, none⟩ = false) := by
  rcases h.2 with ⟨h1, h2⟩ | ⟨g, cap, cur, rfl, hg, hh, hn, hm, hs, ht⟩
  · refine .inl ⟨h1, h2, ?_⟩
    have := h.1
    rw [h2, Nat.zero_mul] at this
    exact List.eq_nil_of_length_eq_zero this
  · refine .inr ⟨g, cap, rfl, hg, (Array.getElem?_eq_some_iff.1 hh).1, hn, hm, fun j u hu => ?_, fun j => frozen_of_row w g j cur e hh⟩
    rw [Nat.zero_add, cell_of_row w g j cur e (0, 0) hh]
    rw [← ht, List.getElem?_take] at hu
    split at hu
    · simpa using hu
    · cases hu

theorem ownsRow_slice {w : World} {base : Nat} {e : TypeId} {size : Nat} {v : Value} {n : Nat} {xs : List Value} (h : w.ownsRow base e size v n xs) :
    ∃ a cap, v = .slice a n cap ∧ n ≤ cap ∧ cap ≤ maxLen ∧ (0 < n → ∃ g, a = some ⟨g, 0, none⟩) := by
  rcases ownsRow_form h with ⟨rfl, h1, _⟩ | ⟨g, cap, rfl, _, _, h1, h2, _⟩
  · exact ⟨none, 0, by rw [h1], by omega, by simp [maxLen], fun h => by omega⟩
  · exact ⟨_, cap, rfl, h1, h2, fun _ => ⟨g, rfl⟩⟩
theorem rangeAt_part {w : World} {b o : Nat} {cs : List Value} (h : w.rangeAt b o cs) (k : Nat) (ds : List Value) (hd : ∀ j v, ds[j]? = some v → cs[k + j]? = some v) : w.rangeAt b (o + k) ds :=
  fun j v hv => by rw [Nat.add_assoc]; exact h (k + j) v (hd j v hv)
theorem rangeAt_congr {w w' : World} {b o : Nat} {cs : List Value} (h : w.rangeAt b o cs) (hb : w'.heap[b]? = w.heap[b]?) : w'.rangeAt b o cs :=
  fun j v hv => (World.cell?_of_block (a := ⟨b, o + j, none⟩) hb).trans (h j v hv)
theorem rangeAt_setCell {w : World} {b o : Nat} {cs : List Value} (h : w.rangeAt b o cs) (p : Addr) (v : Value) (hp : p.block ≠ b ∨ p.off < o ∨ o + cs.length ≤ p.off) : (w.setCell p v).rangeAt b o cs :=
  fun j u hu => by
    have hj : j < cs.length := (List.getElem?_eq_some_iff.1 hu).1
    rw [World.cell?_setCell_other]
    · exact h j u hu
    · intro e
      subst e
      rcases hp with h1 | h1 | h1
      · exact h1 rfl
      · simp at h1; omega
      · simp at h1; omega

/-- Bytes as cells. -/
def bcells (s : List UInt8) : List Value := s.map fun b => .int .u8 (b.toNat : Int)
theorem length_bcells (s : List UInt8) : (bcells s).length = s.length := by simp [bcells]
theorem one_bcells (s : List UInt8) : ∀ v ∈ bcells s, v.oneCell' = true := by
  intro v hv
  simp [bcells] at hv
  obtain ⟨x, _, rfl⟩ := hv
  rfl
theorem run_copy_string (P : Program) (w : World) (dT sT ty elem : TypeId) (g o dLen dCap : Nat) (str : ByteArray) (cur : Array Value) (t : TypeId)
    (hu : P.underlying dT = some (.slice elem)) (hs : (P.info? elem).map (·.size) = some 1) (hg : w.heap[g]? = some (.cells cur t (0, 0))) (hl : str.size ≤ dLen) (hfit : o + str.size ≤ cur.size) :
    (Builtin.copy_ #[dT, sT] ty #[.slice (some ⟨g, o, none⟩) dLen dCap, .string str]).run P w =
      .ok (goInt str.size) (w.setRow g (cur.toList.take o ++ bcells str.data.toList ++ cur.toList.drop (o + str.size)).toArray) := by
  have e1 : Nat.min str.size dLen = str.size := Nat.min_eq_left hl
  have hlen : (bcells str.data.toList).length = str.size := by rw [length_bcells]; rfl
  have hst := run_storeCells_at P g o t (bcells str.data.toList) 0 cur w hg (by rw [hlen]; simpa using hfit) (one_bcells _)
  have et : List.take str.size (bcells str.data.toList) = bcells str.data.toList := List.take_of_length_le (by omega)
  rw [hlen, Nat.add_zero] at hst
  cases hq : P.info? elem with
  | none => simp [hq] at hs
  | some i =>
    simp [Builtin.copy_, run_underlying hu, Builtin.lenOf, Builtin.firstCells, sizeOf, typeInfo, hq, e1, ← bcells.eq_1, et, hst]
theorem fill_all (cs : List Value) : ∀ (l : List Value) (k : Nat) (acc : Array Value), acc.size = cs.length → cs.drop k = l → (∀ j, j < k → acc[j]? = cs[j]?) →
    (l.zipIdx k).foldl (fun (a : Array Value) (x : Value × Nat) => a.setIfInBounds (0 + x.2) x.1) acc = cs.toArray
  | [], k, acc, hs, hd, ha => by
    have hk : cs.length ≤ k := by simpa using hd
    apply Array.ext_getElem?
    intro j
    simp only [List.zipIdx_nil, List.foldl_nil, List.getElem?_toArray]
    by_cases hj : j < k
    · exact ha j hj
    · rw [Array.getElem?_eq_none (by omega), List.getElem?_eq_none (by omega)]
  | v :: r, k, acc, hs, hd, ha => by
    have hk : k < cs.length := by
      rcases Nat.lt_or_ge k cs.length with h | h
      · exact h
      · rw [List.drop_eq_nil_of_le h] at hd; cases hd
    have hv : cs[k]? = some v := by
      rw [List.drop_eq_getElem_cons hk] at hd
      rw [List.getElem?_eq_getElem hk]
      exact congrArg some (List.cons.inj hd).1
    have hr : cs.drop (k + 1) = r := by
      rw [List.drop_eq_getElem_cons hk] at hd
      exact (List.cons.inj hd).2
    simp only [List.zipIdx_cons, List.foldl_cons]
    refine fill_all cs r (k + 1) _ (by simpa using hs) hr (fun j hj => ?_)
    rw [Nat.zero_add, Array.getElem?_setIfInBounds]
    by_cases hjk : k = j
    · subst hjk
      simp [hs, hk]
      rw [List.getElem?_eq_getElem hk] at hv
      exact (Option.some.inj hv).symm
    · simp [hjk]
      exact ha j (by omega)
theorem run_buildSlice_one {P : Program} (w : World) (t e : TypeId) (cs : List Value) (z : Value) (hu : P.underlying t = some (.slice e)) (hi : (P.info? e).map (fun i => (i.zero, i.size)) = some (some z, cs.length))
    (h0 : 0 < cs.length) (h1 : cs.length ≤ 2 ^ 24) :
    (Instr.buildSlice t 1 #[(0, .agg cs.toArray)]).run P w = .ok (.slice (some ⟨w.heap.size, 0, none⟩) 1 1) (w.alloc (.cells cs.toArray e)) := by
  cases hq : P.info? e with
  | none => simp [hq] at hi
  | some i' =>
    simp [hq] at hi
    have hf : (cs.toArray.zipIdx.foldl (fun (a : Array Value) (x : Value × Nat) => a.setIfInBounds (0 + x.2) x.1) ((Array.range (1 * cs.length)).map (z.cells[· % z.cells.size]!))) = cs.toArray := by
      rw [← Array.foldl_toList]
      have := fill_all cs cs 0 ((Array.range (1 * cs.length)).map (z.cells[· % z.cells.size]!)) (by simp) rfl (fun j hj => by omega)
      simpa using this
    have ec : (Value.agg cs.toArray).cells = cs.toArray := rfl
    have hfill : Instr.fill (fun i => some (i * i'.size, i'.size)) ((Array.range (1 * i'.size)).map (z.cells[· % z.cells.size]!)) [(0, .agg cs.toArray)] = some cs.toArray := by
      rw [hi.2]
      simp only [Instr.fill, ec, List.size_toArray, Array.size_map, Array.size_range]
      rw [if_neg (by simp), Nat.zero_mul, hf]
    exact run_buildSlice w t e 1 #[(0, .agg cs.toArray)] cs.toArray i' z hu hq hi.1 (by rw [hi.2]; omega) (by rw [hi.2]; omega) hfill
theorem wp_buildSlice_one {P : Program} {op : Oper} {a : Act} {w : World} {K : Act → World → Prop} {Q : Exit → Act → World → Prop} (t e : TypeId) (x : Operand) (ho : op.op = .buildSlice t 1 #[(0, x)]) (cs : List Value) (z : Value)
    (hu : P.underlying t = some (.slice e)) (hi : (P.info? e).map (fun i => (i.zero, i.size)) = some (some z, cs.length)) (h0 : 0 < cs.length) (h1 : cs.length ≤ 2 ^ 24)
    (hx : a.eval x = .agg cs.toArray) (h : K (a.put op.dst (.slice (some ⟨w.heap.size, 0, none⟩) 1 1)) (w.alloc (.cells cs.toArray e))) : op.wp P a w K Q := by
  have hr := run_buildSlice_one w t e cs z hu hi h0 h1
  unfold Oper.wp execOp
  simp only [ho, List.map_toArray, List.map_cons, List.map_nil, hx, Sem.run_bind, hr, Sem.run_pure, Result.andThen_ok]
  exact h
/-- make of n elements of one cell each. -/
theorem run_make_one {P : Program} (w : World) (t e : TypeId) (i : TypeInfo) (z : Value) (ht : P.underlying t = some (.slice e)) (hi : P.info? e = some i) (hz : i.zero = some z) (hc : z.cells = #[z]) (hs : i.size = 1)
    (n : Nat) (hb : i.bytes * n ≤ 281474976710656) (hn : n ≤ maxLen) :
    (Instr.makeSlice t (.int .i64 (n : Int)) (.int .i64 (n : Int))).run P w = .ok (.slice (some ⟨w.heap.size, 0, none⟩) n n) (w.alloc (.cells (Array.replicate n z) e)) := by
  unfold maxLen at hn
  have hb' : (i.bytes : Int) * (n : Int) ≤ 281474976710656 := by
    have h : ((i.bytes * n : Nat) : Int) ≤ 281474976710656 := by omega
    rwa [Int.natCast_mul] at h
  have hr := run_make (P := P) w t e i z ht hi hz .i64 .i64 n n (by omega) (by omega) hb' (by omega)
  have em : madeCells #[z] n = Array.replicate n z := by
    apply Array.toList_inj.1
    rw [toList_madeCells_one, Array.toList_replicate]
  rw [hs, hc, Int.toNat_natCast, Nat.mul_one, em] at hr
  exact hr
section
variable {P : Program} {ops : Array Oper} {rest : List Oper} {op : Oper} {a : Act} {w : World} {Q : Exit → Act → World → Prop}
/-- A whole value into the block that was made last. -/
theorem wpList_store_last (hgd : op.guard = none) (ty : TypeId) (x y : Operand) (ho : op.op = .store ty x y) (W : World) (z : Array Value) (t : TypeId) (cells : List Value)
    (hw : w = W.alloc (.cells z t)) (hx : a.eval x = .pointer (some ⟨W.heap.size, 0, none⟩)) (hy : a.eval y = .agg cells.toArray) (hz : z.size = cells.length)
    (hi : (P.info? ty).map (·.size) = some cells.length) (h1 : ∀ v ∈ cells, v.oneCell' = true)
    (h : wpList P ops Q rest (a.put op.dst undef) (W.alloc (.cells cells.toArray t))) : wpList P ops Q (op :: rest) a w := by
  subst hw
  refine wpList_store_row hgd ty x y ho W.heap.size cells.toArray hx hy t z (heap_alloc_last W _) hi hz (all_oneCell_toArray h1) ?_
  rw [World.setRow_alloc_new]
  exact h
/-- copy into cells that are there, wherever they lie. -/
theorem wpList_copy_cells (hgd : op.guard = none) (d s : Operand) (dT sT : TypeId) (ho : op.op = .call { callee := .builtin .copy, args := #[d, s], argTypes := #[dT, sT] })
    (elem : TypeId) (hu : P.underlying dT = some (.slice elem)) (hsz : (P.info? elem).map (·.size) = some 1) (b o dLen dCap : Nat) (ad : Addr) (sLen sCap : Nat)
    (hd : a.eval d = .slice (some ⟨b, o, none⟩) dLen dCap) (hs : a.eval s = .slice (some ad) sLen sCap) (cs : List Value) (hn : cs.length = Nat.min sLen dLen)
    (hsrc : ∀ j v, cs[j]? = some v → w.cell? (ad.add j) = some v) (ht : w.there b o cs.length) (h1 : ∀ v ∈ cs, v.oneCell' = true)
    (h : wpList P ops Q rest (a.put op.dst (goInt cs.length)) (w.setCells b o cs)) : wpList P ops Q (op :: rest) a w := by
  refine wpList_plain hgd fun K hK => ?_
  have hrun := run_copy_cells (P := P) w dT sT op.type elem b o dLen dCap ad sLen sCap cs hu hsz hn hsrc (fun j hj => (ht j hj).1) (fun j hj => (ht j hj).2) h1
  unfold Oper.wp
  simp [execOp, ho, resolve, invoke, builtin, hd, hs, hrun, Result.andThen]
  exact hK _ _ h
theorem wpList_make_one (hgd : op.guard = none) (x y : Operand) (t : TypeId) (ho : op.op = .makeSlice t x y) (e : TypeId) (i : TypeInfo) (z : Value) (ht : P.underlying t = some (.slice e)) (hi : P.info? e = some i) (hz : i.zero = some z) (hc : z.cells = #[z]) (hs : i.size = 1)
    (n : Nat) (hx : a.eval x = .int .i64 (n : Int)) (hy : a.eval y = .int .i64 (n : Int)) (hb : i.bytes * n ≤ 281474976710656) (hn : n ≤ maxLen)
    (h : wpList P ops Q rest (a.put op.dst (.slice (some ⟨w.heap.size, 0, none⟩) n n)) (w.alloc (.cells (Array.replicate n z) e))) : wpList P ops Q (op :: rest) a w := by
  refine wpList_plain hgd fun K hK => ?_
  have hr := run_make_one (P := P) w t e i z ht hi hz hc hs n hb hn
  unfold Oper.wp execOp
  simp only [ho, hx, hy, Sem.run_bind, Sem.run_pure, Result.andThen_ok, hr]
  exact hK _ _ h
/-- copy of a string's bytes into the block that was made last. -/
theorem wpList_copy_string (hgd : op.guard = none) (d s : Operand) (dT sT : TypeId) (ho : op.op = .call { callee := .builtin .copy, args := #[d, s], argTypes := #[dT, sT] })
    (elem : TypeId) (hu : P.underlying dT = some (.slice elem)) (hsz : (P.info? elem).map (·.size) = some 1) (W : World) (c : List Value) (t : TypeId) (o dLen dCap : Nat) (str : ByteArray)
    (hw : w = W.alloc (.cells c.toArray t)) (hd : a.eval d = .slice (some ⟨W.heap.size, o, none⟩) dLen dCap) (hs : a.eval s = .string str) (hl : str.size ≤ dLen) (hfit : o + str.size ≤ c.length)
    (h : wpList P ops Q rest (a.put op.dst (goInt str.size)) (W.alloc (.cells (c.take o ++ bcells str.data.toList ++ c.drop (o + str.size)).toArray t))) : wpList P ops Q (op :: rest) a w := by
  subst hw
  refine wpList_plain hgd fun K hK => ?_
  have hrun := run_copy_string P (W.alloc (.cells c.toArray t)) dT sT op.type elem W.heap.size o dLen dCap str c.toArray t hu hsz (heap_alloc_last W _) hl (by simpa using hfit)
  rw [World.setRow_alloc_new] at hrun
  unfold Oper.wp
  simp only [execOp, ho, resolve, invoke, builtin, Sem.run_bind, Sem.run_pure, Result.andThen_ok, List.map_toArray, List.map_cons, List.map_nil, hd, hs, hrun]
  exact hK _ _ h
end
end Go.Proofs.YtkbncbkmaakpkaaDoor
