/- A shelf as it lies in memory; lay, lowest, power, Get. -/
import Derived.Test.YtkbncbkmaakpkaaDoorPar
import Derived.Test.YtkbncbkmaakpkaaDoorMapV
import Derived.Test.YtkbncbkmaakpkaaDoorPlateB
import Derived.Deep.RegionHeldLaw
import Derived.StillTailTactics
namespace Go.Proofs.YtkbncbkmaakpkaaDoor
open Go.RowKit
/-- The place of a block. -/
structure Pl where
  id : Nat
  ver : Nat
  d : ByteArray
  at' : Nat
def Pl.val (x : Pl) : Value := .agg #[.int .i64 (x.id : Int), .int .i64 (x.ver : Int), .string x.d, .int .i64 (x.at' : Int)]
def usedV (U : Int → Bool) (i : Int) : Option Value := bif U i then some (.bool true) else none
structure IsSh (w : World) (b pb am um n : Nat) (A : Int → Option Pl) (U : Int → Bool) (bad err : Value) : Prop where
  c0 : w.cell? ⟨b, 0, none⟩ = some (.pointer (some ⟨pb, 0, none⟩))
  c1 : w.cell? ⟨b, 1, none⟩ = some (.map (some am))
  c2 : w.cell? ⟨b, 2, none⟩ = some (.map (some um))
  c3 : w.cell? ⟨b, 3, none⟩ = some bad
  c4 : w.cell? ⟨b, 4, none⟩ = some err
  fro : ∀ o, w.frozen? ⟨b, o, none⟩ = false
  ma : IMap Tryd.prog 3 w am n fun i => (A i).map Pl.val
  mu : IMap Tryd.prog 3 w um n (usedV U)
  ne : am ≠ um
/-- The blocks of a shelf (its plate's are its plate's). -/
def shF (b am um k : Nat) : Prop := k = b ∨ k = am ∨ k = um
section
variable {w w' : World} {b pb am um n : Nat} {A : Int → Option Pl} {U : Int → Bool} {bad err : Value}
theorem IMap.noCells {P : Program} {k : TypeId} {m : Nat} {g : Int → Option Value} {v : Value} {o : Nat} (h : IMap P k w b m g) : w.cell? ⟨b, o, none⟩ ≠ some v := by
  obtain ⟨f, ⟨D, ⟨es, clock, hb, _⟩, _⟩, _⟩ := h
  simp [World.cell?, hb]
theorem IsSh.bl (h : IsSh w b pb am um n A U bad err) : b < w.heap.size := World.block_lt_of_cell? w _ h.c0
theorem IsSh.neA (h : IsSh w b pb am um n A U bad err) : b ≠ am := fun e => by have := h.c0; rw [e] at this; exact h.ma.noCells this
theorem IsSh.neU (h : IsSh w b pb am um n A U bad err) : b ≠ um := fun e => by have := h.c0; rw [e] at this; exact h.mu.noCells this
theorem IsSh.lt (h : IsSh w b pb am um n A U bad err) {k : Nat} (hk : shF b am um k) : k < w.heap.size := by
  rcases hk with rfl | rfl | rfl
  · exact h.bl
  · exact h.ma.lt
  · exact h.mu.lt
theorem IsSh.keep (h : IsSh w b pb am um n A U bad err) (hk : ∀ k, shF b am um k → w'.heap[k]? = w.heap[k]?) : IsSh w' b pb am um n A U bad err := by
  have hb := hk b (.inl rfl)
  have hc : ∀ o, w'.cell? ⟨b, o, none⟩ = w.cell? ⟨b, o, none⟩ := fun o => World.cell?_of_block (a := ⟨b, o, none⟩) hb
  exact ⟨(hc _).trans h.c0, (hc _).trans h.c1, (hc _).trans h.c2, (hc _).trans h.c3, (hc _).trans h.c4, fun o => (World.frozen?_of_block (a := ⟨b, o, none⟩) hb).trans (h.fro o), h.ma.keep (hk _ (.inr (.inl rfl))), h.mu.keep (hk _ (.inr (.inr rfl))), h.ne⟩
theorem IsSh.moves {F : Nat → Prop} (h : IsSh w b pb am um n A U bad err) (hm : Moves F w w') (hF : ∀ k, shF b am um k → ¬ F k) : IsSh w' b pb am um n A U bad err := h.keep fun k hk => hm.block k (h.lt hk) (hF k hk)
theorem IsSh.below (h : IsSh w b pb am um n A U bad err) (hb : Below w.heap.size w w') : IsSh w' b pb am um n A U bad err := h.keep fun k hk => hb.block k (h.lt hk)
/-- Both maps have turned. -/
theorem IsSh.maps {m : Nat} {A' : Int → Option Pl} {U' : Int → Bool} (h : IsSh w b pb am um n A U bad err) (hm : Moves (fun k => k = am ∨ k = um) w w') (ha : IMap Tryd.prog 3 w' am m fun i => (A' i).map Pl.val) (hu : IMap Tryd.prog 3 w' um m (usedV U')) : IsSh w' b pb am um m A' U' bad err := by
  have hb := hm.block b h.bl (fun hk => by rcases hk with hk | hk; exact h.neA hk; exact h.neU hk)
  have hc : ∀ o, w'.cell? ⟨b, o, none⟩ = w.cell? ⟨b, o, none⟩ := fun o => World.cell?_of_block (a := ⟨b, o, none⟩) hb
  exact ⟨(hc _).trans h.c0, (hc _).trans h.c1, (hc _).trans h.c2, (hc _).trans h.c3, (hc _).trans h.c4, fun o => (World.frozen?_of_block (a := ⟨b, o, none⟩) hb).trans (h.fro o), ha, hu, h.ne⟩
theorem IsSh.setErr (h : IsSh w b pb am um n A U bad err) (e : Value) : IsSh (w.setCell ⟨b, 4, none⟩ e) b pb am um n A U bad e := by
  have ho : ∀ o, o ≠ 4 → (w.setCell ⟨b, 4, none⟩ e).cell? ⟨b, o, none⟩ = w.cell? ⟨b, o, none⟩ := fun o h => World.cell?_setCell_other _ _ _ _ (by simp <;> omega)
  exact ⟨(ho _ (by decide)).trans h.c0, (ho _ (by decide)).trans h.c1, (ho _ (by decide)).trans h.c2, (ho _ (by decide)).trans h.c3, World.cell?_setCell_same _ _ _ h.c4, fun o => by rw [World.frozen?_setCell]; exact h.fro o,
    h.ma.keep (Below.heap_setCell _ _ _ _ (fun e => h.neA e.symm)), h.mu.keep (Below.heap_setCell _ _ _ _ (fun e => h.neU e.symm)), h.ne⟩
theorem Tryd.zPlace (w : World) : (zeroValue 276).run Tryd.prog w = .ok (.agg #[.int .i64 0, .int .i64 0, .string ⟨#[]⟩, .int .i64 0]) w := by kernel_rfl
theorem Tryd.zBool (w : World) : (zeroValue 4).run Tryd.prog w = .ok (.bool false) w := by kernel_rfl
/-- shelf.Get of a block that is there; of one that is not. -/
theorem look_place (h : IsSh w b pb am um n A U bad err) (i : Int) (hi : (Lit.int .i64 i).wf = true) : (Instr.lookup 278 (.map (some am)) (.int .i64 i) true).run Tryd.prog w = .ok (.tuple #[((A i).map Pl.val).getD (.agg #[.int .i64 0, .int .i64 0, .string ⟨#[]⟩, .int .i64 0]), .bool (A i).isSome]) w := by
  obtain ⟨f, h1, h2⟩ := h.ma
  have := h1.look (Maps.int_keyed Tryd.underlying3) Tryd.underlying278 (Tryd.zPlace w) (Maps.keyOf_int_mk Tryd.underlying3 hi)
  rw [this, h2]
  simp
theorem look_used (h : IsSh w b pb am um n A U bad err) (i : Int) (hi : (Lit.int .i64 i).wf = true) : (Instr.lookup 244 (.map (some um)) (.int .i64 i) false).run Tryd.prog w = .ok (.bool (U i)) w := by
  obtain ⟨f, h1, h2⟩ := h.mu
  have := h1.look1 (Maps.int_keyed Tryd.underlying3) Tryd.underlying244 (Tryd.zBool w) (Maps.keyOf_int_mk Tryd.underlying3 hi)
  rw [this, h2]
  unfold usedV
  cases U i <;> rfl
set_option maxRecDepth 100000 in
set_option maxHeartbeats 1000000 in
theorem shget_none (h : IsSh w b pb am um n A U bad err) (i : Int) (hi : (Lit.int .i64 i).wf = true) (hA : A i = none) :
    Calls Tryd.prog 92 #[.pointer (some ⟨b, 0, none⟩), .int .i64 i] w fun e w' => e = .returned (.tuple #[blkZ, .int .i64 3]) ∧ Below w.heap.size w w' := by
  have c1 := h.c1
  have hl := look_place (h.below ((Below.refl _ w).alloc (Nat.le_refl _) (.cells #[.int .i64 0, .int .i64 0, .string ⟨#[]⟩] 107))) i hi
  rw [hA] at hl
  simp only [Option.map_none, Option.getD_none, Option.isSome_none] at hl
  have hbl := h.bl
  go_enter Tryd.func92, Tryd.ntmps92
  go_wp2_with fail
  refine bodyPost_ret (v := .tuple #[blkZ, .int .i64 3]) (by simp [results, Tryd.results92, go_sem, blkZ]) rfl ?_
  exact ⟨rfl, ((Below.refl _ _).alloc (Nat.le_refl _) _).alloc (by simp) _⟩
set_option maxRecDepth 100000 in
set_option maxHeartbeats 1000000 in
theorem shget_some (h : IsSh w b pb am um n A U bad err) (i : Int) (hi : (Lit.int .i64 i).wf = true) (x : Pl) (hA : A i = some x) :
    Calls Tryd.prog 92 #[.pointer (some ⟨b, 0, none⟩), .int .i64 i] w fun e w' => e = .returned (.tuple #[blkV x.id x.ver x.d, .int .i64 0]) ∧ Below w.heap.size w w' := by
  have c1 := h.c1
  have hl := look_place (h.below ((Below.refl _ w).alloc (Nat.le_refl _) (.cells #[.int .i64 0, .int .i64 0, .string ⟨#[]⟩] 107))) i hi
  rw [hA] at hl
  simp only [Option.map_some, Option.getD_some, Option.isSome_some, Pl.val] at hl
  have hbl := h.bl
  go_enter Tryd.func92, Tryd.ntmps92
  go_wp2_with fail
  refine bodyPost_ret (v := .tuple #[blkV x.id x.ver x.d, .int .i64 0]) (by simp [results, Tryd.results92, go_sem, blkV]) rfl ?_
  refine ⟨rfl, ?_⟩
  repeat' (first | exact Below.refl _ _ | refine Below.setCell ?_ (by simp; done) _ | refine Below.alloc ?_ (by simp; done) _)
set_option maxRecDepth 100000 in
set_option maxHeartbeats 1000000 in
/-- The lowest place that is free. -/
theorem lowest_any (h : IsSh w b pb am um n A U bad err) (m : Nat) (hm : m < 1000000) (hU : ∀ j : Nat, j < m → U j = true) (hU2 : U m = false) :
    Calls Tryd.prog 171 #[.pointer (some ⟨b, 0, none⟩)] w fun e w' => e = .returned (.int .i64 (m : Int)) ∧ w' = w := by
  have c2 := h.c2
  have hl := fun (j : Nat) (hj : j ≤ m) => look_used h (j : Int) (WalkArith.wf_i64 (by omega))
  have HL := Lib.hid hl
  have HU := Lib.hid hU
  have HU2 := Lib.hid hU2
  clear hl hU hU2 h
  go_enter Tryd.func171, Tryd.ntmps171
  go_wp2_with fail
  go_loopw [3] (fun c wr => ∃ j : Nat, j ≤ m ∧ c = .int .i64 (j : Int) ∧ wr = w) (fun c _ => m - (intOf c).toNat)
  case atStart => exact ⟨0, Nat.zero_le _, rfl, rfl⟩
  case round =>
    obtain ⟨j, hj, rfl, rfl⟩ := hrel
    have hlk := HL.out j hj
    by_cases hlt : j < m
    · rw [HU.out j hlt] at hlk
      go_wp2_with fail
      go_roundw
      case rel => exact ⟨j + 1, by omega, by go_num, trivial⟩
      case measure => simp [intOf]; omega
    · have ej : j = m := by omega
      subst ej
      rw [HU2.out] at hlk
      go_wp2_with fail
      go_ret
      exact ⟨rfl, rfl⟩
set_option maxRecDepth 100000 in
set_option maxHeartbeats 1000000 in
/-- power, while there is some. -/
theorem shpower_on {v : Value} {st : PS} (h : IsSh w b pb am um n A U bad err) (hp : IsPlate w pb v st) (ho : st.off = false) :
    Calls Tryd.prog 170 #[.pointer (some ⟨b, 0, none⟩)] w fun e w' => e = .returned (.tuple #[]) ∧ w' = w := by
  have c0 := h.c0
  have hd := dead_any hp
  rw [ho] at hd
  clear h hp
  go_enter Tryd.func170, Tryd.ntmps170
  go_wp2_with fail
  refine hd.mono ?_
  rintro e w1 ⟨rfl, rfl⟩
  clear hd
  go_wp2_with fail
  go_end0
  exact ⟨rfl, rfl⟩
end
end Go.Proofs.YtkbncbkmaakpkaaDoor
