/- quorum: the maps of votes; voted goes through. -/
import Derived.Test.YtfjfkmoofmncnaaDoorQmA
import Derived.Test.YtfjfkmoofmncnaaDoorMapV
import Derived.Test.YtfjfkmoofmncnaaDoorMe
import Derived.DeepKeys4
import Derived.BigQuiet
import Derived.BigRegion
import Derived.StillTailTactics
import Derived.Deep.DeepCutAuto
import Derived.Deep.CutRange
import Derived.Deep.RegionHeld3
namespace Go.Proofs.YtfjfkmoofmncnaaDoor
open Go.RowKit Go.Maps
theorem Tryd.laidOut : laidOutB Tryd.prog = true := by kernel_rfl
theorem Tryd.rowAt : (145 : TypeId) < Tryd.prog.types.size := of_decide_eq_true (by kernel_rfl)
theorem Tryd.wideAt : (match Tryd.prog.underlying 145 with | some (.array _ _) | some (.struct _) => true | _ => false) = true := by kernel_rfl
set_option maxRecDepth 100000 in
theorem Tryd.atLaw : Keyed Tryd.prog 145 := Keyed.of_law (deep_law_laid Tryd.laidOut (m := 2) (by omega) Tryd.rowAt (by kernel_rfl) Tryd.wideAt)
theorem Tryd.cellsAt : Tryd.prog.cellsOf 145 = 2 := by kernel_rfl
theorem Tryd.keyAt (a b : Int) (ha : (Lit.int .i64 a).wf = true) (hb : (Lit.int .i64 b).wf = true) : ∃ kl, keyOf Tryd.prog 145 (.agg #[.int .i64 a, .int .i64 b]) = some kl := by
  have h1 : Tryd.prog.keyType 145 = true := by kernel_rfl
  have hu := Tryd.underlying145
  have h2 : (Value.agg #[.int .i64 a, .int .i64 b]).formed Tryd.prog 145 = true := by simp [Value.formed, hu, Tryd.cellsAt]
  have h3 : Tryd.prog.cellsOf 3 = 1 := by kernel_rfl
  have h4 : ∀ n x, (Lit.int .i64 x).wf = true → Tryd.prog.keyLits (n + 1) 3 [.int .i64 x] = some [.int .i64 x] := fun n x hx => by
    unfold Program.keyLits
    rw [Tryd.underlying3]
    simp [hx]
  have h5 : ∀ n, Tryd.prog.keyLits (n + 1 + 1) 145 [.int .i64 a, .int .i64 b] = some [.int .i64 a, .int .i64 b] := fun n => by
    unfold Program.keyLits
    rw [hu]
    simp [Tryd.cellsAt, h3, h4 n a ha, h4 n b hb]
  obtain ⟨n, hn⟩ : ∃ n, Tryd.prog.types.size + 1 = n + 1 + 1 := ⟨Tryd.prog.types.size - 1, by have h : 0 < Tryd.prog.types.size := Nat.lt_of_le_of_lt (Nat.zero_le _) Tryd.rowAt; generalize Tryd.prog.types.size = z at h ⊢; exact (by omega : z + 1 = z - 1 + 1 + 1)⟩
  unfold keyOf
  rw [hu, hn]
  simp only [h1, h2, Bool.and_self, if_true]
  rw [show (Value.agg #[.int .i64 a, .int .i64 b]).cells.toList = [.int .i64 a, .int .i64 b] from rfl, h5]
  exact ⟨_, rfl⟩
theorem Tryd.zeroInner (w : World) : (zeroValue 146).run Tryd.prog w = .ok (.map none) w := by kernel_rfl
theorem Tryd.zeroStr (w : World) : (zeroValue 9).run Tryd.prog w = .ok (.string ⟨#[]⟩) w := by kernel_rfl
theorem Tryd.eqNil (w : World) : (binOp .eql 146 (.map none) (.map none)).run Tryd.prog w = .ok (.bool true) w := by kernel_rfl
theorem Tryd.eqMap (w : World) (ib : Nat) : (binOp .eql 146 (.map (some ib)) (.map none)).run Tryd.prog w = .ok (.bool false) w := by kernel_rfl
/-- A group's maps of votes, and of what was chosen. -/
structure GV (w : World) (gb mb cb n m c : Nat) (I : Nat → Prop) (f : Lit → Option Value) : Prop where
  c1 : w.cell? ⟨gb, 1, none⟩ = some (.map (some mb))
  c2 : w.cell? ⟨gb, 2, none⟩ = some (.map (some cb))
  g : HasMap Tryd.prog 145 w mb n f
  i : ∀ kl v, f kl = some v → ∃ ib gi, v = .map (some ib) ∧ IMap Tryd.prog 3 w ib m gi ∧ I ib
  ch : ∃ gc, IMap Tryd.prog 3 w cb c gc
  ne : mb ≠ cb ∧ gb ≠ mb ∧ gb ≠ cb
  ni : ∀ q, I q → q ≠ mb ∧ q ≠ cb ∧ q ≠ gb ∧ q < w.heap.size
section
variable {w w' : World} {gb mb cb n m c : Nat} {I : Nat → Prop} {f : Lit → Option Value}
theorem GV.lt (h : GV w gb mb cb n m c I f) : gb < w.heap.size ∧ mb < w.heap.size ∧ cb < w.heap.size := by
  obtain ⟨gc, h1⟩ := h.ch
  exact ⟨World.block_lt_of_cell? w _ h.c1, h.g.lt, h1.lt⟩
theorem GV.keep (h : GV w gb mb cb n m c I f) (hs : w.heap.size ≤ w'.heap.size) (hk : ∀ q, q = gb ∨ q = mb ∨ q = cb ∨ I q → w'.heap[q]? = w.heap[q]?) : GV w' gb mb cb n m c I f := by
  have kb := hk gb (.inl rfl)
  obtain ⟨gc, hc⟩ := h.ch
  refine ⟨(World.cell?_of_block (a := ⟨gb, 1, none⟩) kb).trans h.c1, (World.cell?_of_block (a := ⟨gb, 2, none⟩) kb).trans h.c2, h.g.keep (hk mb (.inr (.inl rfl))), fun kl v hv => ?_, ⟨gc, hc.keep (hk cb (.inr (.inr (.inl rfl))))⟩, h.ne, fun q hq => ?_⟩
  · obtain ⟨ib, gi, h1, h2, h3⟩ := h.i kl v hv
    exact ⟨ib, gi, h1, h2.keep (hk ib (.inr (.inr (.inr h3)))), h3⟩
  · obtain ⟨h1, h2, h3, h4⟩ := h.ni q hq
    exact ⟨h1, h2, h3, Nat.lt_of_lt_of_le h4 hs⟩
theorem GV.below (h : GV w gb mb cb n m c I f) (hb : Below w.heap.size w w') : GV w' gb mb cb n m c I f := h.keep hb.size fun q hq => hb.block q (by obtain ⟨h1, h2, h3⟩ := h.lt; rcases hq with rfl | rfl | rfl | hq; exact h1; exact h2; exact h3; exact (h.ni q hq).2.2.2)
/-- An inner map has turned. -/
theorem GV.inner (h : GV w gb mb cb n m c I f) {ib : Nat} {gi : Int → Option Value} (hI : I ib) (hi : IMap Tryd.prog 3 w' ib (m + 1) gi) (hm : Moves (fun q => q = ib) w w') : GV w' gb mb cb n (m + 1) c I f := by
  obtain ⟨l1, l2, l3⟩ := h.lt
  obtain ⟨n1, n2, n3, n4⟩ := h.ni ib hI
  have kb := hm.block gb l1 (Ne.symm n3)
  obtain ⟨gc, hc⟩ := h.ch
  refine ⟨(World.cell?_of_block (a := ⟨gb, 1, none⟩) kb).trans h.c1, (World.cell?_of_block (a := ⟨gb, 2, none⟩) kb).trans h.c2, h.g.keep (hm.block mb l2 (Ne.symm n1)), fun kl v hv => ?_, ⟨gc, hc.keep (hm.block cb l3 (Ne.symm n2))⟩, h.ne, fun q hq => ?_⟩
  · obtain ⟨ib', gi', h1, h2, h3⟩ := h.i kl v hv
    by_cases e : ib' = ib
    · subst e; exact ⟨ib', gi, h1, hi, h3⟩
    · exact ⟨ib', gi', h1, (h2.keep (hm.block ib' h2.lt e)).mono (Nat.le_succ m), h3⟩
  · obtain ⟨h1, h2, h3, h4⟩ := h.ni q hq
    exact ⟨h1, h2, h3, Nat.lt_of_lt_of_le h4 hm.size⟩
/-- A new inner map stands in the great one. -/
theorem GV.outer (h : GV w gb mb cb n m c I f) {ib : Nat} {gi : Int → Option Value} {kl : Lit} (hkl : WideAt.IsKeyLit kl) (hi : IMap Tryd.prog 3 w' ib m gi) (hg : HasMap Tryd.prog 145 w' mb (n + 1) (updM f kl (some (.map (some ib))))) (hib : ib ≠ mb ∧ ib ≠ cb ∧ ib ≠ gb) (hm : Moves (fun q => q = mb) w w') :
    GV w' gb mb cb (n + 1) m c (fun q => I q ∨ q = ib) (updM f kl (some (.map (some ib)))) := by
  obtain ⟨l1, l2, l3⟩ := h.lt
  obtain ⟨n1, n2, n3⟩ := h.ne
  have kb := hm.block gb l1 n2
  obtain ⟨gc, hc⟩ := h.ch
  refine ⟨(World.cell?_of_block (a := ⟨gb, 1, none⟩) kb).trans h.c1, (World.cell?_of_block (a := ⟨gb, 2, none⟩) kb).trans h.c2, hg, fun x v hv => ?_, ⟨gc, hc.keep (hm.block cb l3 (Ne.symm n1))⟩, h.ne, fun q hq => ?_⟩
  · by_cases e : x = kl
    · rw [e, updM_same hkl] at hv
      cases hv
      exact ⟨ib, gi, rfl, hi, .inr rfl⟩
    · rw [updM_other e] at hv
      obtain ⟨ib', gi', h1, h2, h3⟩ := h.i x v hv
      exact ⟨ib', gi', h1, h2.keep (hm.block ib' h2.lt (h.ni ib' h3).1), .inl h3⟩
  · rcases hq with hq | rfl
    · obtain ⟨h1, h2, h3, h4⟩ := h.ni q hq
      exact ⟨h1, h2, h3, Nat.lt_of_lt_of_le h4 hm.size⟩
    · exact ⟨hib.1, hib.2.1, hib.2.2, hi.lt⟩
/-- Something is chosen. -/
theorem GV.chose (h : GV w gb mb cb n m c I f) {gc : Int → Option Value} (hc : IMap Tryd.prog 3 w' cb (c + 1) gc) (hm : Moves (fun q => q = cb) w w') : GV w' gb mb cb n m (c + 1) I f := by
  obtain ⟨l1, l2, l3⟩ := h.lt
  obtain ⟨n1, n2, n3⟩ := h.ne
  have kb := hm.block gb l1 n3
  refine ⟨(World.cell?_of_block (a := ⟨gb, 1, none⟩) kb).trans h.c1, (World.cell?_of_block (a := ⟨gb, 2, none⟩) kb).trans h.c2, h.g.keep (hm.block mb l2 n1), fun kl v hv => ?_, ⟨gc, hc⟩, h.ne, fun q hq => ?_⟩
  · obtain ⟨ib, gi, h1, h2, h3⟩ := h.i kl v hv
    exact ⟨ib, gi, h1, h2.keep (hm.block ib h2.lt (h.ni ib h3).2.1), h3⟩
  · obtain ⟨h1, h2, h3, h4⟩ := h.ni q hq
    exact ⟨h1, h2, h3, Nat.lt_of_lt_of_le h4 hm.size⟩
theorem GV.mono (h : GV w gb mb cb n m c I f) {n' m' c' : Nat} (h1 : n ≤ n') (h2 : m ≤ m') (h3 : c ≤ c') : GV w gb mb cb n' m' c' I f := by
  obtain ⟨gc, hc⟩ := h.ch
  exact ⟨h.c1, h.c2, h.g.mono h1, fun kl v hv => by obtain ⟨ib, gi, g1, g2, g3⟩ := h.i kl v hv; exact ⟨ib, gi, g1, g2.mono h2, g3⟩, ⟨gc, hc.mono h3⟩, h.ne, h.ni⟩
set_option maxRecDepth 100000 in
/-- most, of whatever number. -/
theorem qmost_gen {nb : Nat} {cap : Nat} (h : w.cell? ⟨gb, 0, none⟩ = some (.slice (some ⟨nb, 0, none⟩) 3 cap)) (x : Int) : Calls Tryd.prog 29 #[.pointer (some ⟨gb, 0, none⟩), .int .i64 x] w fun e w' => (∃ r, e = .returned (.bool r)) ∧ w = w' := by
  go_enter Tryd.func29, Tryd.ntmps29
  go_wp2_with fail
  go_ret
  exact ⟨⟨_, rfl⟩, rfl⟩
theorem step_store_any {P : Program} {w : World} {ops : Array Oper} {o : Oper} {a : Act} {K : Act → World → Prop} {Q : Exit → Act → World → Prop} {E : Prop} (hg : o.guard = none) (m x v : Operand) (t : TypeId) (hop : o.op = Op.mapUpdate t m x v) (k e : TypeId) (K' : Keyed P k) (ht : P.underlying t = some (.map k e)) (b n : Nat) (f : Lit → Option Value)
    (hm : a.eval m = .map (some b)) (hh : HasMap P k w b n f) (hn : n < maxLen) (key val : Value) (kl : Lit) (hx : a.eval x = key) (hv : a.eval v = val) (hkey : keyOf P k key = some kl)
    (hK : ∀ w', HasMap P k w' b (n + 1) (updM f kl (some val)) → Moves (fun i => i = b) w w' → K (a.put o.dst undef) w') : if Region.wanted o (yielded ops a.tmps) = true then Oper.wp P o a w K Q else E := by
  have hw : Region.wanted o (yielded ops a.tmps) = true := by simp [Region.wanted, hg]
  rw [if_pos hw]
  obtain ⟨w', hrun, r1, r2⟩ := hh.store (val := val) K' ht hn hkey
  unfold Oper.wp
  simp [execOp, hop, hm, hx, hv, hrun, Result.andThen]
  exact hK w' r1 r2
def votedF (mb cb : Nat) (I : Nat → Prop) (q : Nat) : Prop := q = mb ∨ q = cb ∨ I q
set_option maxRecDepth 100000 in
set_option maxHeartbeats 8000000 in
theorem voted_any {nb cap : Nat} (h : GV w gb mb cb n n n I f) (hc0 : w.cell? ⟨gb, 0, none⟩ = some (.slice (some ⟨nb, 0, none⟩) 3 cap)) (hn : n < 1000000) (i s b : Int) (t : ByteArray) (hi : (Lit.int .i64 i).wf = true) (hs : (Lit.int .i64 s).wf = true) (hb : (Lit.int .i64 b).wf = true) :
    Calls Tryd.prog 33 #[.pointer (some ⟨gb, 0, none⟩), .int .i64 i, .agg #[.int .i64 s, .int .i64 b, .string t]] w fun e w' => e = .returned (.tuple #[]) ∧ Moves (votedF mb cb I) w w' ∧ ∃ I' f', GV w' gb mb cb (n + 1) (n + 1) (n + 1) I' f' ∧ ∀ q, I' q → I q ∨ w.heap.size ≤ q := by
  obtain ⟨kl, hkl⟩ := Tryd.keyAt s b hs hb
  obtain ⟨W0, hW0⟩ : ∃ W0, W0 = (w.alloc (.cells #[.int .i64 s, .int .i64 b, .string t] 100)).alloc (.cells #[.int .i64 s, .int .i64 b] 145) := ⟨_, rfl⟩
  have hb0 : Below w.heap.size w W0 := by rw [hW0]; exact ((Below.refl _ _).alloc (Nat.le_refl _) _).alloc (by simp) _
  have hs0 : W0.heap.size = w.heap.size + 1 + 1 := by rw [hW0]; simp
  have hbA : Below (w.alloc (.cells #[.int .i64 s, .int .i64 b, .string t] 100)).heap.size (w.alloc (.cells #[.int .i64 s, .int .i64 b, .string t] 100)) W0 := by rw [hW0]; exact (Below.refl _ _).alloc (Nat.le_refl _) _
  have hx : W0.cell? ⟨w.heap.size, 0, none⟩ = some (.int .i64 s) ∧ W0.cell? ⟨w.heap.size, 1, none⟩ = some (.int .i64 b) ∧ W0.cell? ⟨w.heap.size, 2, none⟩ = some (.string t) := ⟨by rw [made_cell hbA 0]; rfl, by rw [made_cell hbA 1]; rfl, by rw [made_cell hbA 2]; rfl⟩
  have hk : W0.cell? ⟨w.heap.size + 1, 0, none⟩ = some (.int .i64 s) ∧ W0.cell? ⟨w.heap.size + 1, 1, none⟩ = some (.int .i64 b) := by
    have h0 := World.cell?_alloc_new (w.alloc (.cells #[.int .i64 s, .int .i64 b, .string t] 100)) #[.int .i64 s, .int .i64 b] 145
    rw [World.size_alloc] at h0
    rw [hW0]
    exact ⟨(h0 0).trans rfl, (h0 1).trans rfl⟩
  have HG0 := Lib.hid (h.below hb0)
  have HC0 := Lib.hid ((World.cell?_of_block (a := ⟨gb, 0, none⟩) (hb0.block gb h.lt.1)).trans hc0)
  have HB0 := Lib.hid hb0
  have HS0 := Lib.hid hs0
  have HX := Lib.hid hx
  have HK := Lib.hid hk
  have HW0 := Lib.hid hW0
  have H := Lib.hid h
  have HKL := Lib.hid hkl
  clear hb0 hs0 hbA hx hk hW0 h hc0 hkl
  have c1 := HG0.out.c1
  obtain ⟨k0, k1⟩ := HK.out
  go_enter Tryd.func33, Tryd.ntmps33
  go_upto_region 2 with (fail)
  rw [← HW0.out]
  clear HW0
  have HVK : Hid (f kl = none ∨ ∃ ib gi, f kl = some (.map (some ib)) ∧ IMap Tryd.prog 3 W0 ib n gi ∧ I ib) := Lib.hid (by
    cases hfk : f kl with
    | none => exact .inl rfl
    | some v =>
      obtain ⟨ib, gi, h1, h2, h3⟩ := HG0.out.i kl v hfk
      exact .inr ⟨ib, gi, by rw [h1], h2, h3⟩)
  go_cut [20] from 9 to 20 (fun s20 wx => s20 = .bool (f kl).isNone ∧ wx = W0.drew)
  case first =>
    have hq0 := Tryd.eqNil W0.drew
    have hq1 := fun ib => Tryd.eqMap W0.drew ib
    have hlk := (HG0.out.g.keep (w' := W0.drew) rfl).look1 Tryd.atLaw Tryd.underlying68 (Tryd.zeroInner W0.drew) HKL.out
    rcases HVK.out with hf | ⟨ib, gi, hf, -, -⟩
    · rw [hf] at hlk
      have HF := Lib.hid hf
      clear hf
      dsimp only [Option.getD] at hlk
      refine wp_region_still_tail 6 (by kernel_rfl) (by kernel_rfl) ?_
      simp only [List.take_succ_cons, List.take_zero, List.drop_succ_cons, List.drop_zero]
      iterate 6 still_step
      refine wpStill_nil ?_
      go_wp2_with fail
      go_meet
      exact ⟨by rw [HF.out]; rfl, rfl⟩
    · rw [hf] at hlk
      have HF := Lib.hid hf
      clear hf
      dsimp only [Option.getD] at hlk
      refine wp_region_still_tail 6 (by kernel_rfl) (by kernel_rfl) ?_
      simp only [List.take_succ_cons, List.take_zero, List.drop_succ_cons, List.drop_zero]
      iterate 6 still_step
      refine wpStill_nil ?_
      go_wp2_with fail
      go_meet
      exact ⟨by rw [HF.out]; rfl, rfl⟩
  case rest =>
    obtain ⟨rfl, hwq⟩ := hcut
    have hb1 : Below W0.heap.size W0 wc := by rw [hwq]; exact (Below.refl _ _).drew
    have HB1 := Lib.hid hb1
    clear hwq hb1 c1 k0 k1
    go_upto_if 20 with (fail)
    go_cut [] from 9 to 26 (fun wx => ∃ I' f' ib gi, GV wx gb mb cb (n + 1) n n I' f' ∧ f' kl = some (.map (some ib)) ∧ IMap Tryd.prog 3 wx ib n gi ∧ I' ib ∧ Moves (fun q => q = mb) W0 wx ∧ ∀ q, I' q → I q ∨ w.heap.size + 2 ≤ q)
    case first =>
      have hG1 := HG0.out.below HB1.out
      rcases HVK.out with hf | ⟨ib, gi, hf, hi2, hI⟩
      · rw [hf]
        clear hf
        obtain ⟨l1, l2, l3⟩ := hG1.lt
        have hlt := H.out.lt
        have hk1 : wc.cell? ⟨w.heap.size + 1, 0, none⟩ = some (.int .i64 s) ∧ wc.cell? ⟨w.heap.size + 1, 1, none⟩ = some (.int .i64 b) := by
          have hb9 := HB1.out.block (w.heap.size + 1) (by rw [HS0.out]; omega)
          exact ⟨(World.cell?_of_block (a := ⟨w.heap.size + 1, 0, none⟩) hb9).trans HK.out.1, (World.cell?_of_block (a := ⟨w.heap.size + 1, 1, none⟩) hb9).trans HK.out.2⟩
        have hsz := HB1.out.size
        rw [HS0.out] at hsz
        have hbA : Below W0.heap.size W0 (wc.drew.alloc (.map #[] 0)) := HB1.out.trans ((Below.refl wc.heap.size wc).drew.alloc (Nat.le_refl _) (.map #[] 0) |>.mono HB1.out.size)
        have hGA := HG0.out.below hbA
        have hiA : IMap Tryd.prog 3 (wc.drew.alloc (.map #[] 0)) wc.heap.size n (fun _ => none) := (IMap.made Tryd.prog 3 wc.drew).mono (Nat.zero_le _)
        have hlA : w.heap.size + 1 < (wc.drew.alloc (.map #[] 0)).heap.size := by rw [World.size_alloc]; show w.heap.size + 1 < wc.heap.size + 1; omega
        have hkA : (wc.drew.alloc (.map #[] 0)).cell? ⟨w.heap.size + 1, 0, none⟩ = some (.int .i64 s) ∧ (wc.drew.alloc (.map #[] 0)).cell? ⟨w.heap.size + 1, 1, none⟩ = some (.int .i64 b) := by
          have hb9 := hbA.block (w.heap.size + 1) (by rw [HS0.out]; omega)
          exact ⟨(World.cell?_of_block (a := ⟨w.heap.size + 1, 0, none⟩) hb9).trans HK.out.1, (World.cell?_of_block (a := ⟨w.heap.size + 1, 1, none⟩) hb9).trans HK.out.2⟩
        have hkl := Tryd.atLaw.key HKL.out
        have hgeA : wc.heap.size ≠ mb ∧ wc.heap.size ≠ cb ∧ wc.heap.size ≠ gb := by omega
        go_upto_region 3 with (fail)
        have hz0 : (fun W => W.cell? ⟨gb, 1, none⟩ = some (.map (some mb)) ∧ W.cell? ⟨w.heap.size + 1, 0, none⟩ = some (.int .i64 s) ∧ W.cell? ⟨w.heap.size + 1, 1, none⟩ = some (.int .i64 b)) wc.drew := ⟨hG1.c1, hk1.1, hk1.2⟩
        refine wp_region_held_drew (S := (fun W => W.cell? ⟨gb, 1, none⟩ = some (.map (some mb)) ∧ W.cell? ⟨w.heap.size + 1, 0, none⟩ = some (.int .i64 s) ∧ W.cell? ⟨w.heap.size + 1, 1, none⟩ = some (.int .i64 b))) (by kernel_rfl) hz0 (fun hHeld => ?_)
        refine wpAnyH_take (i := 0) (oi := ⟨_, _, _, _, _, _⟩) (v := .pointer (some ⟨gb, 0, none⟩)) rfl (by kernel_rfl) (by kernel_rfl) (by kernel_rfl) (fun _ _ _ h => h) (Or.inl ⟨by rfl, fun _ _ => rfl⟩) hHeld ?_
        try simp only [Act.put, List.setIfInBounds_toArray, List.set_cons_zero, List.set_cons_succ]
        refine wpAnyH_take (i := 1) (oi := ⟨_, _, _, _, _, _⟩) (v := .pointer (some ⟨gb, 0, none⟩)) rfl (by kernel_rfl) (by kernel_rfl) (by kernel_rfl) (fun _ _ _ h => h) (Or.inl ⟨by rfl, fun W hW => by obtain ⟨q0, q1, q2⟩ := hW; go_simp⟩) hHeld ?_
        try simp only [Act.put, List.setIfInBounds_toArray, List.set_cons_zero, List.set_cons_succ]
        refine wpAnyH_take (i := 2) (oi := ⟨_, _, _, _, _, _⟩) (v := .pointer (some ⟨gb, 1, none⟩)) rfl (by kernel_rfl) (by kernel_rfl) (by kernel_rfl) (fun _ _ _ h => h) (Or.inl ⟨by rfl, fun W hW => by obtain ⟨q0, q1, q2⟩ := hW; go_simp⟩) hHeld ?_
        try simp only [Act.put, List.setIfInBounds_toArray, List.set_cons_zero, List.set_cons_succ]
        refine wpAnyH_take (i := 3) (oi := ⟨_, _, _, _, _, _⟩) (v := .map (some mb)) rfl (by kernel_rfl) (by kernel_rfl) (by kernel_rfl) (fun _ _ _ h => h) (Or.inl ⟨by rfl, fun W hW => by obtain ⟨q0, q1, q2⟩ := hW; go_simp⟩) hHeld ?_
        try simp only [Act.put, List.setIfInBounds_toArray, List.set_cons_zero, List.set_cons_succ]
        refine wpAnyH_take (i := 4) (oi := ⟨_, _, _, _, _, _⟩) (v := .agg #[.int .i64 s, .int .i64 b]) rfl (by kernel_rfl) (by kernel_rfl) (by kernel_rfl) (fun _ _ _ h => h) (Or.inl ⟨by rfl, fun W hW => by obtain ⟨q0, q1, q2⟩ := hW; go_simp⟩) hHeld ?_
        try simp only [Act.put, List.setIfInBounds_toArray, List.set_cons_zero, List.set_cons_succ]
        refine wpAnyH_ready (rs := [5]) (by kernel_rfl) (by simp) (AllReadyH.cons (o := ⟨_, _, _, _, _, _⟩) rfl (fun K hK => ?_) AllReadyH.nil)
        rw [if_pos (by rfl)]
        go_simp
        refine hK.out _ _ ⟨hGA.c1, hkA.1, hkA.2⟩ (fun hHeld => ?_)
        clear hK K
        try simp only [Act.put, List.setIfInBounds_toArray, List.set_cons_zero, List.set_cons_succ]
        refine wpAnyH_ready (rs := [6]) (by kernel_rfl) (by simp) (AllReadyH.cons (o := ⟨_, _, _, _, _, _⟩) rfl (fun K hK => ?_) AllReadyH.nil)
        refine step_store_any rfl (.tmp 24) (.tmp 25) (.tmp 26) 68 rfl 145 146 Tryd.atLaw Tryd.underlying68 mb n f rfl hGA.g (by unfold maxLen; omega) _ (.map (some wc.heap.size)) kl rfl rfl HKL.out ?_
        intro w4 hg4 hm4
        have hG4 := hGA.outer (gi := fun _ => none) hkl (hiA.keep (hm4.block wc.heap.size hiA.lt (by omega))) hg4 hgeA hm4
        have HG4 := Lib.hid hG4
        have HI4 := Lib.hid (hiA.keep (hm4.block wc.heap.size hiA.lt (by omega)))
        have HM4 := Lib.hid ((Moves.of_below (F := fun q => q = mb) hbA).trans hm4 fun q hq => .inl hq)
        have hk4 := fun (o : Nat) => World.cell?_of_block (a := ⟨w.heap.size + 1, o, none⟩) (hm4.block (w.heap.size + 1) hlA (by omega))
        refine hK.out _ _ ⟨HG4.out.c1, (hk4 0).trans hkA.1, (hk4 1).trans hkA.2⟩ (fun hHeld => ?_)
        clear hK K
        try simp only [Act.put]
        refine wpAnyH_done (by kernel_rfl) ?_ _
        go_wp2_with fail
        go_meet
        exact ⟨_, _, wc.heap.size, _, HG4.out, updM_same hkl, HI4.out, .inr rfl, HM4.out, fun q hq => by rcases hq with hq | rfl; exact .inl hq; exact .inr (by omega)⟩
      · rw [hf]
        have HI2 := Lib.hid hi2
        have HII := Lib.hid hI
        have HG1 := Lib.hid hG1
        have HF := Lib.hid hf
        clear hi2 hI hG1 hf
        go_wp2_with fail
        go_meet
        exact ⟨I, f, ib, gi, HG1.out.mono (by omega) (Nat.le_refl _) (Nat.le_refl _), HF.out, HI2.out.keep (HB1.out.block ib HI2.out.lt), HII.out, Moves.of_below HB1.out, fun q hq => .inl hq⟩
    case rest =>
      obtain ⟨I', f', ib, gi, hG, hf', hi2, hI, hM, hsub⟩ := hcut
      have hsz := hM.size
      rw [HS0.out] at hsz
      have hlt := H.out.lt
      obtain ⟨n1, n2, n3⟩ := H.out.ne
      have hx1 := hM.block w.heap.size (by rw [HS0.out]; omega) (by omega)
      have hk1 := hM.block (w.heap.size + 1) (by rw [HS0.out]; omega) (by omega)
      have HX1 : Hid (wc.cell? ⟨w.heap.size, 0, none⟩ = some (.int .i64 s) ∧ wc.cell? ⟨w.heap.size, 1, none⟩ = some (.int .i64 b) ∧ wc.cell? ⟨w.heap.size, 2, none⟩ = some (.string t)) := Lib.hid ⟨(World.cell?_of_block (a := ⟨w.heap.size, 0, none⟩) hx1).trans HX.out.1, (World.cell?_of_block (a := ⟨w.heap.size, 1, none⟩) hx1).trans HX.out.2.1, (World.cell?_of_block (a := ⟨w.heap.size, 2, none⟩) hx1).trans HX.out.2.2⟩
      have HK1 : Hid (wc.cell? ⟨w.heap.size + 1, 0, none⟩ = some (.int .i64 s) ∧ wc.cell? ⟨w.heap.size + 1, 1, none⟩ = some (.int .i64 b)) := Lib.hid ⟨(World.cell?_of_block (a := ⟨w.heap.size + 1, 0, none⟩) hk1).trans HK.out.1, (World.cell?_of_block (a := ⟨w.heap.size + 1, 1, none⟩) hk1).trans HK.out.2⟩
      have HC1 := Lib.hid ((World.cell?_of_block (a := ⟨gb, 0, none⟩) (hM.block gb (by rw [HS0.out]; omega) n2)).trans HC0.out)
      have hlk := (hG.g.keep (w' := wc.drew) rfl).look1 Tryd.atLaw Tryd.underlying68 (Tryd.zeroInner wc.drew) HKL.out
      rw [hf'] at hlk
      dsimp only [Option.getD] at hlk
      have c1 := hG.c1
      obtain ⟨k0, k1⟩ := HK1.out
      have HG := Lib.hid hG
      have HM := Lib.hid hM
      have HSUB := Lib.hid hsub
      have HII := Lib.hid hI
      have HFK := Lib.hid hf'
      have HI2 := Lib.hid (hi2.keep (w' := wc.drew) rfl)
      have hmx : n < maxLen := by unfold maxLen; omega
      clear hG hf' hi2 hI hM hsub hx1 hk1 HG0 HX HK HC0 HVK
      go_upto_region 4 with (fail)
      refine wp_region_still_tail 7 (by kernel_rfl) (by kernel_rfl) ?_
      simp only [List.take_succ_cons, List.take_zero, List.drop_succ_cons, List.drop_zero]
      iterate 7 still_step
      refine wpStill_nil ?_
      go_upto_region 5 with (refine wpList_store_int _ Tryd.underlying3 rfl (.tmp 32) (.tmp 33) _ 146 rfl Tryd.underlying146 ib n gi rfl HI2.out hmx i _ rfl rfl hi ?_)
      intro w4 hi4 hm4
      have hG4 := (HG.out.below (Below.refl wc.heap.size wc).drew).inner HII.out hi4 hm4
      have hibx : ib ≠ w.heap.size ∧ ib ≠ w.heap.size + 1 ∧ ib ≠ gb ∧ ib ≠ mb := by
        obtain ⟨q1, q2, q3, q4⟩ := HG.out.ni ib HII.out
        rcases HSUB.out ib HII.out with h1 | h1
        · have := (H.out.ni ib h1).2.2.2; omega
        · omega
      have hx4 := hm4.block w.heap.size (show w.heap.size < wc.heap.size by omega) (Ne.symm hibx.1)
      have hk4 := hm4.block (w.heap.size + 1) (show w.heap.size + 1 < wc.heap.size by omega) (Ne.symm hibx.2.1)
      have hg4 := hm4.block gb (show gb < wc.heap.size by omega) (Ne.symm hibx.2.2.1)
      have HX4 : Hid (w4.cell? ⟨w.heap.size, 0, none⟩ = some (.int .i64 s) ∧ w4.cell? ⟨w.heap.size, 1, none⟩ = some (.int .i64 b) ∧ w4.cell? ⟨w.heap.size, 2, none⟩ = some (.string t)) := Lib.hid ⟨(World.cell?_of_block (a := ⟨w.heap.size, 0, none⟩) hx4).trans HX1.out.1, (World.cell?_of_block (a := ⟨w.heap.size, 1, none⟩) hx4).trans HX1.out.2.1, (World.cell?_of_block (a := ⟨w.heap.size, 2, none⟩) hx4).trans HX1.out.2.2⟩
      have HK4 : Hid (w4.cell? ⟨w.heap.size + 1, 0, none⟩ = some (.int .i64 s) ∧ w4.cell? ⟨w.heap.size + 1, 1, none⟩ = some (.int .i64 b)) := Lib.hid ⟨(World.cell?_of_block (a := ⟨w.heap.size + 1, 0, none⟩) hk4).trans HK1.out.1, (World.cell?_of_block (a := ⟨w.heap.size + 1, 1, none⟩) hk4).trans HK1.out.2⟩
      have HC4 := Lib.hid ((World.cell?_of_block (a := ⟨gb, 0, none⟩) hg4).trans HC1.out)
      have hM4 : Moves (votedF mb cb I) w w4 := by
        refine ⟨hm4.os.trans (HM.out.os.trans HB0.out.os), hm4.tape.trans (HM.out.tape.trans HB0.out.tape), hm4.output.trans (HM.out.output.trans HB0.out.output), Nat.le_trans HB0.out.size (Nat.le_trans HM.out.size hm4.size), fun q hq hn => ?_⟩
        have hq2 : q < wc.heap.size := by omega
        have h1 : q ≠ ib := fun e => by
          rcases HSUB.out ib HII.out with h2 | h2
          · exact hn (.inr (.inr (e ▸ h2)))
          · omega
        exact (hm4.block q hq2 h1).trans ((HM.out.block q (by rw [HS0.out]; omega) fun e => hn (.inl e)).trans (HB0.out.block q hq))
      have hs4 : w.heap.size + 2 ≤ w4.heap.size := Nat.le_trans hsz hm4.size
      have HG4 := Lib.hid hG4
      have HM4 := Lib.hid hM4
      clear hi4 hm4 hG4 hibx hx4 hk4 hg4 hM4 HG HM HX1 HK1 HC1 HI2 hlk c1 k0 k1 hsz
      obtain ⟨gc, fc, hc1, hc2⟩ := HG4.out.ch
      have hlc := (hc1.keep (w' := w4.drew) rfl).look (int_keyed Tryd.underlying3) Tryd.underlying69 (Tryd.zeroStr w4.drew) (keyOf_int_mk Tryd.underlying3 hs)
      obtain ⟨cv, hcv⟩ : ∃ cv, cv = (fc (.int .i64 s)).getD (.string ⟨#[]⟩) := ⟨_, rfl⟩
      obtain ⟨is, his⟩ : ∃ is, is = (fc (.int .i64 s)).isSome := ⟨_, rfl⟩
      rw [← hcv, ← his] at hlc
      have c2 := HG4.out.c2
      obtain ⟨x0, x1, x2⟩ := HX4.out
      clear hcv his hc1 hc2
      go_wp2_with fail
      refine wp_region_still_tail 11 (by kernel_rfl) (by kernel_rfl) ?_
      simp only [List.take_succ_cons, List.take_zero, List.drop_succ_cons, List.drop_zero]
      iterate 11 still_step
      refine wpStill_nil ?_
      go_upto_region 6 with (fail)
      have HG5 := Lib.hid (HG4.out.below (Below.refl w4.heap.size w4).drew)
      have HX5 : Hid (w4.drew.cell? ⟨w.heap.size, 0, none⟩ = some (.int .i64 s) ∧ w4.drew.cell? ⟨w.heap.size, 1, none⟩ = some (.int .i64 b) ∧ w4.drew.cell? ⟨w.heap.size, 2, none⟩ = some (.string t)) := HX4
      have HK5 : Hid (w4.drew.cell? ⟨w.heap.size + 1, 0, none⟩ = some (.int .i64 s) ∧ w4.drew.cell? ⟨w.heap.size + 1, 1, none⟩ = some (.int .i64 b)) := HK4
      have HC5 : Hid (w4.drew.cell? ⟨gb, 0, none⟩ = some (.slice (some ⟨nb, 0, none⟩) 3 cap)) := HC4
      have HM5 := Lib.hid HM4.out.drew
      have hs5 : w.heap.size + 2 ≤ w4.drew.heap.size := hs4
      change Code.wp _ _ _ _ w4.drew
      generalize w4.drew = W5 at HG5 HX5 HK5 HC5 HM5 hs5 ⊢
      clear HG4 HX4 HK4 HC4 HM4 hs4 hlc c2 x0 x1 x2
      go_cut [56] from 9 to 56 (fun s56 wx => (∃ B, s56 = .bool B) ∧ ∃ q, wx = W5.drewN q)
      case first =>
        cases is with
        | true =>
          go_quiet (fail)
          go_wp2_with fail
          go_meet
          exact ⟨⟨_, rfl⟩, _, rfl⟩
        | false =>
          have hlk := (HG5.out.g.keep (w' := W5.drew) rfl).look1 Tryd.atLaw Tryd.underlying68 (Tryd.zeroInner W5.drew) HKL.out
          rw [HFK.out] at hlk
          dsimp only [Option.getD] at hlk
          obtain ⟨ib2, gi2, hv2, hi2, -⟩ := HG5.out.i kl _ HFK.out
          injection hv2 with hv2
          injection hv2 with hv2
          subst hv2
          obtain ⟨fi, hfi, -⟩ := hi2
          obtain ⟨ln, -, hln⟩ := (hfi.keep (w' := W5.drew) rfl).len Tryd.underlying146 3
          have c1 := HG5.out.c1
          obtain ⟨k0, k1⟩ := HK5.out
          have hmo := qmost_gen (w := W5.drew) (gb := gb) HC5.out (ln : Int)
          clear hfi
          refine wp_region_still_tail 11 (by kernel_rfl) (by kernel_rfl) ?_
          simp only [List.take_succ_cons, List.take_zero, List.drop_succ_cons, List.drop_zero]
          iterate 11 still_step
          refine wpStill_nil ?_
          go_wp2_with (go_at_call 29
                       refine hmo.mono ?_
                       clear hmo
                       rintro e w6 ⟨⟨r, rfl⟩, rfl⟩)
          go_meet
          exact ⟨⟨_, rfl⟩, 1, rfl⟩
      case rest =>
        obtain ⟨⟨B, rfl⟩, q, hwq⟩ := hcut
        have hb6 : Below W5.heap.size W5 wc := by rw [hwq]; exact below_drewN (Below.refl _ _) _
        have HG6 := Lib.hid (HG5.out.below hb6)
        have HM6 := Lib.hid (HM5.out.trans (Moves.of_below (F := fun _ => False) hb6) fun _ h => h.elim)
        have HX6 : Hid (wc.cell? ⟨w.heap.size, 0, none⟩ = some (.int .i64 s) ∧ wc.cell? ⟨w.heap.size, 1, none⟩ = some (.int .i64 b) ∧ wc.cell? ⟨w.heap.size, 2, none⟩ = some (.string t)) := by rw [hwq]; exact HX5
        clear hwq hb6 HG5 HX5 HK5 HC5 HM5
        cases B with
        | false =>
          go_wp2_with fail
          go_end0
          exact ⟨rfl, HM6.out, I', f', HG6.out.mono (Nat.le_refl _) (Nat.le_refl _) (Nat.le_succ n), fun q hq => by rcases HSUB.out q hq with h1 | h1; exact .inl h1; exact .inr (by omega)⟩
        | true =>
          obtain ⟨gc6, hch⟩ := HG6.out.ch
          have HCH := Lib.hid (hch.keep (w' := wc.drew) rfl)
          have c2 := HG6.out.c2
          obtain ⟨x0, x1, x2⟩ := HX6.out
          clear hch
          go_upto_region 7 with (fail)
          refine wp_region_still_tail 8 (by kernel_rfl) (by kernel_rfl) ?_
          simp only [List.take_succ_cons, List.take_zero, List.drop_succ_cons, List.drop_zero]
          iterate 8 still_step
          refine wpStill_nil ?_
          go_wp2_with (refine wpList_store_int _ Tryd.underlying3 rfl (.tmp 60) (.tmp 62) (.tmp 64) 69 rfl Tryd.underlying69 cb n gc6 rfl HCH.out hmx s (.string t) rfl rfl hs ?_)
          intro w7 hc7 hm7
          have HG7 := Lib.hid ((HG6.out.below (Below.refl wc.heap.size wc).drew).chose hc7 hm7)
          have HM7 := Lib.hid (HM6.out.drew.trans hm7 fun q hq => .inl (.inr (.inl hq)))
          clear hc7 hm7
          go_wp2_with fail
          go_end0
          exact ⟨rfl, HM7.out, I', f', HG7.out, fun q hq => by rcases HSUB.out q hq with h1 | h1; exact .inl h1; exact .inr (by omega)⟩
end
end Go.Proofs.YtfjfkmoofmncnaaDoor
