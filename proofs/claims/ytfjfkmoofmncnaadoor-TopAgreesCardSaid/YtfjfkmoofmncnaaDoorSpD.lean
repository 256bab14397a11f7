/- span: Put of a hold that none stands against. -/
import Derived.Test.YtfjfkmoofmncnaaDoorSpC
import Derived.Deep.RegionHeld
import Derived.Deep.RegionHeld3
namespace Go.Proofs.YtfjfkmoofmncnaaDoor
open Go.RowKit
def putR (R : Nat → Nat → Nat) (x : Hd) : Nat → Nat → Nat := setR R x.c x.a x.b fun m => max m x.m
section
variable {w w' : World} {b : Nat} {R : Nat → Nat → Nat}
theorem IsTab.ne (h : IsTab w b R) (hW : Whole w) : b ≠ 1 := fun e => by
  have h1 := h.c 0 0 (by omega) (by omega)
  rw [e] at h1
  have h2 := hW.a
  rw [show 0 * 256 + 0 = 0 from rfl, h2] at h1
  cases h1
theorem Whole.moves {F : Nat → Prop} (h : Whole w) (hm : Moves F w w') (hF : ¬ F 1) : Whole w' := h.keep (hm.block _ h.lt hF)
set_option maxRecDepth 100000 in
theorem Tryd.infoSRow : (Tryd.prog.info? 123).map (·.size) = some 256 := by kernel_rfl
def zSRow : List Value := List.replicate 256 (.int .u8 0)
theorem Tryd.infoSRowZ : (Tryd.prog.info? 123).map (fun i => (i.zero, i.size)) = some (some (.agg zSRow.toArray), 256) := by kernel_rfl
set_option maxRecDepth 100000 in
theorem put1_any (B : Nat) (x : Hd) (hm : x.m ≤ 2) (h3 : w.cell? ⟨B, 3, none⟩ = some (.int .i64 (x.m : Int))) (m : Nat) (_ : m < 256) :
    Calls Tryd.prog 151 #[.int .u8 (m : Int), .pointer (some ⟨B, 0, none⟩)] w fun e w' => e = .returned (.int .u8 ((max m x.m : Nat) : Int)) ∧ w = w' := by
  have e1 : IntKind.u8.wrap (x.m : Int) = (x.m : Int) := by
    rcases (by omega : x.m = 0 ∨ x.m = 1 ∨ x.m = 2) with h | h | h <;> rw [h] <;> rfl
  go_enter Tryd.func151, Tryd.ntmps151
  go_wp2_with fail
  all_goals go_ret
  all_goals exact ⟨by first | (rw [show (max m x.m : Nat) = m by omega]; rfl) | (rw [show (max m x.m : Nat) = x.m by omega]; rfl), rfl⟩
set_option maxRecDepth 100000 in
set_option maxHeartbeats 4000000 in
theorem put_two (h : IsTab w b R) (hR : Small R) (hW : Whole w) (x : Hd) (hc : x.c < 8) (e1 : ((x.m : Int) != 1) = true) (e2 : ((x.m : Int) != 2) = false) (hm : x.m ≤ 2) (hab : x.a < x.b) (hb : x.b ≤ 256) (hag : someOf R x.a x.b (agP x) 8 = []) :
    Calls Tryd.prog 142 #[.pointer (some ⟨b, 0, none⟩), x.val] w fun e w' => e = .returned (.int .i64 (if (holdsOf (putR R x)).length ≤ 256 then 0 else 2)) ∧ IsTab w' b (if (holdsOf (putR R x)).length ≤ 256 then putR R x else R) ∧ Moves (fun k => k = b) w w' := by
  have hcl := fun W => sclient_yes (w := W) x.c hc
  have hag' := fun (W : World) (hT : IsTab W b R) => against_any hT hR x
  rw [hag] at hag'
  have e3 : decide ((x.a : Int) < 0) = false := by simp
  have e4 : decide ((x.b : Int) ≤ (x.a : Int)) = false := by simp; omega
  have e5 : decide ((256 : Int) < (x.b : Int)) = false := by simp; omega
  have hbl := h.lt
  have HI := Lib.hid h
  have HW := Lib.hid hW
  clear h hW
  unfold Hd.val at hag' ⊢
  go_enter Tryd.func142, Tryd.ntmps142
  go_wp2_with (first
    | (go_at_call 150; refine (hcl _).mono ?_; clear hcl; rintro e w1 ⟨rfl, rfl⟩)
    | (go_at_call 124; refine (hag' _ (HI.out.keep (Below.heap_alloc _ _ _ HI.out.lt))).mono ?_; clear hag'; rintro e w1 ⟨v, rfl, ho, hB⟩
       have x0 : w1.cell? ⟨w.heap.size, 0, none⟩ = some (.int .i64 (x.a : Int)) := (made_cell hB 0).trans rfl
       have x1 : w1.cell? ⟨w.heap.size, 1, none⟩ = some (.int .i64 (x.b : Int)) := (made_cell hB 1).trans rfl
       have x2 : w1.cell? ⟨w.heap.size, 2, none⟩ = some (.int .i64 (x.c : Int)) := (made_cell hB 2).trans rfl
       have x3 : w1.cell? ⟨w.heap.size, 3, none⟩ = some (.int .i64 (x.m : Int)) := (made_cell hB 3).trans rfl
       have y0 := made_fro hB 0
       obtain ⟨av, cv, rfl⟩ := row_lens ho
       have HB := Lib.hid hB
       clear hB ho))
  -- the row as it was
  have hT1 : IsTab w1 b R := HI.out.keep ((HB.out.block b (by simp; omega)).trans (Below.heap_alloc _ _ _ hbl))
  have hM1 : Moves (fun k => k = b) w w1 := ((Moves.refl _ w).alloc _).trans (Moves.of_below (F := fun _ => False) HB.out) fun i h => h.elim
  have hszw : w.heap.size + 1 ≤ w1.heap.size := by have := HB.out.size; simpa using this
  obtain ⟨CL, hCL⟩ : ∃ CL : List Value, CL = (List.range 256).map fun k => .int .u8 (R x.c k : Int) := ⟨_, rfl⟩
  have hCn : CL.length = 256 := by rw [hCL]; simp
  have hC1 : ∀ v ∈ CL, v.oneCell' = true := by
    rw [hCL]; intro v hv; obtain ⟨k, _, rfl⟩ := List.mem_map.1 hv; rfl
  have hrng : w1.rangeAt b (x.c * 256) CL := fun j u hj => by
    have hjl := (List.getElem?_eq_some_iff.1 hj).1
    rw [hCn] at hjl
    rw [hT1.c x.c j hc hjl]
    rw [hCL] at hj
    simpa [hjl] using hj
  have hsz256 : (Tryd.prog.info? 123).map (·.size) = some CL.length := by rw [hCn]; exact Tryd.infoSRow
  have HCL := Lib.hid hCL
  have HT1 := Lib.hid hT1
  have HM1 := Lib.hid hM1
  clear hCL hT1 hM1
  have hc8 : (x.c : Int) < 8 := by omega
  have hzr := (zero_of_info Tryd.infoSRowZ).1
  have hS0 : w1.drew.rangeAt b (x.c * 256) CL ∧ w1.drew.cell? ⟨w.heap.size, 2, none⟩ = some (.int .i64 (x.c : Int)) := ⟨hrng, x2⟩
  refine wp_region_held_drew (S := fun w' => w'.rangeAt b (x.c * 256) CL ∧ w'.cell? ⟨w.heap.size, 2, none⟩ = some (.int .i64 (x.c : Int))) (by kernel_rfl) hS0 (fun hHeld => ?_)
  refine wpAnyH_take (i := 0) (oi := ⟨_, _, _, _, _, _⟩) (v := _) rfl (by kernel_rfl) (by kernel_rfl) (by kernel_rfl) (fun _ _ _ h => h) (Or.inl ⟨by rfl, fun _ _ => rfl⟩) hHeld ?_
  try simp only [Act.put, List.setIfInBounds_toArray, List.set_cons_zero, List.set_cons_succ]
  refine wpAnyH_take (i := 1) (oi := ⟨_, _, _, _, _, _⟩) (v := .pointer (some ⟨w.heap.size, 2, none⟩)) rfl (by kernel_rfl) (by kernel_rfl) (by kernel_rfl) (fun _ _ _ h => h) (Or.inl ⟨by rfl, fun _ _ => by go_simp⟩) hHeld ?_
  try simp only [Act.put, List.setIfInBounds_toArray, List.set_cons_zero, List.set_cons_succ]
  refine wpAnyH_take (i := 2) (oi := ⟨_, _, _, _, _, _⟩) (v := .int .i64 (x.c : Int)) rfl (by kernel_rfl) (by kernel_rfl) (by kernel_rfl) (fun _ _ _ h => h) (Or.inl ⟨by rfl, fun W hW => by have h2 := hW.2; go_simp⟩) hHeld ?_
  try simp only [Act.put, List.setIfInBounds_toArray, List.set_cons_zero, List.set_cons_succ]
  refine wpAnyH_take (i := 3) (oi := ⟨_, _, _, _, _, _⟩) (v := .pointer (some ⟨b, 0, none⟩)) rfl (by kernel_rfl) (by kernel_rfl) (by kernel_rfl) (fun _ _ _ h => h) (Or.inl ⟨by rfl, fun _ _ => by go_simp⟩) hHeld ?_
  try simp only [Act.put, List.setIfInBounds_toArray, List.set_cons_zero, List.set_cons_succ]
  refine wpAnyH_take (i := 4) (oi := ⟨_, _, _, _, _, _⟩) (v := .pointer (some ⟨b, 0, none⟩)) rfl (by kernel_rfl) (by kernel_rfl) (by kernel_rfl) (fun _ _ _ h => h) (Or.inl ⟨by rfl, fun _ _ => by go_simp⟩) hHeld ?_
  try simp only [Act.put, List.setIfInBounds_toArray, List.set_cons_zero, List.set_cons_succ]
  refine wpAnyH_take (i := 5) (oi := ⟨_, _, _, _, _, _⟩) (v := .pointer (some ⟨b, x.c * 256, none⟩)) rfl (by kernel_rfl) (by kernel_rfl) (by kernel_rfl) (fun _ _ _ h => h) (Or.inl ⟨by rfl, fun _ _ => by go_simp⟩) hHeld ?_
  try simp only [Act.put, List.setIfInBounds_toArray, List.set_cons_zero, List.set_cons_succ]
  refine wpAnyH_take (i := 6) (oi := ⟨_, _, _, _, _, _⟩) (v := .agg CL.toArray) rfl (by kernel_rfl) (by kernel_rfl) (by kernel_rfl) (fun _ _ _ h => h) (yieldsIf_load_mid (by rfl) 123 (.tmp 52) rfl b (x.c * 256) rfl CL _ (fun w' hS => hS.1) Tryd.underlying123 rfl hsz256) hHeld ?_
  try simp only [Act.put, List.setIfInBounds_toArray, List.set_cons_zero, List.set_cons_succ]
  refine wpAnyH_ready (rs := [7]) (by kernel_rfl) (by simp) (AllReadyH.cons (o := ⟨_, _, _, _, _, _⟩) rfl (fun K hK => ?_) AllReadyH.nil)
  go_simp
  refine hK.out _ _ ⟨World.rangeAt_alloc hHeld.1 _, (World.cell?_alloc_lt _ _ _ (by show w.heap.size < w1.heap.size; omega)).trans hHeld.2⟩ (fun hHeld => ?_)
  clear hK K
  try simp only [Act.put, List.setIfInBounds_toArray, List.set_cons_zero, List.set_cons_succ]
  refine wpAnyH_ready (rs := [8]) (by kernel_rfl) (by simp) (AllReadyH.cons (o := ⟨_, _, _, _, _, _⟩) rfl (fun K hK => ?_) AllReadyH.nil)
  rw [if_pos (by rfl)]
  have hthere : (w1.drew.alloc (.cells zSRow.toArray 123)).there w1.heap.size 0 CL.toArray.size := fun j hj => by
    rw [List.size_toArray, hCn] at hj
    have h1 := World.cell?_alloc_new w1.drew zSRow.toArray 123 (0 + j)
    have h2 := World.frozen?_alloc_new w1.drew zSRow.toArray 123 (0 + j)
    refine ⟨?_, h2⟩
    rw [show w1.heap.size = w1.drew.heap.size from rfl, h1, List.getElem?_toArray]
    unfold zSRow
    rw [List.getElem?_replicate, if_pos (by omega)]
    rfl
  refine wp_store_mid 123 (.tmp 5) (.tmp 53) rfl w1.heap.size 0 CL.toArray rfl rfl hthere hsz256 (all_oneCell_toArray hC1) ?_
  have hkV : ∀ k, k < w1.heap.size → ((w1.alloc (.cells zSRow.toArray 123)).drew.setCells w1.heap.size 0 CL).heap[k]? = w1.heap[k]? := fun k hk =>
    (heap_setCells _ _ (by omega) _ _ _).trans (Below.heap_alloc _ _ _ hk)
  have hwas : ((w1.alloc (.cells zSRow.toArray 123)).drew.setCells w1.heap.size 0 CL).rangeAt w1.heap.size 0 CL := World.rangeAt_setCells_same _ _ _ _ (by rw [List.size_toArray] at hthere; exact hthere)
  have hMV : Moves (fun k => k = b) w1 ((w1.alloc (.cells zSRow.toArray 123)).drew.setCells w1.heap.size 0 CL) := ((Moves.refl _ w1).alloc _).drew.setCells _ _ _ (.inr (Nat.le_refl _))
  refine hK.out _ _ ⟨rangeAt_congr hrng (hkV b (by omega)), (World.cell?_of_block (a := ⟨w.heap.size, 2, none⟩) (hkV w.heap.size (by omega))).trans x2⟩ (fun _ => ?_)
  clear hK K hHeld hS0
  try simp only [Act.put]
  refine wpAnyH_done (by kernel_rfl) ?_ _
  have hVsz : w1.heap.size < ((w1.alloc (.cells zSRow.toArray 123)).drew.setCells w1.heap.size 0 CL).heap.size := by rw [size_setCells]; show w1.heap.size < (w1.alloc (.cells zSRow.toArray 123)).heap.size; rw [World.size_alloc]; omega
  generalize hV : (w1.alloc (.cells zSRow.toArray 123)).drew.setCells w1.heap.size 0 CL = V at hkV hwas hMV hVsz ⊢
  have z0 := (World.cell?_of_block (a := ⟨w.heap.size, 0, none⟩) (hkV w.heap.size (by omega))).trans x0
  have z1 := (World.cell?_of_block (a := ⟨w.heap.size, 1, none⟩) (hkV w.heap.size (by omega))).trans x1
  have z2 : V.cell? ⟨w.heap.size, 2, none⟩ = some (.int .i64 (x.c : Int)) := (World.cell?_of_block (a := ⟨w.heap.size, 2, none⟩) (hkV w.heap.size (by omega))).trans x2
  have z3 := (World.cell?_of_block (a := ⟨w.heap.size, 3, none⟩) (hkV w.heap.size (by omega))).trans x3
  have HTV := Lib.hid (HT1.out.keep (hkV b (by omega)))
  have HMV := Lib.hid (HM1.out.trans hMV fun i hi => .inl hi)
  have HWas := Lib.hid hwas
  have Z2 := Lib.hid z2
  have Z3 := Lib.hid z3
  clear hkV hwas hMV hV x0 x1 x2 x3 y0 hthere hzr hrng
  have hset := set_any HTV.out hR.lt x.c x.a x.b hc 151 #[.pointer (some ⟨w.heap.size, 0, none⟩)] (fun m => max m x.m) (enters_of Tryd.func151 (by kernel_rfl) rfl)
    (fun m W hm2 hM => put1_any w.heap.size x hm ((hM.cell (p := ⟨w.heap.size, 3, none⟩) (by show w.heap.size < _; omega) (by show ¬ w.heap.size = b; omega)).trans Z3.out) m hm2)
  have hR2 : Small (putR R x) := fun c k h1 h2 => by
    unfold putR setR
    have := hR c k h1 h2
    split
    · show max (R c k) x.m ≤ 2; omega
    · exact this
  have hlist := fun (W : World) (hT : IsTab W b (putR R x)) (hW : Whole W) => slist_any hT hR2 hW
  have hbne := HI.out.ne HW.out
  unfold rng at hset
  go_wp2_with (first
    | (go_at_call 145; refine hset.mono ?_; clear hset; rintro e w2 ⟨⟨v2, rfl⟩, hT2, hM2⟩
       have HT2 := Lib.hid hT2
       have HM2 := Lib.hid hM2
       clear hT2 hM2 z0 z1 z2 z3)
    | (go_at_call 41; refine (hlist _ HT2.out (HW.out.moves (HMV.out.trans HM2.out fun i hi => .inl hi) (fun e => hbne e.symm))).mono ?_; clear hlist; rintro e w3 ⟨v3, rfl, ho3, hB3⟩
       obtain ⟨av3, cv3, rfl⟩ := row_lens ho3
       have HB3 := Lib.hid hB3
       clear hB3 ho3))
  · have hb3 : w3.heap[b]? = w2.heap[b]? := HB3.out.block b HT2.out.lt
    have hT3 : IsTab w3 b (putR R x) := HT2.out.keep hb3
    have hM3 : Moves (fun k => k = b) V w3 := HM2.out.trans (Moves.of_below (F := fun _ => False) HB3.out) fun i h => h.elim
    have hz2 : w3.cell? ⟨w.heap.size, 2, none⟩ = some (.int .i64 (x.c : Int)) := (hM3.cell (p := ⟨w.heap.size, 2, none⟩) (by show w.heap.size < _; omega) (by show ¬ w.heap.size = b; omega)).trans Z2.out
    have hwas3 : w3.rangeAt w1.heap.size 0 CL := rangeAt_congr HWas.out (hM3.block _ hVsz (by omega))
    have HT3 := Lib.hid hT3
    have HM3 := Lib.hid (HMV.out.trans hM3 fun i hi => .inl hi)
    clear hT3 hM3
    have hS3 : w3.drew.rangeAt w1.heap.size 0 CL ∧ w3.drew.cell? ⟨w.heap.size, 2, none⟩ = some (.int .i64 (x.c : Int)) := ⟨hwas3, hz2⟩
    clear hz2 hwas3
    refine wp_region_held_drew (S := fun w' => w'.rangeAt w1.heap.size 0 CL ∧ w'.cell? ⟨w.heap.size, 2, none⟩ = some (.int .i64 (x.c : Int))) (by kernel_rfl) hS3 (fun hHeld => ?_)
    refine wpAnyH_take (i := 0) (oi := ⟨_, _, _, _, _, _⟩) (v := _) rfl (by kernel_rfl) (by kernel_rfl) (by kernel_rfl) (fun _ _ _ h => h) (Or.inl ⟨by rfl, fun _ _ => rfl⟩) hHeld ?_
    try simp only [Act.put, List.setIfInBounds_toArray, List.set_cons_zero, List.set_cons_succ]
    refine wpAnyH_take (i := 1) (oi := ⟨_, _, _, _, _, _⟩) (v := .pointer (some ⟨w.heap.size, 2, none⟩)) rfl (by kernel_rfl) (by kernel_rfl) (by kernel_rfl) (fun _ _ _ h => h) (Or.inl ⟨by rfl, fun _ _ => by go_simp⟩) hHeld ?_
    try simp only [Act.put, List.setIfInBounds_toArray, List.set_cons_zero, List.set_cons_succ]
    refine wpAnyH_take (i := 2) (oi := ⟨_, _, _, _, _, _⟩) (v := .int .i64 (x.c : Int)) rfl (by kernel_rfl) (by kernel_rfl) (by kernel_rfl) (fun _ _ _ h => h) (Or.inl ⟨by rfl, fun W hW => by have h2 := hW.2; go_simp⟩) hHeld ?_
    try simp only [Act.put, List.setIfInBounds_toArray, List.set_cons_zero, List.set_cons_succ]
    refine wpAnyH_take (i := 3) (oi := ⟨_, _, _, _, _, _⟩) (v := .agg CL.toArray) rfl (by kernel_rfl) (by kernel_rfl) (by kernel_rfl) (fun _ _ _ h => h) (yieldsIf_load_mid (by rfl) 123 (.tmp 5) rfl w1.heap.size 0 rfl CL _ (fun w' hS => hS.1) Tryd.underlying123 rfl hsz256) hHeld ?_
    try simp only [Act.put, List.setIfInBounds_toArray, List.set_cons_zero, List.set_cons_succ]
    refine wpAnyH_take (i := 4) (oi := ⟨_, _, _, _, _, _⟩) (v := .pointer (some ⟨b, 0, none⟩)) rfl (by kernel_rfl) (by kernel_rfl) (by kernel_rfl) (fun _ _ _ h => h) (Or.inl ⟨by rfl, fun _ _ => by go_simp⟩) hHeld ?_
    try simp only [Act.put, List.setIfInBounds_toArray, List.set_cons_zero, List.set_cons_succ]
    refine wpAnyH_take (i := 5) (oi := ⟨_, _, _, _, _, _⟩) (v := .pointer (some ⟨b, 0, none⟩)) rfl (by kernel_rfl) (by kernel_rfl) (by kernel_rfl) (fun _ _ _ h => h) (Or.inl ⟨by rfl, fun _ _ => by go_simp⟩) hHeld ?_
    try simp only [Act.put, List.setIfInBounds_toArray, List.set_cons_zero, List.set_cons_succ]
    refine wpAnyH_take (i := 6) (oi := ⟨_, _, _, _, _, _⟩) (v := .pointer (some ⟨b, x.c * 256, none⟩)) rfl (by kernel_rfl) (by kernel_rfl) (by kernel_rfl) (fun _ _ _ h => h) (Or.inl ⟨by rfl, fun _ _ => by go_simp⟩) hHeld ?_
    try simp only [Act.put, List.setIfInBounds_toArray, List.set_cons_zero, List.set_cons_succ]
    refine wpAnyH_ready (rs := [7]) (by kernel_rfl) (by simp) (AllReadyH.cons (o := ⟨_, _, _, _, _, _⟩) rfl (fun K hK => ?_) AllReadyH.nil)
    rw [if_pos (by rfl)]
    have hth : w3.drew.there b (x.c * 256) CL.toArray.size := fun j hj => by
      rw [List.size_toArray, hCn] at hj
      exact ⟨by rw [show w3.drew.cell? ⟨b, x.c * 256 + j, none⟩ = w3.cell? ⟨b, x.c * 256 + j, none⟩ from rfl, HT3.out.c x.c j hc hj]; rfl, HT3.out.fro _⟩
    refine wp_store_mid 123 (.tmp 71) (.tmp 68) rfl b (x.c * 256) CL.toArray rfl rfl hth hsz256 (all_oneCell_toArray hC1) ?_
    have hback : IsTab (w3.drew.setCells b (x.c * 256) CL) b R := by
      have hTd : IsTab w3.drew b (putR R x) := HT3.out.keep rfl
      refine ⟨fun c k hc' hk => ?_, fun o => by rw [World.frozen?_setCells]; exact hTd.fro o⟩
      by_cases e : c = x.c
      · subst e
        have := World.cell?_setCells_in b CL (x.c * 256) w3.drew (fun j hj => (hth j (by simpa using hj)).1) k (by omega)
        rw [this]
        have hx := HCL.out
        subst hx
        simp
      · rw [World.cell?_setCells_out b CL (x.c * 256) w3.drew ⟨b, c * 256 + k, none⟩ (fun _ _ => by show c * 256 + k < x.c * 256 ∨ x.c * 256 + CL.length ≤ c * 256 + k; omega), hTd.c c k hc' hk]
        unfold putR setR
        rw [if_neg (by omega)]
    have hMb : Moves (fun k => k = b) w (w3.drew.setCells b (x.c * 256) CL) := Moves.setCells (F := fun k => k = b) HM3.out.drew b _ _ (.inl rfl)
    have HBk := Lib.hid hback
    have HMb := Lib.hid hMb
    refine hK.out _ _ ⟨World.rangeAt_setCells_apart hHeld.1 _ _ _ (.inl (by omega)), by rw [World.cell?_setCells_out b CL (x.c * 256) w3.drew ⟨w.heap.size, 2, none⟩ (fun e _ => by have e2 : w.heap.size = b := e; omega)]; exact hHeld.2⟩ (fun _ => ?_)
    clear hK K hHeld hback hMb hth
    try simp only [Act.put]
    refine wpAnyH_done (by kernel_rfl) ?_ _
    go_wp2_with fail
    go_ret
    exact ⟨rfl, HBk.out, HMb.out⟩
  · go_ret
    exact ⟨rfl, HT2.out.keep (HB3.out.block b HT2.out.lt), (HMV.out.trans HM2.out fun i hi => .inl hi).trans (Moves.of_below (F := fun _ => False) HB3.out) fun i h => h.elim⟩
set_option maxRecDepth 100000 in
set_option maxHeartbeats 4000000 in
theorem put_one (h : IsTab w b R) (hR : Small R) (hW : Whole w) (x : Hd) (hc : x.c < 8) (e1 : ((x.m : Int) != 1) = false) (hm : x.m ≤ 2) (hab : x.a < x.b) (hb : x.b ≤ 256) (hag : someOf R x.a x.b (agP x) 8 = []) :
    Calls Tryd.prog 142 #[.pointer (some ⟨b, 0, none⟩), x.val] w fun e w' => e = .returned (.int .i64 (if (holdsOf (putR R x)).length ≤ 256 then 0 else 2)) ∧ IsTab w' b (if (holdsOf (putR R x)).length ≤ 256 then putR R x else R) ∧ Moves (fun k => k = b) w w' := by
  have hcl := fun W => sclient_yes (w := W) x.c hc
  have hag' := fun (W : World) (hT : IsTab W b R) => against_any hT hR x
  rw [hag] at hag'
  have e3 : decide ((x.a : Int) < 0) = false := by simp
  have e4 : decide ((x.b : Int) ≤ (x.a : Int)) = false := by simp; omega
  have e5 : decide ((256 : Int) < (x.b : Int)) = false := by simp; omega
  have hbl := h.lt
  have HI := Lib.hid h
  have HW := Lib.hid hW
  clear h hW
  unfold Hd.val at hag' ⊢
  go_enter Tryd.func142, Tryd.ntmps142
  go_wp2_with (first
    | (go_at_call 150; refine (hcl _).mono ?_; clear hcl; rintro e w1 ⟨rfl, rfl⟩)
    | (go_at_call 124; refine (hag' _ (HI.out.keep (Below.heap_alloc _ _ _ HI.out.lt))).mono ?_; clear hag'; rintro e w1 ⟨v, rfl, ho, hB⟩
       have x0 : w1.cell? ⟨w.heap.size, 0, none⟩ = some (.int .i64 (x.a : Int)) := (made_cell hB 0).trans rfl
       have x1 : w1.cell? ⟨w.heap.size, 1, none⟩ = some (.int .i64 (x.b : Int)) := (made_cell hB 1).trans rfl
       have x2 : w1.cell? ⟨w.heap.size, 2, none⟩ = some (.int .i64 (x.c : Int)) := (made_cell hB 2).trans rfl
       have x3 : w1.cell? ⟨w.heap.size, 3, none⟩ = some (.int .i64 (x.m : Int)) := (made_cell hB 3).trans rfl
       have y0 := made_fro hB 0
       obtain ⟨av, cv, rfl⟩ := row_lens ho
       have HB := Lib.hid hB
       clear hB ho))
  -- the row as it was
  have hT1 : IsTab w1 b R := HI.out.keep ((HB.out.block b (by simp; omega)).trans (Below.heap_alloc _ _ _ hbl))
  have hM1 : Moves (fun k => k = b) w w1 := ((Moves.refl _ w).alloc _).trans (Moves.of_below (F := fun _ => False) HB.out) fun i h => h.elim
  have hszw : w.heap.size + 1 ≤ w1.heap.size := by have := HB.out.size; simpa using this
  obtain ⟨CL, hCL⟩ : ∃ CL : List Value, CL = (List.range 256).map fun k => .int .u8 (R x.c k : Int) := ⟨_, rfl⟩
  have hCn : CL.length = 256 := by rw [hCL]; simp
  have hC1 : ∀ v ∈ CL, v.oneCell' = true := by
    rw [hCL]; intro v hv; obtain ⟨k, _, rfl⟩ := List.mem_map.1 hv; rfl
  have hrng : w1.rangeAt b (x.c * 256) CL := fun j u hj => by
    have hjl := (List.getElem?_eq_some_iff.1 hj).1
    rw [hCn] at hjl
    rw [hT1.c x.c j hc hjl]
    rw [hCL] at hj
    simpa [hjl] using hj
  have hsz256 : (Tryd.prog.info? 123).map (·.size) = some CL.length := by rw [hCn]; exact Tryd.infoSRow
  have HCL := Lib.hid hCL
  have HT1 := Lib.hid hT1
  have HM1 := Lib.hid hM1
  clear hCL hT1 hM1
  have hc8 : (x.c : Int) < 8 := by omega
  have hzr := (zero_of_info Tryd.infoSRowZ).1
  have hS0 : w1.drew.rangeAt b (x.c * 256) CL ∧ w1.drew.cell? ⟨w.heap.size, 2, none⟩ = some (.int .i64 (x.c : Int)) := ⟨hrng, x2⟩
  refine wp_region_held_drew (S := fun w' => w'.rangeAt b (x.c * 256) CL ∧ w'.cell? ⟨w.heap.size, 2, none⟩ = some (.int .i64 (x.c : Int))) (by kernel_rfl) hS0 (fun hHeld => ?_)
  refine wpAnyH_take (i := 0) (oi := ⟨_, _, _, _, _, _⟩) (v := _) rfl (by kernel_rfl) (by kernel_rfl) (by kernel_rfl) (fun _ _ _ h => h) (Or.inl ⟨by rfl, fun _ _ => rfl⟩) hHeld ?_
  try simp only [Act.put, List.setIfInBounds_toArray, List.set_cons_zero, List.set_cons_succ]
  refine wpAnyH_take (i := 1) (oi := ⟨_, _, _, _, _, _⟩) (v := .pointer (some ⟨w.heap.size, 2, none⟩)) rfl (by kernel_rfl) (by kernel_rfl) (by kernel_rfl) (fun _ _ _ h => h) (Or.inl ⟨by rfl, fun _ _ => by go_simp⟩) hHeld ?_
  try simp only [Act.put, List.setIfInBounds_toArray, List.set_cons_zero, List.set_cons_succ]
  refine wpAnyH_take (i := 2) (oi := ⟨_, _, _, _, _, _⟩) (v := .int .i64 (x.c : Int)) rfl (by kernel_rfl) (by kernel_rfl) (by kernel_rfl) (fun _ _ _ h => h) (Or.inl ⟨by rfl, fun W hW => by have h2 := hW.2; go_simp⟩) hHeld ?_
  try simp only [Act.put, List.setIfInBounds_toArray, List.set_cons_zero, List.set_cons_succ]
  refine wpAnyH_take (i := 3) (oi := ⟨_, _, _, _, _, _⟩) (v := .pointer (some ⟨b, 0, none⟩)) rfl (by kernel_rfl) (by kernel_rfl) (by kernel_rfl) (fun _ _ _ h => h) (Or.inl ⟨by rfl, fun _ _ => by go_simp⟩) hHeld ?_
  try simp only [Act.put, List.setIfInBounds_toArray, List.set_cons_zero, List.set_cons_succ]
  refine wpAnyH_take (i := 4) (oi := ⟨_, _, _, _, _, _⟩) (v := .pointer (some ⟨b, 0, none⟩)) rfl (by kernel_rfl) (by kernel_rfl) (by kernel_rfl) (fun _ _ _ h => h) (Or.inl ⟨by rfl, fun _ _ => by go_simp⟩) hHeld ?_
  try simp only [Act.put, List.setIfInBounds_toArray, List.set_cons_zero, List.set_cons_succ]
  refine wpAnyH_take (i := 5) (oi := ⟨_, _, _, _, _, _⟩) (v := .pointer (some ⟨b, x.c * 256, none⟩)) rfl (by kernel_rfl) (by kernel_rfl) (by kernel_rfl) (fun _ _ _ h => h) (Or.inl ⟨by rfl, fun _ _ => by go_simp⟩) hHeld ?_
  try simp only [Act.put, List.setIfInBounds_toArray, List.set_cons_zero, List.set_cons_succ]
  refine wpAnyH_take (i := 6) (oi := ⟨_, _, _, _, _, _⟩) (v := .agg CL.toArray) rfl (by kernel_rfl) (by kernel_rfl) (by kernel_rfl) (fun _ _ _ h => h) (yieldsIf_load_mid (by rfl) 123 (.tmp 52) rfl b (x.c * 256) rfl CL _ (fun w' hS => hS.1) Tryd.underlying123 rfl hsz256) hHeld ?_
  try simp only [Act.put, List.setIfInBounds_toArray, List.set_cons_zero, List.set_cons_succ]
  refine wpAnyH_ready (rs := [7]) (by kernel_rfl) (by simp) (AllReadyH.cons (o := ⟨_, _, _, _, _, _⟩) rfl (fun K hK => ?_) AllReadyH.nil)
  go_simp
  refine hK.out _ _ ⟨World.rangeAt_alloc hHeld.1 _, (World.cell?_alloc_lt _ _ _ (by show w.heap.size < w1.heap.size; omega)).trans hHeld.2⟩ (fun hHeld => ?_)
  clear hK K
  try simp only [Act.put, List.setIfInBounds_toArray, List.set_cons_zero, List.set_cons_succ]
  refine wpAnyH_ready (rs := [8]) (by kernel_rfl) (by simp) (AllReadyH.cons (o := ⟨_, _, _, _, _, _⟩) rfl (fun K hK => ?_) AllReadyH.nil)
  rw [if_pos (by rfl)]
  have hthere : (w1.drew.alloc (.cells zSRow.toArray 123)).there w1.heap.size 0 CL.toArray.size := fun j hj => by
    rw [List.size_toArray, hCn] at hj
    have h1 := World.cell?_alloc_new w1.drew zSRow.toArray 123 (0 + j)
    have h2 := World.frozen?_alloc_new w1.drew zSRow.toArray 123 (0 + j)
    refine ⟨?_, h2⟩
    rw [show w1.heap.size = w1.drew.heap.size from rfl, h1, List.getElem?_toArray]
    unfold zSRow
    rw [List.getElem?_replicate, if_pos (by omega)]
    rfl
  refine wp_store_mid 123 (.tmp 5) (.tmp 53) rfl w1.heap.size 0 CL.toArray rfl rfl hthere hsz256 (all_oneCell_toArray hC1) ?_
  have hkV : ∀ k, k < w1.heap.size → ((w1.alloc (.cells zSRow.toArray 123)).drew.setCells w1.heap.size 0 CL).heap[k]? = w1.heap[k]? := fun k hk =>
    (heap_setCells _ _ (by omega) _ _ _).trans (Below.heap_alloc _ _ _ hk)
  have hwas : ((w1.alloc (.cells zSRow.toArray 123)).drew.setCells w1.heap.size 0 CL).rangeAt w1.heap.size 0 CL := World.rangeAt_setCells_same _ _ _ _ (by rw [List.size_toArray] at hthere; exact hthere)
  have hMV : Moves (fun k => k = b) w1 ((w1.alloc (.cells zSRow.toArray 123)).drew.setCells w1.heap.size 0 CL) := ((Moves.refl _ w1).alloc _).drew.setCells _ _ _ (.inr (Nat.le_refl _))
  refine hK.out _ _ ⟨rangeAt_congr hrng (hkV b (by omega)), (World.cell?_of_block (a := ⟨w.heap.size, 2, none⟩) (hkV w.heap.size (by omega))).trans x2⟩ (fun _ => ?_)
  clear hK K hHeld hS0
  try simp only [Act.put]
  refine wpAnyH_done (by kernel_rfl) ?_ _
  have hVsz : w1.heap.size < ((w1.alloc (.cells zSRow.toArray 123)).drew.setCells w1.heap.size 0 CL).heap.size := by rw [size_setCells]; show w1.heap.size < (w1.alloc (.cells zSRow.toArray 123)).heap.size; rw [World.size_alloc]; omega
  generalize hV : (w1.alloc (.cells zSRow.toArray 123)).drew.setCells w1.heap.size 0 CL = V at hkV hwas hMV hVsz ⊢
  have z0 := (World.cell?_of_block (a := ⟨w.heap.size, 0, none⟩) (hkV w.heap.size (by omega))).trans x0
  have z1 := (World.cell?_of_block (a := ⟨w.heap.size, 1, none⟩) (hkV w.heap.size (by omega))).trans x1
  have z2 : V.cell? ⟨w.heap.size, 2, none⟩ = some (.int .i64 (x.c : Int)) := (World.cell?_of_block (a := ⟨w.heap.size, 2, none⟩) (hkV w.heap.size (by omega))).trans x2
  have z3 := (World.cell?_of_block (a := ⟨w.heap.size, 3, none⟩) (hkV w.heap.size (by omega))).trans x3
  have HTV := Lib.hid (HT1.out.keep (hkV b (by omega)))
  have HMV := Lib.hid (HM1.out.trans hMV fun i hi => .inl hi)
  have HWas := Lib.hid hwas
  have Z2 := Lib.hid z2
  have Z3 := Lib.hid z3
  clear hkV hwas hMV hV x0 x1 x2 x3 y0 hthere hzr hrng
  have hset := set_any HTV.out hR.lt x.c x.a x.b hc 151 #[.pointer (some ⟨w.heap.size, 0, none⟩)] (fun m => max m x.m) (enters_of Tryd.func151 (by kernel_rfl) rfl)
    (fun m W hm2 hM => put1_any w.heap.size x hm ((hM.cell (p := ⟨w.heap.size, 3, none⟩) (by show w.heap.size < _; omega) (by show ¬ w.heap.size = b; omega)).trans Z3.out) m hm2)
  have hR2 : Small (putR R x) := fun c k h1 h2 => by
    unfold putR setR
    have := hR c k h1 h2
    split
    · show max (R c k) x.m ≤ 2; omega
    · exact this
  have hlist := fun (W : World) (hT : IsTab W b (putR R x)) (hW : Whole W) => slist_any hT hR2 hW
  have hbne := HI.out.ne HW.out
  unfold rng at hset
  go_wp2_with (first
    | (go_at_call 145; refine hset.mono ?_; clear hset; rintro e w2 ⟨⟨v2, rfl⟩, hT2, hM2⟩
       have HT2 := Lib.hid hT2
       have HM2 := Lib.hid hM2
       clear hT2 hM2 z0 z1 z2 z3)
    | (go_at_call 41; refine (hlist _ HT2.out (HW.out.moves (HMV.out.trans HM2.out fun i hi => .inl hi) (fun e => hbne e.symm))).mono ?_; clear hlist; rintro e w3 ⟨v3, rfl, ho3, hB3⟩
       obtain ⟨av3, cv3, rfl⟩ := row_lens ho3
       have HB3 := Lib.hid hB3
       clear hB3 ho3))
  · have hb3 : w3.heap[b]? = w2.heap[b]? := HB3.out.block b HT2.out.lt
    have hT3 : IsTab w3 b (putR R x) := HT2.out.keep hb3
    have hM3 : Moves (fun k => k = b) V w3 := HM2.out.trans (Moves.of_below (F := fun _ => False) HB3.out) fun i h => h.elim
    have hz2 : w3.cell? ⟨w.heap.size, 2, none⟩ = some (.int .i64 (x.c : Int)) := (hM3.cell (p := ⟨w.heap.size, 2, none⟩) (by show w.heap.size < _; omega) (by show ¬ w.heap.size = b; omega)).trans Z2.out
    have hwas3 : w3.rangeAt w1.heap.size 0 CL := rangeAt_congr HWas.out (hM3.block _ hVsz (by omega))
    have HT3 := Lib.hid hT3
    have HM3 := Lib.hid (HMV.out.trans hM3 fun i hi => .inl hi)
    clear hT3 hM3
    have hS3 : w3.drew.rangeAt w1.heap.size 0 CL ∧ w3.drew.cell? ⟨w.heap.size, 2, none⟩ = some (.int .i64 (x.c : Int)) := ⟨hwas3, hz2⟩
    clear hz2 hwas3
    refine wp_region_held_drew (S := fun w' => w'.rangeAt w1.heap.size 0 CL ∧ w'.cell? ⟨w.heap.size, 2, none⟩ = some (.int .i64 (x.c : Int))) (by kernel_rfl) hS3 (fun hHeld => ?_)
    refine wpAnyH_take (i := 0) (oi := ⟨_, _, _, _, _, _⟩) (v := _) rfl (by kernel_rfl) (by kernel_rfl) (by kernel_rfl) (fun _ _ _ h => h) (Or.inl ⟨by rfl, fun _ _ => rfl⟩) hHeld ?_
    try simp only [Act.put, List.setIfInBounds_toArray, List.set_cons_zero, List.set_cons_succ]
    refine wpAnyH_take (i := 1) (oi := ⟨_, _, _, _, _, _⟩) (v := .pointer (some ⟨w.heap.size, 2, none⟩)) rfl (by kernel_rfl) (by kernel_rfl) (by kernel_rfl) (fun _ _ _ h => h) (Or.inl ⟨by rfl, fun _ _ => by go_simp⟩) hHeld ?_
    try simp only [Act.put, List.setIfInBounds_toArray, List.set_cons_zero, List.set_cons_succ]
    refine wpAnyH_take (i := 2) (oi := ⟨_, _, _, _, _, _⟩) (v := .int .i64 (x.c : Int)) rfl (by kernel_rfl) (by kernel_rfl) (by kernel_rfl) (fun _ _ _ h => h) (Or.inl ⟨by rfl, fun W hW => by have h2 := hW.2; go_simp⟩) hHeld ?_
    try simp only [Act.put, List.setIfInBounds_toArray, List.set_cons_zero, List.set_cons_succ]
    refine wpAnyH_take (i := 3) (oi := ⟨_, _, _, _, _, _⟩) (v := .agg CL.toArray) rfl (by kernel_rfl) (by kernel_rfl) (by kernel_rfl) (fun _ _ _ h => h) (yieldsIf_load_mid (by rfl) 123 (.tmp 5) rfl w1.heap.size 0 rfl CL _ (fun w' hS => hS.1) Tryd.underlying123 rfl hsz256) hHeld ?_
    try simp only [Act.put, List.setIfInBounds_toArray, List.set_cons_zero, List.set_cons_succ]
    refine wpAnyH_take (i := 4) (oi := ⟨_, _, _, _, _, _⟩) (v := .pointer (some ⟨b, 0, none⟩)) rfl (by kernel_rfl) (by kernel_rfl) (by kernel_rfl) (fun _ _ _ h => h) (Or.inl ⟨by rfl, fun _ _ => by go_simp⟩) hHeld ?_
    try simp only [Act.put, List.setIfInBounds_toArray, List.set_cons_zero, List.set_cons_succ]
    refine wpAnyH_take (i := 5) (oi := ⟨_, _, _, _, _, _⟩) (v := .pointer (some ⟨b, 0, none⟩)) rfl (by kernel_rfl) (by kernel_rfl) (by kernel_rfl) (fun _ _ _ h => h) (Or.inl ⟨by rfl, fun _ _ => by go_simp⟩) hHeld ?_
    try simp only [Act.put, List.setIfInBounds_toArray, List.set_cons_zero, List.set_cons_succ]
    refine wpAnyH_take (i := 6) (oi := ⟨_, _, _, _, _, _⟩) (v := .pointer (some ⟨b, x.c * 256, none⟩)) rfl (by kernel_rfl) (by kernel_rfl) (by kernel_rfl) (fun _ _ _ h => h) (Or.inl ⟨by rfl, fun _ _ => by go_simp⟩) hHeld ?_
    try simp only [Act.put, List.setIfInBounds_toArray, List.set_cons_zero, List.set_cons_succ]
    refine wpAnyH_ready (rs := [7]) (by kernel_rfl) (by simp) (AllReadyH.cons (o := ⟨_, _, _, _, _, _⟩) rfl (fun K hK => ?_) AllReadyH.nil)
    rw [if_pos (by rfl)]
    have hth : w3.drew.there b (x.c * 256) CL.toArray.size := fun j hj => by
      rw [List.size_toArray, hCn] at hj
      exact ⟨by rw [show w3.drew.cell? ⟨b, x.c * 256 + j, none⟩ = w3.cell? ⟨b, x.c * 256 + j, none⟩ from rfl, HT3.out.c x.c j hc hj]; rfl, HT3.out.fro _⟩
    refine wp_store_mid 123 (.tmp 71) (.tmp 68) rfl b (x.c * 256) CL.toArray rfl rfl hth hsz256 (all_oneCell_toArray hC1) ?_
    have hback : IsTab (w3.drew.setCells b (x.c * 256) CL) b R := by
      have hTd : IsTab w3.drew b (putR R x) := HT3.out.keep rfl
      refine ⟨fun c k hc' hk => ?_, fun o => by rw [World.frozen?_setCells]; exact hTd.fro o⟩
      by_cases e : c = x.c
      · subst e
        have := World.cell?_setCells_in b CL (x.c * 256) w3.drew (fun j hj => (hth j (by simpa using hj)).1) k (by omega)
        rw [this]
        have hx := HCL.out
        subst hx
        simp
      · rw [World.cell?_setCells_out b CL (x.c * 256) w3.drew ⟨b, c * 256 + k, none⟩ (fun _ _ => by show c * 256 + k < x.c * 256 ∨ x.c * 256 + CL.length ≤ c * 256 + k; omega), hTd.c c k hc' hk]
        unfold putR setR
        rw [if_neg (by omega)]
    have hMb : Moves (fun k => k = b) w (w3.drew.setCells b (x.c * 256) CL) := Moves.setCells (F := fun k => k = b) HM3.out.drew b _ _ (.inl rfl)
    have HBk := Lib.hid hback
    have HMb := Lib.hid hMb
    refine hK.out _ _ ⟨World.rangeAt_setCells_apart hHeld.1 _ _ _ (.inl (by omega)), by rw [World.cell?_setCells_out b CL (x.c * 256) w3.drew ⟨w.heap.size, 2, none⟩ (fun e _ => by have e2 : w.heap.size = b := e; omega)]; exact hHeld.2⟩ (fun _ => ?_)
    clear hK K hHeld hback hMb hth
    try simp only [Act.put]
    refine wpAnyH_done (by kernel_rfl) ?_ _
    go_wp2_with fail
    go_ret
    exact ⟨rfl, HBk.out, HMb.out⟩
  · go_ret
    exact ⟨rfl, HT2.out.keep (HB3.out.block b HT2.out.lt), (HMV.out.trans HM2.out fun i hi => .inl hi).trans (Moves.of_below (F := fun _ => False) HB3.out) fun i h => h.elim⟩
theorem put_any (h : IsTab w b R) (hR : Small R) (hW : Whole w) (x : Hd) (hc : x.c < 8) (hm : x.m = 1 ∨ x.m = 2) (hab : x.a < x.b) (hb : x.b ≤ 256) (hag : someOf R x.a x.b (agP x) 8 = []) :
    Calls Tryd.prog 142 #[.pointer (some ⟨b, 0, none⟩), x.val] w fun e w' => e = .returned (.int .i64 (if (holdsOf (putR R x)).length ≤ 256 then 0 else 2)) ∧ IsTab w' b (if (holdsOf (putR R x)).length ≤ 256 then putR R x else R) ∧ Moves (fun k => k = b) w w' := by
  rcases hm with hm | hm
  · exact put_one h hR hW x hc (by rw [hm]; rfl) (by omega) hab hb hag
  · exact put_two h hR hW x hc (by rw [hm]; rfl) (by rw [hm]; rfl) (by omega) hab hb hag
end
end Go.Proofs.YtfjfkmoofmncnaaDoor
