/- store.New, Power, Get. -/
import Derived.Test.YtkbncbkmaakpkaaDoorSrv
namespace Go.Proofs.YtkbncbkmaakpkaaDoor
open Go.RowKit
section
variable {F : Nat → Prop} {w w' : World} {sb pb b am um tm km n nt : Nat} {A : Int → Option Pl} {U : Int → Bool} {err : Value} {st : PS} {T : Int → Option Int} {Kn : Int → Option (Int × Int)}
theorem recs_new : Recs (PS.new 9) (fun _ => none) := by
  refine ⟨fun i s _ hs _ h => ?_, fun i s x _ _ h => by simp at h, fun i x p h => by simp at h⟩
  have e : s = Zn 32 := List.eq_of_mem_replicate (n := 9) (List.mem_of_getElem? hs)
  rw [e] at h
  simp [Zn] at h
set_option maxRecDepth 100000 in
set_option maxHeartbeats 2000000 in
theorem snew_any (hT : Tabs w) (hF : ∀ k, F k → k < w.heap.size) : Calls Tryd.prog 33 #[.int .i64 3, .int .i64 9] w fun e w' => (∃ sb pb b am um tm km n, e = .returned (.pointer (some ⟨sb, 0, none⟩)) ∧ n ≤ 128 ∧ Srv F w' sb pb b am um tm km n 0 (fun _ => none) (fun _ => false) .nilIface (PS.new 9) (fun _ => none) (fun _ => none)) ∧ Moves (NotF F) w w' := by
  have hpn := new_any (w := w) 9
  rw [show sizeOfN 9 = 9 by decide] at hpn
  have HT := Lib.hid hT
  have HF := Lib.hid hF
  clear hT hF
  go_enter Tryd.func33, Tryd.ntmps33
  go_wp2_with fail
  refine hpn.mono ?_
  rintro e w1 ⟨rfl, hp1, hb1⟩
  have HP1 := Lib.hid hp1
  have HB1 := Lib.hid hb1
  clear hpn hp1 hb1
  go_wp2_with fail
  generalize hW : w1.alloc (.cells #[.pointer (some ⟨w.heap.size, 0, none⟩), .int .i64 3, .pointer none, .int .i64 0, .map none, .map none] 104) = W
  have hbW : Below w1.heap.size w1 W := by rw [← hW]; exact (Below.refl _ _).alloc (Nat.le_refl _) _
  have hp2 : IsPlate W w.heap.size (.slice none 0 0) (PS.new 9) := HP1.out.keeps fun k hk => hbW.block k (HP1.out.lt k hk)
  have hT2 : Tabs W := (HT.out.below HB1.out HT.out.lt).below hbW (HT.out.below HB1.out HT.out.lt).lt
  have hc : ∀ o, W.cell? ⟨w1.heap.size, o, none⟩ = (#[.pointer (some ⟨w.heap.size, 0, none⟩), .int .i64 3, .pointer none, .int .i64 0, .map none, .map none] : Array Value)[o]? := fun o => by rw [← hW, World.cell?_alloc_at _ _ _ _ (by simp)]
  have hfr : ∀ o, W.frozen? ⟨w1.heap.size, o, none⟩ = false := fun o => by rw [← hW]; exact World.frozen?_alloc_new _ _ _ _
  have hpf : ∀ k, pfp w.heap.size (.slice none 0 0) k → k = w.heap.size := fun k hk => by
    rcases hk with hk | hk
    · exact hk
    · simp [Value.ownBlock] at hk
  have hpl := HP1.out.lt w.heap.size (.inl rfl)
  have hbg := begin_any (F := F) (sb := w1.heap.size) hp2 hT2 rfl rfl recs_new (hc 0) (hc 1) (hc 2) (hc 3) (hc 4) (hc 5) hfr (fun h => by have := hpf _ h; omega) (fun k hk => ⟨by have := HF.out k hk; have := HB1.out.size; have := hbW.size; omega, fun h => by have := hpf _ h; have := HF.out k hk; omega, by have := HF.out k hk; have := HB1.out.size; omega⟩)
  have HMW := Lib.hid (show Moves (NotF F) w W from Moves.of_below (HB1.out.trans (hbW.mono HB1.out.size)))
  clear hW hbW hp2 hT2 hc hfr hpf
  refine hbg.mono ?_
  rintro e w3 ⟨rfl, ⟨b, am, um, tm, km, n, hn, hs⟩, hm⟩
  have HS := Lib.hid hs
  have HM := Lib.hid (HMW.out.trans hm fun i hi => .inl hi)
  clear hbg hs hm
  go_wp2_with fail
  go_ret
  exact ⟨⟨_, _, b, am, um, tm, km, n, rfl, hn, HS.out⟩, HM.out⟩
set_option maxRecDepth 100000 in
set_option maxHeartbeats 2000000 in
/-- The power comes back. -/
theorem spower_any {K : Nat → Option Pl} (h : Srv F w sb pb b am um tm km n nt A U err st T Kn) (hT : Tabs w) (hF3 : F 3) (hw : st.wait = []) (hoff : st.off = true) (hR : Recs st.power K) :
    Calls Tryd.prog 38 #[.pointer (some ⟨sb, 0, none⟩)] w fun e w' => e = .returned (.tuple #[]) ∧ (∃ b am um tm km n, n ≤ 128 ∧ Srv F w' sb pb b am um tm km n 0 (openA K st.size) (openU K st.size) .nilIface st.power (fun _ => none) (fun _ => none)) ∧ Moves (NotF F) w w' := by
  have c0 := h.c0
  obtain ⟨pv, h1, h2, h3, h4⟩ := h.sh
  have hd := dead_any h2
  rw [hoff] at hd
  have hpw := power_any h2
  have H := Lib.hid h
  have HT := Lib.hid hT
  have HR := Lib.hid hR
  have H1 := Lib.hid h1
  have H2 := Lib.hid h2
  have H4 := Lib.hid h4
  clear h hT hR hoff h1 h2 h3 h4
  go_enter Tryd.func38, Tryd.ntmps38
  go_wp2_with fail
  refine hd.mono ?_
  rintro e w ⟨rfl, rfl⟩
  clear hd
  go_wp2_with fail
  refine hpw.mono ?_
  rintro e w1 ⟨rfl, hp1, hm1⟩
  have hsb := H4.out sb (.inr (.inl rfl))
  have hblk := hm1.block sb hsb.1 hsb.2.1
  have hc : ∀ o, w1.cell? ⟨sb, o, none⟩ = w.cell? ⟨sb, o, none⟩ := fun o => World.cell?_of_block (a := ⟨sb, o, none⟩) hblk
  have hT1 : Tabs w1 := HT.out.keep (hm1.block 3 HT.out.lt (H4.out 3 (.inl hF3)).2.1)
  have hbg := begin_any (F := F) (sb := sb) hp1 hT1 hw rfl HR.out ((hc _).trans H.out.c0) ((hc _).trans H.out.c1) ((hc _).trans H.out.c2) ((hc _).trans H.out.c3) ((hc _).trans H.out.c4) ((hc _).trans H.out.c5) (fun o => (World.frozen?_of_block (a := ⟨sb, o, none⟩) hblk).trans (H.out.fro o)) hsb.2.1 (fun k hk => ⟨Nat.lt_of_lt_of_le (H4.out k (.inl hk)).1 hm1.size, (H4.out k (.inl hk)).2.1, (H.out.fF k hk).1⟩)
  have HM1 := Lib.hid (show Moves (NotF F) w w1 from hm1.mono fun k _ hk hF => (H4.out k (.inl hF)).2.1 hk)
  clear hpw hp1 hm1 hc hT1 hblk
  go_wp2_with fail
  refine hbg.mono ?_
  rintro e w3 ⟨rfl, hs, hm⟩
  have HS := Lib.hid hs
  have HM := Lib.hid (HM1.out.trans hm fun i hi => .inl hi)
  clear hbg hs hm
  go_wp2_with fail
  go_end0
  exact ⟨rfl, HS.out, HM.out⟩
set_option maxRecDepth 100000 in
set_option maxHeartbeats 2000000 in
theorem get1_any {bad : Value} (h : IsSh w b pb am um n A U bad err) (x : Pl) (i ib rb : Nat) (hi : i < 1000000) (hA : A i = some x) (hib : w.cell? ⟨ib, 0, none⟩ = some (.int .i64 (i : Int))) {v0 v1 v2 : Value} (r0 : w.cell? ⟨rb, 0, none⟩ = some v0) (r1 : w.cell? ⟨rb, 1, none⟩ = some v1) (r2 : w.cell? ⟨rb, 2, none⟩ = some v2) (hfr : ∀ o, w.frozen? ⟨rb, o, none⟩ = false) :
    Calls Tryd.prog 91 #[.pointer (some ⟨b, 0, none⟩), .pointer (some ⟨ib, 0, none⟩), .pointer (some ⟨rb, 0, none⟩)] w fun e w' => e = .returned (.int .i64 0) ∧ Moves (fun k => k = rb) w w' ∧ w'.cell? ⟨rb, 0, none⟩ = some (.int .i64 (x.id : Int)) ∧ w'.cell? ⟨rb, 1, none⟩ = some (.int .i64 (x.ver : Int)) ∧ w'.cell? ⟨rb, 2, none⟩ = some (.string x.d) ∧ ∀ o, w'.frozen? ⟨rb, o, none⟩ = false := by
  have hg := shget_some h (i : Int) (WalkArith.wf_i64 (by omega)) x hA
  have hrl := World.block_lt_of_cell? w _ r0
  dsimp only at hrl
  have R0 := Lib.hid r0
  have R1 := Lib.hid r1
  have R2 := Lib.hid r2
  have HFR := Lib.hid hfr
  clear r0 r1 r2 hfr h
  unfold blkV at hg
  go_enter Tryd.func91, Tryd.ntmps91
  go_wp2_with fail
  refine hg.mono ?_
  rintro e w1 ⟨rfl, hb⟩
  have hblk := hb.block rb hrl
  have q0 := (World.cell?_of_block (a := ⟨rb, 0, none⟩) hblk).trans R0.out
  have q1 := (World.cell?_of_block (a := ⟨rb, 1, none⟩) hblk).trans R1.out
  have q2 := (World.cell?_of_block (a := ⟨rb, 2, none⟩) hblk).trans R2.out
  have f0 := (World.frozen?_of_block (a := ⟨rb, 0, none⟩) hblk).trans (HFR.out 0)
  have f1 := (World.frozen?_of_block (a := ⟨rb, 1, none⟩) hblk).trans (HFR.out 1)
  have f2 := (World.frozen?_of_block (a := ⟨rb, 2, none⟩) hblk).trans (HFR.out 2)
  have HB := Lib.hid hb
  clear hg hb hblk
  go_wp2_with fail
  go_ret
  have oth : ∀ (W : World) (o q : Nat) (v : Value), o ≠ q → (W.setCell ⟨rb, q, none⟩ v).cell? ⟨rb, o, none⟩ = W.cell? ⟨rb, o, none⟩ := fun W o q v h => World.cell?_setCell_other _ _ _ _ (by intro e; injection e with _ e2; exact h e2.symm)
  refine ⟨rfl, ?_, ?_, ?_, ?_, fun o => ?_⟩
  · refine Moves.setCell (F := fun k => k = rb) ?_ _ _ (.inl rfl)
    refine Moves.setCell (F := fun k => k = rb) ?_ _ _ (.inl rfl)
    exact Moves.setCell (F := fun k => k = rb) (Moves.of_below HB.out) _ _ (.inl rfl)
  · rw [oth _ _ _ _ (by decide), oth _ _ _ _ (by decide)]; exact World.cell?_setCell_same _ _ _ q0
  · rw [oth _ _ _ _ (by decide)]; exact World.cell?_setCell_same _ _ _ (by rw [oth _ _ _ _ (by decide)]; exact q1)
  · exact World.cell?_setCell_same _ _ _ (by rw [oth _ _ _ _ (by decide), oth _ _ _ _ (by decide)]; exact q2)
  · simp only [World.frozen?_setCell]
    exact (World.frozen?_of_block (a := ⟨rb, o, none⟩) (HB.out.block rb hrl)).trans (HFR.out o)
set_option maxRecDepth 100000 in
set_option maxHeartbeats 2000000 in
theorem sget_any (h : Srv F w sb pb b am um tm km n nt A U err st T Kn) (hoff : st.off = false) (i : Nat) (hi : i < 1000000) (x : Pl) (hA : A i = some x) :
    Calls Tryd.prog 39 #[.pointer (some ⟨sb, 0, none⟩), .int .i64 (i : Int)] w fun e w' => e = .returned (.tuple #[blkV x.id x.ver x.d, .int .i64 0]) ∧ Below w.heap.size w w' := by
  generalize hW : (w.alloc (.cells #[.int .i64 (i : Int)] 3)).alloc (.cells #[.int .i64 0, .int .i64 0, .string ⟨#[]⟩] 107) = W
  have hb : Below w.heap.size w W := by rw [← hW]; exact ((Below.refl _ _).alloc (Nat.le_refl _) _).alloc (by simp) _
  have h2 := h.below hb
  obtain ⟨pv, g1, g2, g3, g4⟩ := h2.sh
  have hx0 : W.cell? ⟨w.heap.size, 0, none⟩ = some (.int .i64 (i : Int)) := by rw [← hW]; simp
  have hr : ∀ o, W.cell? ⟨w.heap.size + 1, o, none⟩ = (#[.int .i64 0, .int .i64 0, .string ⟨#[]⟩] : Array Value)[o]? := fun o => by rw [← hW, World.cell?_alloc_at _ _ _ _ (by simp)]
  have hfr : ∀ o, W.frozen? ⟨w.heap.size + 1, o, none⟩ = false := fun o => by
    have e : (w.alloc (.cells #[.int .i64 (i : Int)] 3)).heap.size = w.heap.size + 1 := by simp
    rw [← hW, ← e]; exact World.frozen?_alloc_new _ _ _ _
  have hd := dead_any g2
  rw [hoff] at hd
  have hgt := get1_any g1 x i w.heap.size (w.heap.size + 1) hi hA hx0 (hr 0) (hr 1) (hr 2) hfr
  have c0 := h2.c0
  have c2 := h2.c2
  have hon : Calls Tryd.prog 90 #[.pointer (some ⟨sb, 0, none⟩), .func (.func 91) #[] #[.pointer (some ⟨w.heap.size, 0, none⟩), .pointer (some ⟨w.heap.size + 1, 0, none⟩)]] W fun e w' => e = .returned (.int .i64 0) ∧ Moves (fun k => k = w.heap.size + 1) W w' ∧ w'.cell? ⟨w.heap.size + 1, 0, none⟩ = some (.int .i64 (x.id : Int)) ∧ w'.cell? ⟨w.heap.size + 1, 1, none⟩ = some (.int .i64 (x.ver : Int)) ∧ w'.cell? ⟨w.heap.size + 1, 2, none⟩ = some (.string x.d) ∧ ∀ o, w'.frozen? ⟨w.heap.size + 1, o, none⟩ = false := by
    clear hx0 hr hfr h2 g1 g2 g3 g4 hW hb h
    go_enter Tryd.func90, Tryd.ntmps90
    go_wp2_with fail
    refine hd.mono ?_
    rintro e W1 ⟨rfl, rfl⟩
    clear hd
    go_wp2_with fail
    refine hgt.mono ?_
    rintro e w2 ⟨rfl, HH0⟩
    have HH := Lib.hid HH0
    clear hgt HH0
    go_wp2_with fail
    go_ret
    exact ⟨rfl, HH.out⟩
  have HON := Lib.hid hon
  have HBW := Lib.hid hb
  clear hx0 hr h2 g1 g2 g3 g4 hb h hon hd hgt c0 c2
  go_enter Tryd.func39, Tryd.ntmps39
  go_wp2_with fail
  refine HON.out.mono ?_
  rintro e w2 ⟨rfl, hm, q0, q1, q2, hf⟩
  have f0 := hf 0
  have f1 := hf 1
  have f2 := hf 2
  have HM := Lib.hid (show Below w.heap.size w w2 from HBW.out.trans (hm.below HBW.out.size fun k hk => by subst hk; omega))
  clear hm hf HON
  go_wp2_with fail
  refine bodyPost_ret (v := .tuple #[blkV x.id x.ver x.d, .int .i64 0]) (by simp [results, Tryd.results39, go_sem, blkV, q0, q1, q2]) rfl ?_
  refine ⟨rfl, ?_⟩
  repeat' (first | exact HM.out | refine Below.setCell ?_ (by simp; done) _)
end
end Go.Proofs.YtkbncbkmaakpkaaDoor
