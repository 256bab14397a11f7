/- The acceptor's Votes, Prepare, Accept; Number. -/
import Derived.Test.YtkbncbkmaakpkaaDoorAcc
import Derived.StillTailTactics
namespace Go.Proofs.YtkbncbkmaakpkaaDoor
open Go.RowKit
section
variable {w w' : World} {X Y : Nat → Prop} {b b' : Nat} {p : Int} {V : Nat → Option Vt} {B : Nat → Nat}
set_option maxRecDepth 100000 in
theorem votes_any (h : Acc w X b p V) :
    Calls Tryd.prog 47 #[.pointer (some ⟨b, 0, none⟩)] w fun e w' => ∃ v, e = .returned v ∧ w'.ownsRow w.heap.size 33 3 v (votesTo V 0 4096).length (vrows (votesTo V 0 4096)) ∧ Below w.heap.size w w' := by
  have hs := since_any h 0
  generalize votesTo V 0 4096 = LL at hs ⊢
  clear h
  go_enter Tryd.func47, Tryd.ntmps47
  go_wp2_with fail
  refine hs.mono ?_
  rintro e w2 ⟨v, rfl, ho, hb⟩
  have HO := Lib.hid ho
  have HB := Lib.hid hb
  clear hs ho hb
  go_wp2_with fail
  go_ret
  exact ⟨_, rfl, HO.out, HB.out⟩
set_option maxRecDepth 100000 in
theorem ballot_yes (n : Int) (h1 : 1 ≤ n) (h2 : n ≤ 1099511627776) : Calls Tryd.prog 41 #[.int .i64 n] w fun e w' => e = .returned (.bool true) ∧ w = w' := by
  have e1 : decide (1 ≤ n) = true := by simpa using h1
  have e2 : decide (n ≤ 1099511627776) = true := by simpa using h2
  go_enter Tryd.func41, Tryd.ntmps41
  go_wp2_with fail
  go_ret
  exact ⟨rfl, rfl⟩
theorem IsAcc.promise (h : IsAcc w b p B V) (hB : ∀ i x, V i = some x → B i ≠ b) (n : Int) : IsAcc (w.setCell ⟨b, 0, none⟩ (.int .i64 n)) b n B V := by
  refine ⟨World.cell?_setCell_same _ _ _ h.c0, fun i hi => ?_, fun i x hx => (h.vs i x hx).keep (Below.heap_setCell _ _ _ _ (hB i x hx)), fun o => by rw [World.frozen?_setCell]; exact h.fro o⟩
  rw [World.cell?_setCell_other _ _ _ _ (by intro e; injection e with e1 e2; omega)]; exact h.cs i hi
set_option maxRecDepth 100000 in
set_option maxHeartbeats 2000000 in
theorem prep_ok (h : Acc w X b p V) (hX : X b) (n : Int) (h1 : 1 ≤ n) (h2 : n ≤ 1099511627776) (hp : p ≤ n) (lo : Int) :
    Calls Tryd.prog 9 #[.pointer (some ⟨b, 0, none⟩), .int .i64 n, .int .i64 lo] w fun e w' => ∃ v, e = .returned (.tuple #[v, .int .i64 0]) ∧ w'.ownsRow w.heap.size 33 3 v (votesTo V lo 4096).length (vrows (votesTo V lo 4096)) ∧ Acc w' X b n V ∧ Moves (fun q => q = b) w w' := by
  have hbl := ballot_yes (w := w) n h1 h2
  obtain ⟨B, ha, hv⟩ := h
  have c0 := ha.c0
  have f0 := ha.fro 0
  have e1 : decide (n < p) = false := by simpa using hp
  have hac : Acc (w.setCell ⟨b, 0, none⟩ (.int .i64 n)) X b n V := ⟨B, ha.promise (fun i x hx e => hv i x hx (e ▸ hX)) n, hv⟩
  have hs := since_any hac lo
  rw [show (w.setCell ⟨b, 0, none⟩ (.int .i64 n)).heap.size = w.heap.size by simp] at hs
  have HA := Lib.hid hac
  have HM := Lib.hid ((Moves.refl (fun q => q = b) w).setCell ⟨b, 0, none⟩ (.int .i64 n) (.inl rfl))
  generalize votesTo V lo 4096 = LL at hs ⊢
  clear ha hv hac
  go_enter Tryd.func9, Tryd.ntmps9
  go_wp2_with fail
  refine hbl.mono ?_
  rintro e w1 ⟨rfl, rfl⟩
  clear hbl
  go_wp2_with fail
  refine hs.mono ?_
  rintro e w2 ⟨v, rfl, ho, hb⟩
  have hb' : Below (w.setCell ⟨b, 0, none⟩ (.int .i64 n)).heap.size (w.setCell ⟨b, 0, none⟩ (.int .i64 n)) w2 := by simpa using hb
  have HO := Lib.hid ho
  have HA2 := Lib.hid (HA.out.below hb')
  have HM2 := Lib.hid (HM.out.trans (Moves.of_below (F := fun _ => False) hb') fun _ h => h.elim)
  clear hs ho hb hb' c0 f0
  go_wp2_with fail
  go_ret2
  exact ⟨_, rfl, HO.out, HA2.out, HM2.out⟩
set_option maxRecDepth 100000 in
set_option maxHeartbeats 2000000 in
theorem prep_old (h : Acc w X b p V) (n : Int) (h1 : 1 ≤ n) (h2 : n ≤ 1099511627776) (hp : n < p) (lo : Int) :
    Calls Tryd.prog 9 #[.pointer (some ⟨b, 0, none⟩), .int .i64 n, .int .i64 lo] w fun e w' => e = .returned (.tuple #[.slice none 0 0, .int .i64 5]) ∧ w = w' := by
  have hbl := ballot_yes (w := w) n h1 h2
  obtain ⟨B, ha, hv⟩ := h
  have c0 := ha.c0
  have e1 : decide (n < p) = true := by simpa using hp
  clear ha hv
  go_enter Tryd.func9, Tryd.ntmps9
  go_wp2_with fail
  refine hbl.mono ?_
  rintro e w1 ⟨rfl, rfl⟩
  clear hbl
  go_wp2_with fail
  go_ret2
  exact ⟨rfl, rfl⟩
def updV (V : Nat → Option Vt) (s : Nat) (x : Vt) (i : Nat) : Option Vt := if i = s then some x else V i
theorem IsAcc.vote (h : IsAcc w b p B V) (hB : ∀ i x, V i = some x → B i ≠ b) (s : Nat) (u : Nat) (x : Vt) (hu : VBox w u ⟨s, x.bal, x.val⟩) (hub : u ≠ b) :
    IsAcc (w.setCell ⟨b, 1 + s, none⟩ (.pointer (some ⟨u, 0, none⟩))) b p (fun i => if i = s then u else B i) (updV V s x) := by
  refine ⟨by rw [World.cell?_setCell_other _ _ _ _ (by intro e; injection e with e1 e2; omega)]; exact h.c0, fun i hi => ?_, fun i y hy => ?_, fun o => by rw [World.frozen?_setCell]; exact h.fro o⟩
  · by_cases his : i = s
    · subst his
      rw [World.cell?_setCell_same _ _ _ (h.cs i hi)]
      simp [vptr, updV]
    · rw [World.cell?_setCell_other _ _ _ _ (by intro e; injection e with e1 e2; omega), h.cs i hi]
      simp [vptr, updV, his]
  · by_cases his : i = s
    · subst his
      simp only [updV, if_true, Option.some.injEq] at hy
      subst hy
      rw [if_pos rfl]
      exact hu.keep (Below.heap_setCell _ _ _ _ hub)
    · rw [updV, if_neg his] at hy
      rw [if_neg his]
      exact (h.vs i y hy).keep (Below.heap_setCell _ _ _ _ (hB i y hy))
set_option maxRecDepth 100000 in
set_option maxHeartbeats 2000000 in
theorem accept_ok (h : Acc w X b p V) (hX : X b) (hXl : ∀ q, X q → q < w.heap.size) (s : Nat) (hs : s < 4096) (n : Int) (h1 : 1 ≤ n) (h2 : n ≤ 1099511627776) (hp : p ≤ n) (t : ByteArray) (ht : t.size ≤ 1024) :
    Calls Tryd.prog 10 #[.pointer (some ⟨b, 0, none⟩), .agg #[.int .i64 (s : Int), .int .i64 n, .string t]] w fun e w' => e = .returned (.int .i64 0) ∧ Acc w' X b n (updV V s ⟨n, t⟩) ∧ Moves (fun q => q = b) w w' := by
  obtain ⟨B, ha, hv⟩ := h
  have hsi : (s : Int) < 4096 := by omega
  have hbA : Below w.heap.size w (w.alloc (.cells #[.int .i64 (s : Int), .int .i64 n, .string t] 33)) := (Below.refl _ _).alloc (Nat.le_refl _) _
  have haA := ha.below hbA
  have hvb : VBox (w.alloc (.cells #[.int .i64 (s : Int), .int .i64 n, .string t] 33)) w.heap.size ⟨s, n, t⟩ := VBox.made w ⟨s, n, t⟩ _
  have hub : w.heap.size ≠ b := by have := ha.lt; omega
  have hnb : ∀ i x, V i = some x → B i ≠ b := fun i x hx e => hv i x hx (e ▸ hX)
  have hvx : ∀ i x, updV V s ⟨n, t⟩ i = some x → ¬ X (if i = s then w.heap.size else B i) := fun i x hx => by
    by_cases his : i = s
    · rw [if_pos his]; intro hq; have := hXl _ hq; omega
    · rw [updV, if_neg his] at hx
      rw [if_neg his]; exact hv i x hx
  have hbl := ballot_yes (w := w.alloc (.cells #[.int .i64 (s : Int), .int .i64 n, .string t] 33)) n h1 h2
  have z0 := hvb 0 _ rfl
  have z1 := hvb 1 _ rfl
  have z2 := hvb 2 _ rfl
  dsimp only at z0 z1 z2
  have c0 := haA.c0
  have e0 : decide ((s : Int) < 0) = false := by simp
  have e1 : decide ((4096 : Int) ≤ (s : Int)) = false := by simp; omega
  have e2 : decide ((1024 : Int) < (t.size : Int)) = false := by simp; omega
  have e3 : decide (n < p) = false := by simpa using hp
  have HA := Lib.hid haA
  have HVB := Lib.hid hvb
  have HVX := Lib.hid hvx
  have HNB := Lib.hid hnb
  have HM := Lib.hid (Moves.of_below (F := fun q => q = b) hbA)
  clear ha hv hbA haA hvb hnb hvx
  go_enter Tryd.func10, Tryd.ntmps10
  go_wp2_with fail
  refine hbl.mono ?_
  rintro e w1 ⟨rfl, rfl⟩
  clear hbl
  go_wp2_with fail
  go_quiet (fail)
  have hbq : Below (w.alloc (.cells #[.int .i64 (s : Int), .int .i64 n, .string t] 33)).heap.size (w.alloc (.cells #[.int .i64 (s : Int), .int .i64 n, .string t] 33)) ((w.alloc (.cells #[.int .i64 (s : Int), .int .i64 n, .string t] 33)).drewN nq) := ⟨rfl, rfl, rfl, Nat.le_refl _, fun _ _ => rfl⟩
  have ha1 := HA.out.below hbq
  have hv1 := HVB.out.keep (w' := (w.alloc (.cells #[.int .i64 (s : Int), .int .i64 n, .string t] 33)).drewN nq) rfl
  have hm1 := HM.out.drewN nq
  clear hbq z0 z1 z2 c0 HA HVB HM
  generalize (w.alloc (.cells #[.int .i64 (s : Int), .int .i64 n, .string t] 33)).drewN nq = W1 at ha1 hv1 hm1 ⊢
  generalize w.heap.size = u at hv1 hub HVX ⊢
  have y0 := hv1 0 _ rfl
  have y1 := hv1 1 _ rfl
  dsimp only at y0 y1
  have d0 := ha1.c0
  have f0 := ha1.fro 0
  have ha2 := ha1.promise HNB.out n
  have hv2 : VBox (W1.setCell ⟨b, 0, none⟩ (.int .i64 n)) u ⟨s, n, t⟩ := hv1.keep (Below.heap_setCell _ _ _ _ hub)
  have hm2 := hm1.setCell ⟨b, 0, none⟩ (.int .i64 n) (.inl rfl)
  have HA2 := Lib.hid ha2
  have HV2 := Lib.hid hv2
  have HM2 := Lib.hid hm2
  clear ha1 hv1 hm1 ha2 hv2 hm2 e3
  go_wp2_with fail
  clear d0 f0 y0 y1
  generalize W1.setCell ⟨b, 0, none⟩ (.int .i64 n) = W2 at HA2 HV2 HM2 ⊢
  have x0 := HV2.out 0 _ rfl
  dsimp only at x0
  have g0 := HA2.out.fro (1 + s)
  have gc := HA2.out.cs s hs
  have hsn : (0 : Int) ≤ (s : Int) := by omega
  have hst : ((s : Int)).toNat = s := by omega
  have HFin := Lib.hid (show Acc (W2.drew.setCell ⟨b, 1 + s, none⟩ (.pointer (some ⟨u, 0, none⟩))) X b n (updV V s ⟨n, t⟩) from ⟨_, (HA2.out.below (w' := W2.drew) ⟨rfl, rfl, rfl, Nat.le_refl _, fun _ _ => rfl⟩).vote HNB.out s u ⟨n, t⟩ (HV2.out.keep rfl) hub, HVX.out⟩)
  have HMF := Lib.hid (HM2.out.drew.setCell ⟨b, 1 + s, none⟩ (.pointer (some ⟨u, 0, none⟩)) (.inl rfl))
  refine wp_region_still_tail 6 (by kernel_rfl) (by kernel_rfl) ?_
  simp only [List.take_succ_cons, List.take_zero, List.drop_succ_cons, List.drop_zero]
  iterate 6 still_step
  refine wpStill_nil ?_
  go_wp2_with fail
  go_ret
  exact ⟨rfl, HFin.out, HMF.out⟩
set_option maxRecDepth 100000 in
set_option maxHeartbeats 2000000 in
theorem accept_old (h : Acc w X b p V) (s : Nat) (hs : s < 4096) (n : Int) (h1 : 1 ≤ n) (h2 : n ≤ 1099511627776) (hp : n < p) (t : ByteArray) (ht : t.size ≤ 1024) :
    Calls Tryd.prog 10 #[.pointer (some ⟨b, 0, none⟩), .agg #[.int .i64 (s : Int), .int .i64 n, .string t]] w fun e w' => e = .returned (.int .i64 5) ∧ Below w.heap.size w w' := by
  obtain ⟨B, ha, -⟩ := h
  have hbA : Below w.heap.size w (w.alloc (.cells #[.int .i64 (s : Int), .int .i64 n, .string t] 33)) := (Below.refl _ _).alloc (Nat.le_refl _) _
  have haA := ha.below hbA
  have hvb : VBox (w.alloc (.cells #[.int .i64 (s : Int), .int .i64 n, .string t] 33)) w.heap.size ⟨s, n, t⟩ := VBox.made w ⟨s, n, t⟩ _
  have hbl := ballot_yes (w := w.alloc (.cells #[.int .i64 (s : Int), .int .i64 n, .string t] 33)) n h1 h2
  have z0 := hvb 0 _ rfl
  have z1 := hvb 1 _ rfl
  have z2 := hvb 2 _ rfl
  dsimp only at z0 z1 z2
  have c0 := haA.c0
  have e0 : decide ((s : Int) < 0) = false := by simp
  have e1 : decide ((4096 : Int) ≤ (s : Int)) = false := by simp; omega
  have e2 : decide ((1024 : Int) < (t.size : Int)) = false := by simp; omega
  have e3 : decide (n < p) = true := by simpa using hp
  have HB := Lib.hid hbA
  clear ha hbA haA hvb
  go_enter Tryd.func10, Tryd.ntmps10
  go_wp2_with fail
  refine hbl.mono ?_
  rintro e w1 ⟨rfl, rfl⟩
  clear hbl
  go_wp2_with fail
  go_quiet (fail)
  go_wp2_with fail
  go_ret
  exact ⟨rfl, HB.out.trans ⟨rfl, rfl, rfl, Nat.le_refl _, fun _ _ => rfl⟩⟩
set_option maxRecDepth 100000 in
set_option maxHeartbeats 2000000 in
theorem number_ok (r n : Int) (hr : 0 ≤ r) (hr2 : r ≤ 100000) (hn : 0 ≤ n) (hn2 : n < 8) : Calls Tryd.prog 8 #[.int .i64 r, .int .i64 n] w fun e w' => e = .returned (.tuple #[.int .i64 (r * 8 + n + 1), .int .i64 0]) ∧ w = w' := by
  have e0 : decide (r < 0) = false := by simpa using hr
  have e1 : decide (n < 0) = false := by simpa using hn
  have e2 : decide (8 ≤ n) = false := by simpa using hn2
  have e3 : decide ((1099511627775 - n) / 8 < r) = false := by simp; omega
  go_enter Tryd.func8, Tryd.ntmps8
  go_wp2_with fail
  go_ret2
  exact ⟨rfl, rfl⟩
end
end Go.Proofs.YtkbncbkmaakpkaaDoor
