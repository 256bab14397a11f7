/- does: a call at the bag and at the reference. Printed by gen_does.py. -/
import Derived.Test.YtibpkdaiaoccjaaBB2
import Derived.Test.YtibpkdaiaoccjaaSteps
import Derived.Deep.RegionHeld3
namespace Go.Proofs.Ytibpkdaiaoccjaa
open Go.RowKit
/-- A call in a block of its own. -/
def SBox (w : World) (u : Nat) (s : Stp) : Prop := u < w.heap.size ∧ ∀ j x, s.cells[j]? = some x → w.cell? ⟨u, j, none⟩ = some x
theorem SBox.keep {w w' : World} {u : Nat} {s : Stp} (h : SBox w u s) (hk : w'.heap[u]? = w.heap[u]?) (hs : u < w'.heap.size) : SBox w' u s :=
  ⟨hs, fun j x hj => (World.cell?_of_block (a := ⟨u, j, none⟩) hk).trans (h.2 j x hj)⟩
theorem SBox.made (w : World) (s : Stp) (t : TypeId) : SBox (w.alloc (.cells s.cells.toArray t)) w.heap.size s :=
  ⟨by simp, fun j x hj => by rw [World.cell?_alloc_new]; simpa using hj⟩
/-- What a call makes of a bag's messages. -/
def stepL (L : List Ms) (s : Stp) : List Ms :=
  if s.kind = 0 then sendS L s.m else if s.kind = 1 then takeL L s.i else if s.kind = 2 then twiceL L s.i else if s.kind = 3 then takeL L s.i else if s.kind = 4 then lateL L s.i else if s.kind = 5 then keepL (wishOf s.i) 0 L else L
theorem stepL_good {L : List Ms} {s : Stp} (h : good L) (hs : s.fits) : good (stepL L s) := by
  unfold stepL
  split
  · exact h.send hs.2.2
  · split
    · exact h.take _
    · split
      · exact h.twice _
      · split
        · exact h.take _
        · split
          · exact h.late _
          · split
            · exact h.keep _
            · exact h
theorem stepL_runs (L : List Ms) (s : Stp) : Runs (stepL L s) L := by
  unfold stepL
  split
  · exact runs_send _ _
  · split
    · exact runs_take _ _
    · split
      · exact runs_twice _ _
      · split
        · exact runs_take _ _
        · split
          · exact runs_late _ _
          · split
            · exact runs_cut _ _
            · exact runs_of_sub (List.Sublist.refl _)
set_option maxRecDepth 100000 in
set_option maxHeartbeats 8000000 in
theorem does_any {F : Frame} {w : World} {b c : Nat} {L : List Ms} (h : BB F w b c L L) (hg : good L) (s : Stp) (hs : s.fits) :
    Calls Try.prog 23 #[.pointer (some ⟨b, 0, none⟩), .pointer (some ⟨c, 0, none⟩), s.val] w fun e w' => e = .returned (.bool true) ∧ BB F w' b c (stepL L s) (stepL L s) := by
  have hbA : Below w.heap.size w (w.alloc (.cells s.cells.toArray 41)) := (Below.refl _ _).alloc (Nat.le_refl _) _
  have hp := h.more (K' := fun k => F.K k ∨ k = w.heap.size) hbA (fun k hk => by
    rcases hk with h1 | h1
    · exact ⟨by have := h.klt h1; simp; omega, .inl h1⟩
    · subst h1; exact ⟨by simp, .inr (Nat.le_refl _)⟩)
  have hall : ∀ w' l1 l2, BB { F with K := fun k => F.K k ∨ k = w.heap.size, wk := w.alloc (.cells s.cells.toArray 41) } w' b c l1 l2 → SBox w' w.heap.size s ∧ BB F w' b c l1 l2 := fun w' l1 l2 h' =>
    ⟨(SBox.made w s 41).keep (h'.kept (.inr rfl)) (h'.klt (.inr rfl)), h'.less fun k hk => ⟨.inl hk, (hbA.block k (h.klt hk)).trans (h.kept hk)⟩⟩
  generalize hwa : w.alloc (.cells s.cells.toArray 41) = wa at hp hall
  obtain ⟨F', hF'⟩ : ∃ F', F' = ({ F with K := fun k => F.K k ∨ k = w.heap.size, wk := wa } : Frame) := ⟨_, rfl⟩
  rw [← hF'] at hp hall
  have hS : ∀ w' l1 l2, BB F' w' b c l1 l2 → (w'.cell? ⟨w.heap.size, 0, none⟩ = some (.int .i64 s.kind) ∧ w'.cell? ⟨w.heap.size, 1, none⟩ = some (.int .i64 s.i) ∧ w'.cell? ⟨w.heap.size, 2, none⟩ = some (.int .i64 s.m.kind) ∧ w'.cell? ⟨w.heap.size, 3, none⟩ = some (.int .i64 s.m.src) ∧ w'.cell? ⟨w.heap.size, 4, none⟩ = some (.int .i64 s.m.dst) ∧ w'.cell? ⟨w.heap.size, 5, none⟩ = some (.int .i64 s.m.epoch) ∧ w'.cell? ⟨w.heap.size, 6, none⟩ = some (.int .i64 s.m.seq) ∧ w'.cell? ⟨w.heap.size, 7, none⟩ = some (.int .i64 s.m.off) ∧ w'.cell? ⟨w.heap.size, 8, none⟩ = some (.int .i64 s.m.len) ∧ w'.cell? ⟨w.heap.size, 9, none⟩ = some (.string s.m.data)) := fun w' l1 l2 h' => by
    have hx := (hall _ _ _ h').1.2
    exact ⟨hx 0 _ rfl, hx 1 _ rfl, hx 2 _ rfl, hx 3 _ rfl, hx 4 _ rfl, hx 5 _ rfl, hx 6 _ rfl, hx 7 _ rfl, hx 8 _ rfl, hx 9 _ rfl⟩
  have hck : ∀ m ∈ L, m.check = 0 := fun m hm => (hg.2 m hm).2
  have HS := Lib.hid hS
  have Hall := Lib.hid hall
  have hz := hS _ _ _ hp
  have hz0 := hS _ _ _ hp.drew
  have Hck := Lib.hid hck
  have Hwa := Lib.hid hwa
  clear hS hall h hbA hF' hck hwa
  by_cases hk0 : s.kind = 0
  · have k0 : (s.kind == 0) = true := by simp <;> omega
    have hst : stepL L s = sendS L s.m := by unfold stepL; exact if_pos hk0
    rw [hst]
    have hx := fun W (h : BB F' W b c L L) => h.send hg.1 s.m hs.2.2
    have hy := fun G W (h : BB G W b c (sendS L s.m) L) => h.rsend hg.1 s.m hs.2.2
    generalize sendE L s.m = ee at hx hy
    generalize sendS L s.m = L2 at hx hy ⊢
    unfold Ms.val at hx hy
    have Hx := Lib.hid hx
    have Hy := Lib.hid hy
    clear hx hy hst hk0
    go_enter Try.func23, Try.ntmps23
    unfold Stp.val
    obtain ⟨z0, z1, z2, z3, z4, z5, z6, z7, z8, z9⟩ := hz
    have hpd := hp.drew
    go_wp2_with fail
    rw [show w.alloc (.cells #[.int .i64 s.kind, .int .i64 s.i, .int .i64 s.m.kind, .int .i64 s.m.src, .int .i64 s.m.dst, .int .i64 s.m.epoch, .int .i64 s.m.seq, .int .i64 s.m.off, .int .i64 s.m.len, .string s.m.data] 41) = wa from Hwa.out]
    go_region_held3 (fun w' => w'.cell? ⟨w.heap.size, 0, none⟩ = some (.int .i64 s.kind) ∧ w'.cell? ⟨w.heap.size, 1, none⟩ = some (.int .i64 s.i) ∧ w'.cell? ⟨w.heap.size, 2, none⟩ = some (.int .i64 s.m.kind) ∧ w'.cell? ⟨w.heap.size, 3, none⟩ = some (.int .i64 s.m.src) ∧ w'.cell? ⟨w.heap.size, 4, none⟩ = some (.int .i64 s.m.dst) ∧ w'.cell? ⟨w.heap.size, 5, none⟩ = some (.int .i64 s.m.epoch) ∧ w'.cell? ⟨w.heap.size, 6, none⟩ = some (.int .i64 s.m.seq) ∧ w'.cell? ⟨w.heap.size, 7, none⟩ = some (.int .i64 s.m.off) ∧ w'.cell? ⟨w.heap.size, 8, none⟩ = some (.int .i64 s.m.len) ∧ w'.cell? ⟨w.heap.size, 9, none⟩ = some (.string s.m.data)) (first | exact hz0 | exact HS.out _ _ _ hp2 | exact HS.out _ _ _ hp3)
      ((first
        | (go_at_call 10
           refine (Hx.out _ hpd).mono ?_
           rintro e w2 ⟨rfl, hp2⟩)
        | (go_at_call 11
           refine (Hy.out _ _ hp2).mono ?_
           rintro e w3 ⟨rfl, hp3⟩)))
    have HQ := Lib.hid (Hall.out _ _ _ hp3).2
    clear hp3 hp2 hz0 hpd
    go_wp2_with fail
    go_ret
    exact ⟨rfl, HQ.out⟩
  by_cases hk1 : s.kind = 1
  · have k0 : (s.kind == 0) = false := by simp <;> omega
    have k1 : (s.kind == 1) = true := by simp <;> omega
    have hst : stepL L s = takeL L s.i := by unfold stepL; rw [if_neg hk0]; exact if_pos hk1
    rw [hst]
    have hx := fun W (h : BB F' W b c L L) => h.take hg.1 s.i
    have hy := fun G W (h : BB G W b c (takeL L s.i) L) => h.rtake hg.1 s.i
    generalize (if atB L s.i = true then (0 : Int) else 3) = ee at hx hy
    generalize atM L s.i = MM at hx hy
    generalize takeL L s.i = L2 at hx hy ⊢
    unfold Ms.val at hx hy
    have Hx := Lib.hid hx
    have Hy := Lib.hid hy
    clear hx hy hst hk0 hk1
    go_enter Try.func23, Try.ntmps23
    unfold Stp.val
    obtain ⟨z0, z1, z2, z3, z4, z5, z6, z7, z8, z9⟩ := hz
    have hpd := hp.drew
    go_wp2_with fail
    rw [show w.alloc (.cells #[.int .i64 s.kind, .int .i64 s.i, .int .i64 s.m.kind, .int .i64 s.m.src, .int .i64 s.m.dst, .int .i64 s.m.epoch, .int .i64 s.m.seq, .int .i64 s.m.off, .int .i64 s.m.len, .string s.m.data] 41) = wa from Hwa.out]
    refine (Hx.out _ hp).mono ?_
    rintro e w2 ⟨rfl, hp2⟩
    have hbB : Below w2.heap.size w2 (w2.alloc (.cells MM.cells.toArray 23)) := (Below.refl _ _).alloc (Nat.le_refl _) _
    have hq := hp2.more (K' := fun k => F'.K k ∨ k = w2.heap.size) hbB (fun k hk => by
      rcases hk with h1 | h1
      · exact ⟨by have := hp2.klt h1; simp; omega, .inl h1⟩
      · subst h1; exact ⟨by simp, .inr (Nat.le_refl _)⟩)
    have hback : ∀ w' l1 l2, BB { F' with K := fun k => F'.K k ∨ k = w2.heap.size, wk := w2.alloc (.cells MM.cells.toArray 23) } w' b c l1 l2 → Boxed w' w2.heap.size MM ∧ BB F' w' b c l1 l2 := fun w' l1 l2 h' =>
      ⟨⟨h'.klt (.inr rfl), fun j x hj => (World.cell?_of_block (a := ⟨w2.heap.size, j, none⟩) (h'.kept (.inr rfl))).trans ((Boxed.made w2 MM 23).2 j x hj)⟩, h'.less fun k hk => ⟨.inl hk, (hbB.block k (hp2.klt hk)).trans (hp2.kept hk)⟩⟩
    have hr := Hy.out _ _ hq
    have hcl := HS.out _ _ _ hp2
    have lt1 := (Hall.out _ _ _ hp2).1.1
    have Hback := Lib.hid hback
    clear hbB hq hback hp2 hp hz0 hpd z0 z1 z2 z3 z4 z5 z6 z7 z8 z9
    obtain ⟨z0, z1, z2, z3, z4, z5, z6, z7, z8, z9⟩ := hcl
    go_wp2_with fail
    refine hr.mono ?_
    rintro e w3 ⟨rfl, hp3⟩
    obtain ⟨bx, hp4⟩ := Hback.out _ _ _ hp3
    obtain ⟨m0, m1, m2, m3, m4, m5, m6, m7⟩ := bx.all
    have lt2 := bx.1
    have HQ := Lib.hid ((Hall.out _ _ _ hp4).2.quiet ((Below.refl _ _).alloc (Nat.le_refl _) (.cells MM.cells.toArray 23)))
    clear hr hp3 hp4 bx z0 z1 z2 z3 z4 z5 z6 z7 z8 z9
    go_wp2_with fail
    go_ret
    exact ⟨rfl, HQ.out⟩
  by_cases hk2 : s.kind = 2
  · have k0 : (s.kind == 0) = false := by simp <;> omega
    have k1 : (s.kind == 1) = false := by simp <;> omega
    have k2 : (s.kind == 2) = true := by simp <;> omega
    have hst : stepL L s = twiceL L s.i := by unfold stepL; rw [if_neg hk0]; rw [if_neg hk1]; exact if_pos hk2
    rw [hst]
    have hx := fun W (h : BB F' W b c L L) => h.twice hg.1 s.i
    have hy := fun G W (h : BB G W b c (twiceL L s.i) L) => h.rtwice hg.1 Hck.out s.i
    generalize twiceE L s.i = ee at hx hy
    generalize twiceL L s.i = L2 at hx hy ⊢
    have Hx := Lib.hid hx
    have Hy := Lib.hid hy
    clear hx hy hst hk0 hk1 hk2
    go_enter Try.func23, Try.ntmps23
    unfold Stp.val
    obtain ⟨z0, z1, z2, z3, z4, z5, z6, z7, z8, z9⟩ := hz
    have hpd := hp.drew
    go_wp2_with fail
    rw [show w.alloc (.cells #[.int .i64 s.kind, .int .i64 s.i, .int .i64 s.m.kind, .int .i64 s.m.src, .int .i64 s.m.dst, .int .i64 s.m.epoch, .int .i64 s.m.seq, .int .i64 s.m.off, .int .i64 s.m.len, .string s.m.data] 41) = wa from Hwa.out]
    go_region_held3 (fun w' => w'.cell? ⟨w.heap.size, 0, none⟩ = some (.int .i64 s.kind) ∧ w'.cell? ⟨w.heap.size, 1, none⟩ = some (.int .i64 s.i) ∧ w'.cell? ⟨w.heap.size, 2, none⟩ = some (.int .i64 s.m.kind) ∧ w'.cell? ⟨w.heap.size, 3, none⟩ = some (.int .i64 s.m.src) ∧ w'.cell? ⟨w.heap.size, 4, none⟩ = some (.int .i64 s.m.dst) ∧ w'.cell? ⟨w.heap.size, 5, none⟩ = some (.int .i64 s.m.epoch) ∧ w'.cell? ⟨w.heap.size, 6, none⟩ = some (.int .i64 s.m.seq) ∧ w'.cell? ⟨w.heap.size, 7, none⟩ = some (.int .i64 s.m.off) ∧ w'.cell? ⟨w.heap.size, 8, none⟩ = some (.int .i64 s.m.len) ∧ w'.cell? ⟨w.heap.size, 9, none⟩ = some (.string s.m.data)) (first | exact hz0 | exact HS.out _ _ _ hp2 | exact HS.out _ _ _ hp3)
      ((first
        | (go_at_call 13
           refine (Hx.out _ hpd).mono ?_
           rintro e w2 ⟨rfl, hp2⟩)
        | (go_at_call 15
           refine (Hy.out _ _ hp2).mono ?_
           rintro e w3 ⟨rfl, hp3⟩)))
    have HQ := Lib.hid (Hall.out _ _ _ hp3).2
    clear hp3 hp2 hz0 hpd
    go_wp2_with fail
    go_ret
    exact ⟨rfl, HQ.out⟩
  by_cases hk3 : s.kind = 3
  · have k0 : (s.kind == 0) = false := by simp <;> omega
    have k1 : (s.kind == 1) = false := by simp <;> omega
    have k2 : (s.kind == 2) = false := by simp <;> omega
    have k3 : (s.kind == 3) = true := by simp <;> omega
    have hst : stepL L s = takeL L s.i := by unfold stepL; rw [if_neg hk0]; rw [if_neg hk1]; rw [if_neg hk2]; exact if_pos hk3
    rw [hst]
    have hx := fun W (h : BB F' W b c L L) => h.drop hg.1 s.i
    have hy := fun G W (h : BB G W b c (takeL L s.i) L) => h.rdrop hg.1 s.i
    generalize (if atB L s.i then (0 : Int) else 3) = ee at hx hy
    generalize takeL L s.i = L2 at hx hy ⊢
    have Hx := Lib.hid hx
    have Hy := Lib.hid hy
    clear hx hy hst hk0 hk1 hk2 hk3
    go_enter Try.func23, Try.ntmps23
    unfold Stp.val
    obtain ⟨z0, z1, z2, z3, z4, z5, z6, z7, z8, z9⟩ := hz
    have hpd := hp.drew
    go_wp2_with fail
    rw [show w.alloc (.cells #[.int .i64 s.kind, .int .i64 s.i, .int .i64 s.m.kind, .int .i64 s.m.src, .int .i64 s.m.dst, .int .i64 s.m.epoch, .int .i64 s.m.seq, .int .i64 s.m.off, .int .i64 s.m.len, .string s.m.data] 41) = wa from Hwa.out]
    go_region_held3 (fun w' => w'.cell? ⟨w.heap.size, 0, none⟩ = some (.int .i64 s.kind) ∧ w'.cell? ⟨w.heap.size, 1, none⟩ = some (.int .i64 s.i) ∧ w'.cell? ⟨w.heap.size, 2, none⟩ = some (.int .i64 s.m.kind) ∧ w'.cell? ⟨w.heap.size, 3, none⟩ = some (.int .i64 s.m.src) ∧ w'.cell? ⟨w.heap.size, 4, none⟩ = some (.int .i64 s.m.dst) ∧ w'.cell? ⟨w.heap.size, 5, none⟩ = some (.int .i64 s.m.epoch) ∧ w'.cell? ⟨w.heap.size, 6, none⟩ = some (.int .i64 s.m.seq) ∧ w'.cell? ⟨w.heap.size, 7, none⟩ = some (.int .i64 s.m.off) ∧ w'.cell? ⟨w.heap.size, 8, none⟩ = some (.int .i64 s.m.len) ∧ w'.cell? ⟨w.heap.size, 9, none⟩ = some (.string s.m.data)) (first | exact hz0 | exact HS.out _ _ _ hp2 | exact HS.out _ _ _ hp3)
      ((first
        | (go_at_call 22
           refine (Hx.out _ hpd).mono ?_
           rintro e w2 ⟨rfl, hp2⟩)
        | (go_at_call 36
           refine (Hy.out _ _ hp2).mono ?_
           rintro e w3 ⟨rfl, hp3⟩)))
    have HQ := Lib.hid (Hall.out _ _ _ hp3).2
    clear hp3 hp2 hz0 hpd
    go_wp2_with fail
    go_ret
    exact ⟨rfl, HQ.out⟩
  by_cases hk4 : s.kind = 4
  · have k0 : (s.kind == 0) = false := by simp <;> omega
    have k1 : (s.kind == 1) = false := by simp <;> omega
    have k2 : (s.kind == 2) = false := by simp <;> omega
    have k3 : (s.kind == 3) = false := by simp <;> omega
    have k4 : (s.kind == 4) = true := by simp <;> omega
    have hst : stepL L s = lateL L s.i := by unfold stepL; rw [if_neg hk0]; rw [if_neg hk1]; rw [if_neg hk2]; rw [if_neg hk3]; exact if_pos hk4
    rw [hst]
    have hx := fun W (h : BB F' W b c L L) => h.late hg.1 s.i
    have hy := fun G W (h : BB G W b c (lateL L s.i) L) => h.rlate hg.1 Hck.out s.i
    generalize (if atB L s.i then (0 : Int) else 3) = ee at hx hy
    generalize lateL L s.i = L2 at hx hy ⊢
    have Hx := Lib.hid hx
    have Hy := Lib.hid hy
    clear hx hy hst hk0 hk1 hk2 hk3 hk4
    go_enter Try.func23, Try.ntmps23
    unfold Stp.val
    obtain ⟨z0, z1, z2, z3, z4, z5, z6, z7, z8, z9⟩ := hz
    have hpd := hp.drew
    go_wp2_with fail
    rw [show w.alloc (.cells #[.int .i64 s.kind, .int .i64 s.i, .int .i64 s.m.kind, .int .i64 s.m.src, .int .i64 s.m.dst, .int .i64 s.m.epoch, .int .i64 s.m.seq, .int .i64 s.m.off, .int .i64 s.m.len, .string s.m.data] 41) = wa from Hwa.out]
    go_region_held3 (fun w' => w'.cell? ⟨w.heap.size, 0, none⟩ = some (.int .i64 s.kind) ∧ w'.cell? ⟨w.heap.size, 1, none⟩ = some (.int .i64 s.i) ∧ w'.cell? ⟨w.heap.size, 2, none⟩ = some (.int .i64 s.m.kind) ∧ w'.cell? ⟨w.heap.size, 3, none⟩ = some (.int .i64 s.m.src) ∧ w'.cell? ⟨w.heap.size, 4, none⟩ = some (.int .i64 s.m.dst) ∧ w'.cell? ⟨w.heap.size, 5, none⟩ = some (.int .i64 s.m.epoch) ∧ w'.cell? ⟨w.heap.size, 6, none⟩ = some (.int .i64 s.m.seq) ∧ w'.cell? ⟨w.heap.size, 7, none⟩ = some (.int .i64 s.m.off) ∧ w'.cell? ⟨w.heap.size, 8, none⟩ = some (.int .i64 s.m.len) ∧ w'.cell? ⟨w.heap.size, 9, none⟩ = some (.string s.m.data)) (first | exact hz0 | exact HS.out _ _ _ hp2 | exact HS.out _ _ _ hp3)
      ((first
        | (go_at_call 20
           refine (Hx.out _ hpd).mono ?_
           rintro e w2 ⟨rfl, hp2⟩)
        | (go_at_call 37
           refine (Hy.out _ _ hp2).mono ?_
           rintro e w3 ⟨rfl, hp3⟩)))
    have HQ := Lib.hid (Hall.out _ _ _ hp3).2
    clear hp3 hp2 hz0 hpd
    go_wp2_with fail
    go_ret
    exact ⟨rfl, HQ.out⟩
  by_cases hk5 : s.kind = 5
  · have k0 : (s.kind == 0) = false := by simp <;> omega
    have k1 : (s.kind == 1) = false := by simp <;> omega
    have k2 : (s.kind == 2) = false := by simp <;> omega
    have k3 : (s.kind == 3) = false := by simp <;> omega
    have k4 : (s.kind == 4) = false := by simp <;> omega
    have k5 : (s.kind == 5) = true := by simp <;> omega
    have hst : stepL L s = keepL (wishOf s.i) 0 L := by unfold stepL; rw [if_neg hk0]; rw [if_neg hk1]; rw [if_neg hk2]; rw [if_neg hk3]; rw [if_neg hk4]; exact if_pos hk5
    rw [hst]
    have hx := fun W (h : BB F' W b c L L) => h.cut hg.1 s.i
    have hy := fun G W (h : BB G W b c (keepL (wishOf s.i) 0 L) L) => h.rcut hg.1 s.i
    generalize ((L.length : Int) - ((keepL (wishOf s.i) 0 L).length : Int)) = ee at hx hy
    generalize keepL (wishOf s.i) 0 L = L2 at hx hy ⊢
    have Hx := Lib.hid hx
    have Hy := Lib.hid hy
    clear hx hy hst hk0 hk1 hk2 hk3 hk4 hk5
    go_enter Try.func23, Try.ntmps23
    unfold Stp.val
    obtain ⟨z0, z1, z2, z3, z4, z5, z6, z7, z8, z9⟩ := hz
    have hpd := hp.drew
    go_wp2_with fail
    rw [show w.alloc (.cells #[.int .i64 s.kind, .int .i64 s.i, .int .i64 s.m.kind, .int .i64 s.m.src, .int .i64 s.m.dst, .int .i64 s.m.epoch, .int .i64 s.m.seq, .int .i64 s.m.off, .int .i64 s.m.len, .string s.m.data] 41) = wa from Hwa.out]
    go_region_held3 (fun w' => w'.cell? ⟨w.heap.size, 0, none⟩ = some (.int .i64 s.kind) ∧ w'.cell? ⟨w.heap.size, 1, none⟩ = some (.int .i64 s.i) ∧ w'.cell? ⟨w.heap.size, 2, none⟩ = some (.int .i64 s.m.kind) ∧ w'.cell? ⟨w.heap.size, 3, none⟩ = some (.int .i64 s.m.src) ∧ w'.cell? ⟨w.heap.size, 4, none⟩ = some (.int .i64 s.m.dst) ∧ w'.cell? ⟨w.heap.size, 5, none⟩ = some (.int .i64 s.m.epoch) ∧ w'.cell? ⟨w.heap.size, 6, none⟩ = some (.int .i64 s.m.seq) ∧ w'.cell? ⟨w.heap.size, 7, none⟩ = some (.int .i64 s.m.off) ∧ w'.cell? ⟨w.heap.size, 8, none⟩ = some (.int .i64 s.m.len) ∧ w'.cell? ⟨w.heap.size, 9, none⟩ = some (.string s.m.data)) (first | exact hz0 | exact HS.out _ _ _ hp2 | exact HS.out _ _ _ hp3)
      ((first
        | (go_at_call 19
           refine (Hx.out _ hpd).mono ?_
           rintro e w2 ⟨rfl, hp2⟩)
        | (go_at_call 38
           refine (Hy.out _ _ hp2).mono ?_
           rintro e w3 ⟨rfl, hp3⟩)))
    have HQ := Lib.hid (Hall.out _ _ _ hp3).2
    clear hp3 hp2 hz0 hpd
    go_wp2_with fail
    go_ret
    exact ⟨rfl, HQ.out⟩
  have k0 : (s.kind == 0) = false := by simp <;> omega
  have k1 : (s.kind == 1) = false := by simp <;> omega
  have k2 : (s.kind == 2) = false := by simp <;> omega
  have k3 : (s.kind == 3) = false := by simp <;> omega
  have k4 : (s.kind == 4) = false := by simp <;> omega
  have k5 : (s.kind == 5) = false := by simp <;> omega
  have hst : stepL L s = L := by unfold stepL; rw [if_neg hk0]; rw [if_neg hk1]; rw [if_neg hk2]; rw [if_neg hk3]; rw [if_neg hk4]; exact if_neg hk5
  rw [hst]
  have hq := (Hall.out _ _ _ hp).2
  rw [← Hwa.out] at hq
  have HQ := Lib.hid hq
  clear hst hp hq hz0 hk0 hk1 hk2 hk3 hk4 hk5
  obtain ⟨z0, z1, z2, z3, z4, z5, z6, z7, z8, z9⟩ := hz
  go_enter Try.func23, Try.ntmps23
  unfold Stp.val
  go_wp2_with fail
  go_ret
  exact ⟨rfl, HQ.out⟩
end Go.Proofs.Ytibpkdaiaoccjaa
