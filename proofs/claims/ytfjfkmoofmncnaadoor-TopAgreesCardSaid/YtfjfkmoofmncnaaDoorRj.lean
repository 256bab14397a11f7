/- The reference's service: serve. -/
import Derived.Test.YtfjfkmoofmncnaaDoorMe
namespace Go.Proofs.YtfjfkmoofmncnaaDoor
open Go.RowKit
theorem Tryd.infoGrantR : (Tryd.prog.info? 193).map (fun i => (i.zero, i.size, i.bytes)) = some (some (.agg #[.int .i64 0, .int .i64 0, .int .i64 0, .int .i64 0, .int .i64 0]), 5, 40) := by kernel_rfl
theorem Tryd.infoGrantR2 : (Tryd.prog.info? 193).map (fun i => (i.zero, i.size)) = some (some (.agg #[.int .i64 0, .int .i64 0, .int .i64 0, .int .i64 0, .int .i64 0]), 5) := by kernel_rfl
/-- serve's loop. -/
structure RV (w wr : World) (p : RP) (s : GS) (t : (Nat → Nat → Nat) × Nat × List Hd) (tv lv gv : Value) (n : Nat) : Prop where
  svc : IsRS wr { p with tv := tv } { s with R := t.1, last := t.2.1 }
  left : wr.ownsRow w.heap.size 57 4 lv t.2.2.length (hrows t.2.2)
  g : ∃ xs, wr.ownsRow w.heap.size 193 5 gv n xs
  mv : Moves (fpF p) w wr
  sl : ∀ q, lv.ownBlock = some q → ¬ fpS { p with tv := tv } q
  sg : ∀ q, gv.ownBlock = some q → ¬ fpS { p with tv := tv } q
  tw : ∀ q, tv.ownBlock = some q → w.heap.size ≤ q ∨ p.tv.ownBlock = some q
section
variable {w wr w' : World} {p : RP} {s : GS} {t : (Nat → Nat → Nat) × Nat × List Hd} {tv lv gv : Value} {n : Nat}
theorem fpS_tv {p : RP} {tv tv' : Value} {q : Nat} (h : fpS { p with tv := tv' } q) : fpS { p with tv := tv } q ∨ tv'.ownBlock = some q := by
  rcases h with h | h | h | h | h | h
  · exact .inl (.inl h)
  · exact .inl (.inr (.inl h))
  · exact .inr h
  · exact .inl (.inr (.inr (.inr (.inl h))))
  · exact .inl (.inr (.inr (.inr (.inr (.inl h)))))
  · exact .inl (.inr (.inr (.inr (.inr (.inr h)))))
/-- The table has turned. -/
theorem RV.turn (h : RV w wr p s t tv lv gv n) {tv' : Value} {R : Nat → Nat → Nat} (hT : IsRT w' p.tb tv' (holdsOf R)) (hm : Moves (fun k => k = p.tb) wr w') (hn : ∀ k, tv'.ownBlock = some k → wr.heap.size ≤ k ∨ tv.ownBlock = some k) : RV w w' p s (R, t.2.1, t.2.2) tv' lv gv n := by
  have hne : ∀ (v : Value), (∀ q, v.ownBlock = some q → ¬ fpS { p with tv := tv } q) → (∀ q, v.ownBlock = some q → q < wr.heap.size) → ∀ q, v.ownBlock = some q → ¬ fpS { p with tv := tv' } q := fun v h1 h2 q hq hf => by
    rcases fpS_tv (tv := tv) hf with hf | hf
    · exact h1 q hq hf
    · rcases hn q hf with h3 | h3
      · have := h2 q hq; omega
      · exact h1 q hq (.inr (.inr (.inl h3)))
  obtain ⟨xs, hg⟩ := h.g
  exact ⟨h.svc.tabs hT hm hn, ownsRow_keep h.left fun q hq => hm.block q (h.left.lt q hq).2 (fun e => h.sl q hq (.inr (.inl e))), ⟨xs, ownsRow_keep hg fun q hq => hm.block q (hg.lt q hq).2 (fun e => h.sg q hq (.inr (.inl e)))⟩, h.mv.trans hm fun i hi => .inl (.inr (.inl hi)), hne lv h.sl fun q hq => (h.left.lt q hq).2, hne gv h.sg fun q hq => (hg.lt q hq).2, fun q hq => by
    rcases hn q hq with h1 | h1
    · exact .inl (Nat.le_trans h.mv.size h1)
    · exact h.tw q h1⟩
theorem RV.below (h : RV w wr p s t tv lv gv n) (hb : Below wr.heap.size wr w') : RV w w' p s t tv lv gv n := by
  obtain ⟨xs, hg⟩ := h.g
  exact ⟨h.svc.below hb, ownsRow_keep h.left fun q hq => hb.block q (h.left.lt q hq).2, ⟨xs, ownsRow_keep hg fun q hq => hb.block q (hg.lt q hq).2⟩, h.mv.trans (Moves.of_below (F := fun _ => False) hb) fun _ h => h.elim, h.sl, h.sg, h.tw⟩
/-- The last number is told. -/
theorem RV.last (h : RV w wr p s t tv lv gv n) (m : Nat) : RV w (wr.setCell ⟨p.b, 3, none⟩ (.int .i64 (m : Int))) p s (t.1, m, t.2.2) tv lv gv n := by
  obtain ⟨xs, hg⟩ := h.g
  exact ⟨h.svc.lasts m, ownsRow_keep h.left fun q hq => Below.heap_setCell _ _ _ _ (fun e => h.sl q hq (.inl e)), ⟨xs, ownsRow_keep hg fun q hq => Below.heap_setCell _ _ _ _ (fun e => h.sg q hq (.inl e))⟩, h.mv.setCell ⟨p.b, 3, none⟩ _ (.inl (.inl rfl)), h.sl, h.sg, h.tw⟩
theorem rows_apart {W : World} {B B' : Nat} {e e' : TypeId} {z z' n n' : Nat} {v v' : Value} {xs xs' : List Value} (hee : e ≠ e') (h : W.ownsRow B e z v n xs) (h' : W.ownsRow B' e' z' v' n' xs') : ∀ q, v.ownBlock = some q → v'.ownBlock ≠ some q := fun q h1 h2 => by
  rcases h.2 with ⟨e1, _⟩ | ⟨g, cap, cur, e1, _, hh, _⟩
  · rw [e1] at h1; simp [Value.ownBlock] at h1
  · rw [e1] at h1
    obtain rfl : g = q := by simpa [Value.ownBlock] using h1
    rcases h'.2 with ⟨e1', _⟩ | ⟨g', cap', cur', e1', _, hh', _⟩
    · rw [e1'] at h2; simp [Value.ownBlock] at h2
    · rw [e1'] at h2
      obtain rfl : g' = g := by simpa [Value.ownBlock] using h2
      rw [hh] at hh'
      injection hh' with hh'
      injection hh' with _ h3
      exact hee h3
/-- left has grown. -/
theorem RV.more (h : RV w wr p s t tv lv gv n) {lv' : Value} {L : List Hd} (hg : wr.grownBy w' lv.ownBlock) (ho : w'.ownsRow w.heap.size 57 4 lv' L.length (hrows L)) (hl : lv'.ownBlock = lv.ownBlock ∨ lv'.ownBlock = some wr.heap.size) : RV w w' p s (t.1, t.2.1, L) tv lv' gv n := by
  obtain ⟨xs, hgr⟩ := h.g
  have hlt := h.svc.lt
  refine ⟨h.svc.keep fun k hk => hg.block k (hlt k hk) (fun e => h.sl k e.symm hk), ho, ⟨xs, ownsRow_keep hgr fun q hq => hg.block q (hgr.lt q hq).2 (fun e => rows_apart (by decide) hgr h.left q hq e.symm)⟩, h.mv.grown hg fun q hq => .inr (h.left.lt q hq).1, fun q hq hf => ?_, h.sg, h.tw⟩
  rcases hl with e | e
  · exact h.sl q (e ▸ hq) hf
  · rw [e] at hq
    cases hq
    have := hlt _ hf
    omega
/-- The grants have grown. -/
theorem RV.grants (h : RV w wr p s t tv lv gv n) {gv' : Value} {n' : Nat} {xs' : List Value} (hg : wr.grownBy w' gv.ownBlock) (ho : w'.ownsRow w.heap.size 193 5 gv' n' xs') (hl : gv'.ownBlock = gv.ownBlock ∨ gv'.ownBlock = some wr.heap.size) : RV w w' p s t tv lv gv' n' := by
  obtain ⟨xs, hgr⟩ := h.g
  have hlt := h.svc.lt
  refine ⟨h.svc.keep fun k hk => hg.block k (hlt k hk) (fun e => h.sg k e.symm hk), ownsRow_keep h.left fun q hq => hg.block q (h.left.lt q hq).2 (fun e => rows_apart (by decide) h.left hgr q hq e.symm), ⟨xs', ho⟩, h.mv.grown hg fun q hq => .inr (hgr.lt q hq).1, h.sl, fun q hq hf => ?_, h.tw⟩
  rcases hl with e | e
  · exact h.sg q (e ▸ hq) hf
  · rw [e] at hq
    cases hq
    have := hlt _ hf
    omega
/-- What serve's methods leave. -/
def RSPost (w : World) (p : RP) (s : GS) (w' : World) : Prop := ∃ tv wv, IsRS w' { p with tv := tv, wv := wv } s ∧ Moves (fpF p) w w' ∧ ∀ k, tv.ownBlock = some k ∨ wv.ownBlock = some k → w.heap.size ≤ k ∨ p.tv.ownBlock = some k ∨ p.wv.ownBlock = some k
set_option maxRecDepth 100000 in
set_option maxHeartbeats 8000000 in
theorem rserve_any (h : IsRS w p s) (hs : s.Ok) : Calls Tryd.prog 61 #[.pointer (some ⟨p.b, 0, none⟩)] w fun e w' => (∃ a n c, e = .returned (.slice a n c)) ∧ RSPost w p s.serve w' := by
  obtain ⟨i0, hi0, hz0, hz1, hz2⟩ := info_parts Tryd.infoHold
  obtain ⟨j0, hj0, gz0, gz1, gz2⟩ := info_parts Tryd.infoGrantR
  have Hi := Lib.hid hi0
  have Hz := Lib.hid hz0
  have Hz1 := Lib.hid hz1
  have Hz2 := Lib.hid hz2
  have Gi := Lib.hid hj0
  have Gz := Lib.hid gz0
  have Gz1 := Lib.hid gz1
  have Gz2 := Lib.hid gz2
  clear hi0 hz0 hz1 hz2 hj0 gz0 gz1 gz2
  obtain ⟨W0, hW0⟩ : ∃ W0, W0 = (w.alloc (.cells #[] 193)).alloc (.cells #[] 57) := ⟨_, rfl⟩
  have hb0 : Below w.heap.size w W0 := by rw [hW0]; exact ((Below.refl _ _).alloc (Nat.le_refl _) _).alloc (by simp) _
  have hV0 : RV w W0 p s (s.R, s.last, []) p.tv (.slice (some ⟨w.heap.size + 1, 0, none⟩) 0 0) (.slice (some ⟨w.heap.size, 0, none⟩) 0 0) 0 := by
    have hrow1 : W0.ownsRow w.heap.size 57 4 (.slice (some ⟨w.heap.size + 1, 0, none⟩) 0 0) 0 [] := by
      have := World.ownsRow_made (base := w.heap.size) (e := 57) (size := 4) (w.alloc (.cells #[] 193)) #[] 0 (by simp) (Nat.zero_le _) rfl
      rw [World.size_alloc] at this
      rw [hW0]
      exact this
    have hrow2 : W0.ownsRow w.heap.size 193 5 (.slice (some ⟨w.heap.size, 0, none⟩) 0 0) 0 [] := by
      rw [hW0]
      exact World.ownsRow.alloc (World.ownsRow_made (base := w.heap.size) (e := 193) (size := 5) w #[] 0 (by simp) (Nat.zero_le _) rfl) _
    exact ⟨h.below hb0, hrow1, ⟨[], hrow2⟩, Moves.of_below hb0, fun q hq hf => by cases hq; have h9 : w.heap.size + 1 < w.heap.size := h.lt _ hf; omega, fun q hq hf => by cases hq; have h9 : w.heap.size < w.heap.size := h.lt _ hf; omega, fun q hq => .inr hq⟩
  obtain ⟨wa, wc0, hwv⟩ := row_lens h.row
  have H := Lib.hid h
  have HS := Lib.hid hs
  have HW0 := Lib.hid hW0
  have HV0 := Lib.hid hV0
  have HWV := Lib.hid hwv
  clear h hs hW0 hV0 hb0 hwv
  go_enter Tryd.func61, Tryd.ntmps61
  go_wp2_with fail
  rw [← HW0.out]
  go_loopw [3, 4, 5, 6] (fun gv lv i _ wr => ∃ (j n : Nat) (tv : Value), j ≤ s.wait.length ∧ n ≤ j ∧ i = .int .i64 (j : Int) ∧ RV w wr p s ((s.wait.take j).foldl serveStep (s.R, s.last, [])) tv lv gv n) (fun _ _ i _ _ => s.wait.length - (intOf i).toNat)
  case atStart => exact ⟨0, 0, _, Nat.zero_le _, Nat.le_refl _, rfl, HV0.out⟩
  case round =>
    clear HV0
    obtain ⟨j, n, tv, hj, hn, rfl, hV⟩ := hrel
    have h32 := HS.out.n
    by_cases hlt : j < s.wait.length
    · have e0 : decide ((j : Int) < (s.wait.length : Int)) = true := by simpa using hlt
      obtain ⟨x, hx⟩ : ∃ x, s.wait[j]? = some x := ⟨_, List.getElem?_eq_getElem hlt⟩
      have hok := HS.out.w x (List.mem_of_getElem? hx)
      have hfold := serve_fold (s.wait.take j) (s.R, s.last, []) HS.out.R HS.out.l (fun y hy => HS.out.w y (List.mem_of_mem_take hy)) (fun y hy => by simp at hy)
      have hnext : (s.wait.take (j + 1)).foldl serveStep (s.R, s.last, []) = serveStep ((s.wait.take j).foldl serveStep (s.R, s.last, [])) x := by
        rw [List.take_succ_eq_append_getElem hlt, List.foldl_append, show s.wait[j] = x by rw [List.getElem?_eq_getElem hlt] at hx; exact Option.some.inj hx]
        rfl
      generalize (s.wait.take j).foldl serveStep (s.R, s.last, []) = t at hV hfold hnext
      obtain ⟨TR, TL, LL⟩ := t
      obtain ⟨f1, f2, f3, f4⟩ := hfold
      simp only [List.length_nil, List.length_take, Nat.zero_add] at f1 f2 f3 f4
      have hLn : LL.length ≤ 32 := by omega
      obtain ⟨g, cap', ev, hc⟩ := hrowcell hV.svc.row hx
      have c2 := hV.svc.c2
      rw [show ({ p with tv := tv } : RP).wv = .slice (some ⟨g, 0, none⟩) s.wait.length cap' from ev] at c2
      have d0 := hc 0 _ rfl
      have d1 := hc 1 _ rfl
      have d2 := hc 2 _ rfl
      have d3 := hc 3 _ rfl
      rw [Nat.add_zero] at d0
      dsimp only at c2
      have HV := Lib.hid hV
      have HN := Lib.hid hnext
      have HF1 := Lib.hid f1
      have HF3 := Lib.hid f3
      have HOK := Lib.hid hok
      clear hV hnext f1 f3 hok hc hx ev
      go_upto_region 7 with (fail)
      have hbA : Below wr.heap.size wr (wr.alloc (.cells #[.int .i64 (x.a : Int), .int .i64 (x.b : Int), .int .i64 (x.c : Int), .int .i64 (x.m : Int)] 57)) := (Below.refl _ _).alloc (Nat.le_refl _) _
      have hVA := HV.out.below hbA
      have hXA := HX.made wr x 57
      generalize wr.alloc (.cells #[.int .i64 (x.a : Int), .int .i64 (x.b : Int), .int .i64 (x.c : Int), .int .i64 (x.m : Int)] 57) = WA at hVA hXA ⊢
      have HVA := Lib.hid hVA
      have HXA := Lib.hid hXA
      have HNTB : Hid (wr.heap.size ≠ p.tb) := Lib.hid (fun e => by have := HV.out.svc.lt p.tb (.inr (.inl rfl)); omega)
      have HNB : Hid (wr.heap.size ≠ p.b) := Lib.hid (fun e => by have := HV.out.svc.lt p.b (.inl rfl); omega)
      have HGW : Hid (∀ q, u3.ownBlock = some q → q < wr.heap.size) := Lib.hid (fun q hq => by obtain ⟨xs, hg⟩ := HV.out.g; exact (hg.lt q hq).2)
      clear hbA hVA hXA d0 d1 d2 d3 c2 HV
      go_cut [44] from 9 to 65 (fun s44 wx => ∃ (B : Bool) (R' : Nat → Nat → Nat) (tv' : Value), s44 = .bool B ∧ RV w wx p s (R', TL, LL) tv' u4 u3 n ∧ HX wx wr.heap.size x ∧ ((B = true ∧ serveStep (TR, TL, LL) x = (R', TL + 1, LL)) ∨ (B = false ∧ serveStep (TR, TL, LL) x = (R', TL, LL ++ [x]))))
      case first =>
        have c0 := HVA.out.svc.c0
        have c3 := HVA.out.svc.c3
        dsimp only at c0 c3
        have x0 := HXA.out.c0
        have x1 := HXA.out.c1
        have x2 := HXA.out.c2
        have x3 := HXA.out.c3
        by_cases hmax : TL < 1099511627776
        · have e1 : decide ((TL : Int) < 1099511627776) = true := by simp; omega
          have hSf : ∀ W, Below WA.heap.size WA W → (W.cell? ⟨p.b, 0, none⟩ = some (.pointer (some ⟨p.tb, 0, none⟩)) ∧ W.cell? ⟨p.b, 3, none⟩ = some (.int .i64 (TL : Int)) ∧ W.cell? ⟨wr.heap.size, 0, none⟩ = some (.int .i64 (x.a : Int)) ∧ W.cell? ⟨wr.heap.size, 1, none⟩ = some (.int .i64 (x.b : Int)) ∧ W.cell? ⟨wr.heap.size, 2, none⟩ = some (.int .i64 (x.c : Int)) ∧ W.cell? ⟨wr.heap.size, 3, none⟩ = some (.int .i64 (x.m : Int))) := fun W hW => ⟨(HVA.out.below hW).svc.c0, (HVA.out.below hW).svc.c3, (HXA.out.below hW).cell⟩
          have hFree : ∀ W, Below WA.heap.size WA W → Calls Tryd.prog 77 #[.pointer (some ⟨p.b, 0, none⟩), x.val, u4] W fun e w' => e = .returned (.bool (freeB TR x LL)) ∧ Below WA.heap.size WA w' := fun W hW =>
            (rfree_any (HVA.out.below hW).svc x HOK.out.m2 LL (by omega) (HVA.out.below hW).left fun o ho => (HF3.out o ho).m2).mono fun e w' ⟨h1, h2⟩ => ⟨h1, hW.trans (h2.mono hW.size)⟩
          have hz0 := hSf WA.drew (Below.refl _ _).drew
          have HSF := Lib.hid hSf
          have HFR := Lib.hid hFree
          have g : Below WA.heap.size WA WA := Below.refl _ _
          clear hSf hFree c0 c3 x0 x1 x2 x3
          unfold Hd.val at HFR
          cases hfree : freeB TR x LL with
          | false =>
            rw [hfree] at HFR
            have hst : serveStep (TR, TL, LL) x = (TR, TL, LL ++ [x]) := by unfold serveStep; rw [if_neg (fun h => by have := h.2.1; simp only at this; rw [hfree] at this; cases this)]
            have HST := Lib.hid hst
            clear hfree hst hmax
            refine wp_region_held_drew (S := (fun w' => w'.cell? ⟨p.b, 0, none⟩ = some (.pointer (some ⟨p.tb, 0, none⟩)) ∧ w'.cell? ⟨p.b, 3, none⟩ = some (.int .i64 (TL : Int)) ∧ w'.cell? ⟨wr.heap.size, 0, none⟩ = some (.int .i64 (x.a : Int)) ∧ w'.cell? ⟨wr.heap.size, 1, none⟩ = some (.int .i64 (x.b : Int)) ∧ w'.cell? ⟨wr.heap.size, 2, none⟩ = some (.int .i64 (x.c : Int)) ∧ w'.cell? ⟨wr.heap.size, 3, none⟩ = some (.int .i64 (x.m : Int)))) (by kernel_rfl) hz0 (fun hHeld => ?_)
            refine wpAnyH_take (i := 0) (oi := ⟨_, _, _, _, _, _⟩) (v := .pointer (some ⟨p.b, 0, none⟩)) rfl (by kernel_rfl) (by kernel_rfl) (by kernel_rfl) (fun _ _ _ h => h) (Or.inl ⟨by rfl, fun _ _ => rfl⟩) hHeld ?_
            try simp only [Act.put, List.setIfInBounds_toArray, List.set_cons_zero, List.set_cons_succ]
            refine wpAnyH_take (i := 1) (oi := ⟨_, _, _, _, _, _⟩) (v := .pointer (some ⟨p.b, 0, none⟩)) rfl (by kernel_rfl) (by kernel_rfl) (by kernel_rfl) (fun _ _ _ h => h) (Or.inl ⟨by rfl, fun W hW => by obtain ⟨q0, q1, q2, q3, q4, q5⟩ := hW; go_simp⟩) hHeld ?_
            try simp only [Act.put, List.setIfInBounds_toArray, List.set_cons_zero, List.set_cons_succ]
            refine wpAnyH_take (i := 2) (oi := ⟨_, _, _, _, _, _⟩) (v := .pointer (some ⟨p.b, 3, none⟩)) rfl (by kernel_rfl) (by kernel_rfl) (by kernel_rfl) (fun _ _ _ h => h) (Or.inl ⟨by rfl, fun W hW => by obtain ⟨q0, q1, q2, q3, q4, q5⟩ := hW; go_simp⟩) hHeld ?_
            try simp only [Act.put, List.setIfInBounds_toArray, List.set_cons_zero, List.set_cons_succ]
            refine wpAnyH_take (i := 3) (oi := ⟨_, _, _, _, _, _⟩) (v := .int .i64 (TL : Int)) rfl (by kernel_rfl) (by kernel_rfl) (by kernel_rfl) (fun _ _ _ h => h) (Or.inl ⟨by rfl, fun W hW => by obtain ⟨q0, q1, q2, q3, q4, q5⟩ := hW; go_simp⟩) hHeld ?_
            try simp only [Act.put, List.setIfInBounds_toArray, List.set_cons_zero, List.set_cons_succ]
            refine wpAnyH_take (i := 4) (oi := ⟨_, _, _, _, _, _⟩) (v := .bool true) rfl (by kernel_rfl) (by kernel_rfl) (by kernel_rfl) (fun _ _ _ h => h) (Or.inl ⟨by rfl, fun W hW => by obtain ⟨q0, q1, q2, q3, q4, q5⟩ := hW; go_simp⟩) hHeld ?_
            try simp only [Act.put, List.setIfInBounds_toArray, List.set_cons_zero, List.set_cons_succ]
            refine wpAnyH_take (i := 5) (oi := ⟨_, _, _, _, _, _⟩) (v := .bool true) rfl (by kernel_rfl) (by kernel_rfl) (by kernel_rfl) (fun _ _ _ h => h) (Or.inl ⟨by rfl, fun _ _ => rfl⟩) hHeld ?_
            try simp only [Act.put, List.setIfInBounds_toArray, List.set_cons_zero, List.set_cons_succ]
            refine wpAnyH_take (i := 6) (oi := ⟨_, _, _, _, _, _⟩) (v := .pointer (some ⟨p.b, 0, none⟩)) rfl (by kernel_rfl) (by kernel_rfl) (by kernel_rfl) (fun _ _ _ h => h) (Or.inl ⟨by rfl, fun _ _ => rfl⟩) hHeld ?_
            try simp only [Act.put, List.setIfInBounds_toArray, List.set_cons_zero, List.set_cons_succ]
            refine wpAnyH_take (i := 7) (oi := ⟨_, _, _, _, _, _⟩) (v := .agg #[.int .i64 (x.a : Int), .int .i64 (x.b : Int), .int .i64 (x.c : Int), .int .i64 (x.m : Int)]) rfl (by kernel_rfl) (by kernel_rfl) (by kernel_rfl) (fun _ _ _ h => h) (Or.inl ⟨by rfl, fun W hW => by obtain ⟨q0, q1, q2, q3, q4, q5⟩ := hW; go_simp⟩) hHeld ?_
            try simp only [Act.put, List.setIfInBounds_toArray, List.set_cons_zero, List.set_cons_succ]
            refine wpAnyH_take (i := 8) (oi := ⟨_, _, _, _, _, _⟩) (v := u4) rfl (by kernel_rfl) (by kernel_rfl) (by kernel_rfl) (fun _ _ _ h => h) (Or.inl ⟨by rfl, fun _ _ => rfl⟩) hHeld ?_
            try simp only [Act.put, List.setIfInBounds_toArray, List.set_cons_zero, List.set_cons_succ]
            refine wpAnyH_ready (rs := [9]) (by kernel_rfl) (by simp) (AllReadyH.cons (o := ⟨_, _, _, _, _, _⟩) rfl (fun K hK => ?_) AllReadyH.nil)
            rw [if_pos (by rfl)]
            go_simp
            refine (HFR.out _ g.drew).mono ?_
            rintro e wA ⟨rfl, g1⟩
            refine hK.out _ _ (HSF.out _ g1) (fun hHeld => ?_)
            clear hK K
            try simp only [Act.put, List.setIfInBounds_toArray, List.set_cons_zero, List.set_cons_succ]
            refine wpAnyH_take (i := 10) (oi := ⟨_, _, _, _, _, _⟩) (v := .bool false) rfl (by kernel_rfl) (by kernel_rfl) (by kernel_rfl) (fun _ _ _ h => h) (Or.inl ⟨by rfl, fun _ _ => rfl⟩) hHeld ?_
            try simp only [Act.put, List.setIfInBounds_toArray, List.set_cons_zero, List.set_cons_succ]
            refine wpAnyH_take (i := 11) (oi := ⟨_, _, _, _, _, _⟩) (v := .bool false) rfl (by kernel_rfl) (by kernel_rfl) (by kernel_rfl) (fun _ _ _ h => h) (Or.inl ⟨by rfl, fun _ _ => rfl⟩) hHeld ?_
            try simp only [Act.put, List.setIfInBounds_toArray, List.set_cons_zero, List.set_cons_succ]
            refine wpAnyH_take (i := 12) (oi := ⟨_, _, _, _, _, _⟩) (v := undef) rfl (by kernel_rfl) (by kernel_rfl) (by kernel_rfl) (fun _ _ _ h => h) (Or.inr ⟨by rfl, rfl⟩) hHeld ?_
            try simp only [Act.put, List.setIfInBounds_toArray, List.set_cons_zero, List.set_cons_succ]
            refine wpAnyH_take (i := 13) (oi := ⟨_, _, _, _, _, _⟩) (v := undef) rfl (by kernel_rfl) (by kernel_rfl) (by kernel_rfl) (fun _ _ _ h => h) (Or.inr ⟨by rfl, rfl⟩) hHeld ?_
            try simp only [Act.put, List.setIfInBounds_toArray, List.set_cons_zero, List.set_cons_succ]
            refine wpAnyH_take (i := 14) (oi := ⟨_, _, _, _, _, _⟩) (v := undef) rfl (by kernel_rfl) (by kernel_rfl) (by kernel_rfl) (fun _ _ _ h => h) (Or.inr ⟨by rfl, rfl⟩) hHeld ?_
            try simp only [Act.put, List.setIfInBounds_toArray, List.set_cons_zero, List.set_cons_succ]
            refine wpAnyH_take (i := 15) (oi := ⟨_, _, _, _, _, _⟩) (v := undef) rfl (by kernel_rfl) (by kernel_rfl) (by kernel_rfl) (fun _ _ _ h => h) (Or.inr ⟨by rfl, rfl⟩) hHeld ?_
            try simp only [Act.put, List.setIfInBounds_toArray, List.set_cons_zero, List.set_cons_succ]
            refine wpAnyH_take (i := 16) (oi := ⟨_, _, _, _, _, _⟩) (v := undef) rfl (by kernel_rfl) (by kernel_rfl) (by kernel_rfl) (fun _ _ _ h => h) (Or.inr ⟨by rfl, rfl⟩) hHeld ?_
            try simp only [Act.put, List.setIfInBounds_toArray, List.set_cons_zero, List.set_cons_succ]
            refine wpAnyH_take (i := 17) (oi := ⟨_, _, _, _, _, _⟩) (v := undef) rfl (by kernel_rfl) (by kernel_rfl) (by kernel_rfl) (fun _ _ _ h => h) (Or.inr ⟨by rfl, rfl⟩) hHeld ?_
            try simp only [Act.put, List.setIfInBounds_toArray, List.set_cons_zero, List.set_cons_succ]
            refine wpAnyH_take (i := 18) (oi := ⟨_, _, _, _, _, _⟩) (v := undef) rfl (by kernel_rfl) (by kernel_rfl) (by kernel_rfl) (fun _ _ _ h => h) (Or.inr ⟨by rfl, rfl⟩) hHeld ?_
            try simp only [Act.put, List.setIfInBounds_toArray, List.set_cons_zero, List.set_cons_succ]
            refine wpAnyH_take (i := 19) (oi := ⟨_, _, _, _, _, _⟩) (v := .bool false) rfl (by kernel_rfl) (by kernel_rfl) (by kernel_rfl) (fun _ _ _ h => h) (Or.inl ⟨by rfl, fun _ _ => rfl⟩) hHeld ?_
            try simp only [Act.put, List.setIfInBounds_toArray, List.set_cons_zero, List.set_cons_succ]
            refine wpAnyH_done (by kernel_rfl) ?_ _
            go_wp2_with fail
            go_meet
            exact ⟨false, TR, tv, rfl, HVA.out.below g1, HXA.out.below g1, .inr ⟨rfl, HST.out⟩⟩
          | true =>
            rw [hfree] at HFR
            have hff := hfree
            unfold freeB at hff
            rw [Bool.and_eq_true, Bool.not_eq_true', Bool.not_eq_true'] at hff
            have HAG := Lib.hid hff.2
            clear hff
            cases hfit : fitsB TR x with
            | false =>
              have hst : serveStep (TR, TL, LL) x = (TR, TL, LL ++ [x]) := by unfold serveStep; rw [if_neg (fun h => by have := h.2.2; simp only at this; rw [hfit] at this; cases this)]
              have HST := Lib.hid hst
              have hPut : ∀ W, Below WA.heap.size WA W → Calls Tryd.prog 78 #[.pointer (some ⟨p.tb, 0, none⟩), x.val] W fun e w' => e = .returned (.int .i64 2) ∧ ∃ tv', RV w w' p s (TR, TL, LL) tv' u4 u3 n ∧ HX w' wr.heap.size x ∧ (w'.cell? ⟨p.b, 0, none⟩ = some (.pointer (some ⟨p.tb, 0, none⟩)) ∧ w'.cell? ⟨p.b, 3, none⟩ = some (.int .i64 (TL : Int)) ∧ w'.cell? ⟨wr.heap.size, 0, none⟩ = some (.int .i64 (x.a : Int)) ∧ w'.cell? ⟨wr.heap.size, 1, none⟩ = some (.int .i64 (x.b : Int)) ∧ w'.cell? ⟨wr.heap.size, 2, none⟩ = some (.int .i64 (x.c : Int)) ∧ w'.cell? ⟨wr.heap.size, 3, none⟩ = some (.int .i64 (x.m : Int))) := fun W hW => by
                have hVW := HVA.out.below hW
                have hXW := HXA.out.below hW
                refine (rput_any hVW.svc.tab HF1.out x HOK.out (by rw [agB_met]; exact HAG.out)).mono ?_
                rintro e w' (⟨h1, -⟩ | ⟨-, rfl, h2, h3⟩)
                · rw [hfit] at h1; cases h1
                · have hV2 := hVW.turn h2 h3 fun k hk => .inr hk
                  have hX2 := hXW.keep h3.size (h3.block _ hXW.lt (HNTB.out))
                  exact ⟨rfl, _, hV2, hX2, hV2.svc.c0, hV2.svc.c3, hX2.cell⟩
              have HPUT := Lib.hid hPut
              unfold Hd.val at HPUT
              clear hfree hfit hst hPut hmax
              refine wp_region_held_drew (S := (fun w' => w'.cell? ⟨p.b, 0, none⟩ = some (.pointer (some ⟨p.tb, 0, none⟩)) ∧ w'.cell? ⟨p.b, 3, none⟩ = some (.int .i64 (TL : Int)) ∧ w'.cell? ⟨wr.heap.size, 0, none⟩ = some (.int .i64 (x.a : Int)) ∧ w'.cell? ⟨wr.heap.size, 1, none⟩ = some (.int .i64 (x.b : Int)) ∧ w'.cell? ⟨wr.heap.size, 2, none⟩ = some (.int .i64 (x.c : Int)) ∧ w'.cell? ⟨wr.heap.size, 3, none⟩ = some (.int .i64 (x.m : Int)))) (by kernel_rfl) hz0 (fun hHeld => ?_)
              refine wpAnyH_take (i := 0) (oi := ⟨_, _, _, _, _, _⟩) (v := .pointer (some ⟨p.b, 0, none⟩)) rfl (by kernel_rfl) (by kernel_rfl) (by kernel_rfl) (fun _ _ _ h => h) (Or.inl ⟨by rfl, fun _ _ => rfl⟩) hHeld ?_
              try simp only [Act.put, List.setIfInBounds_toArray, List.set_cons_zero, List.set_cons_succ]
              refine wpAnyH_take (i := 1) (oi := ⟨_, _, _, _, _, _⟩) (v := .pointer (some ⟨p.b, 0, none⟩)) rfl (by kernel_rfl) (by kernel_rfl) (by kernel_rfl) (fun _ _ _ h => h) (Or.inl ⟨by rfl, fun W hW => by obtain ⟨q0, q1, q2, q3, q4, q5⟩ := hW; go_simp⟩) hHeld ?_
              try simp only [Act.put, List.setIfInBounds_toArray, List.set_cons_zero, List.set_cons_succ]
              refine wpAnyH_take (i := 2) (oi := ⟨_, _, _, _, _, _⟩) (v := .pointer (some ⟨p.b, 3, none⟩)) rfl (by kernel_rfl) (by kernel_rfl) (by kernel_rfl) (fun _ _ _ h => h) (Or.inl ⟨by rfl, fun W hW => by obtain ⟨q0, q1, q2, q3, q4, q5⟩ := hW; go_simp⟩) hHeld ?_
              try simp only [Act.put, List.setIfInBounds_toArray, List.set_cons_zero, List.set_cons_succ]
              refine wpAnyH_take (i := 3) (oi := ⟨_, _, _, _, _, _⟩) (v := .int .i64 (TL : Int)) rfl (by kernel_rfl) (by kernel_rfl) (by kernel_rfl) (fun _ _ _ h => h) (Or.inl ⟨by rfl, fun W hW => by obtain ⟨q0, q1, q2, q3, q4, q5⟩ := hW; go_simp⟩) hHeld ?_
              try simp only [Act.put, List.setIfInBounds_toArray, List.set_cons_zero, List.set_cons_succ]
              refine wpAnyH_take (i := 4) (oi := ⟨_, _, _, _, _, _⟩) (v := .bool true) rfl (by kernel_rfl) (by kernel_rfl) (by kernel_rfl) (fun _ _ _ h => h) (Or.inl ⟨by rfl, fun W hW => by obtain ⟨q0, q1, q2, q3, q4, q5⟩ := hW; go_simp⟩) hHeld ?_
              try simp only [Act.put, List.setIfInBounds_toArray, List.set_cons_zero, List.set_cons_succ]
              refine wpAnyH_take (i := 5) (oi := ⟨_, _, _, _, _, _⟩) (v := .bool true) rfl (by kernel_rfl) (by kernel_rfl) (by kernel_rfl) (fun _ _ _ h => h) (Or.inl ⟨by rfl, fun _ _ => rfl⟩) hHeld ?_
              try simp only [Act.put, List.setIfInBounds_toArray, List.set_cons_zero, List.set_cons_succ]
              refine wpAnyH_take (i := 6) (oi := ⟨_, _, _, _, _, _⟩) (v := .pointer (some ⟨p.b, 0, none⟩)) rfl (by kernel_rfl) (by kernel_rfl) (by kernel_rfl) (fun _ _ _ h => h) (Or.inl ⟨by rfl, fun _ _ => rfl⟩) hHeld ?_
              try simp only [Act.put, List.setIfInBounds_toArray, List.set_cons_zero, List.set_cons_succ]
              refine wpAnyH_take (i := 7) (oi := ⟨_, _, _, _, _, _⟩) (v := .agg #[.int .i64 (x.a : Int), .int .i64 (x.b : Int), .int .i64 (x.c : Int), .int .i64 (x.m : Int)]) rfl (by kernel_rfl) (by kernel_rfl) (by kernel_rfl) (fun _ _ _ h => h) (Or.inl ⟨by rfl, fun W hW => by obtain ⟨q0, q1, q2, q3, q4, q5⟩ := hW; go_simp⟩) hHeld ?_
              try simp only [Act.put, List.setIfInBounds_toArray, List.set_cons_zero, List.set_cons_succ]
              refine wpAnyH_take (i := 8) (oi := ⟨_, _, _, _, _, _⟩) (v := u4) rfl (by kernel_rfl) (by kernel_rfl) (by kernel_rfl) (fun _ _ _ h => h) (Or.inl ⟨by rfl, fun _ _ => rfl⟩) hHeld ?_
              try simp only [Act.put, List.setIfInBounds_toArray, List.set_cons_zero, List.set_cons_succ]
              refine wpAnyH_ready (rs := [9]) (by kernel_rfl) (by simp) (AllReadyH.cons (o := ⟨_, _, _, _, _, _⟩) rfl (fun K hK => ?_) AllReadyH.nil)
              rw [if_pos (by rfl)]
              go_simp
              refine (HFR.out _ g.drew).mono ?_
              rintro e wA ⟨rfl, g1⟩
              refine hK.out _ _ (HSF.out _ g1) (fun hHeld => ?_)
              clear hK K
              try simp only [Act.put, List.setIfInBounds_toArray, List.set_cons_zero, List.set_cons_succ]
              refine wpAnyH_take (i := 10) (oi := ⟨_, _, _, _, _, _⟩) (v := .bool true) rfl (by kernel_rfl) (by kernel_rfl) (by kernel_rfl) (fun _ _ _ h => h) (Or.inl ⟨by rfl, fun _ _ => rfl⟩) hHeld ?_
              try simp only [Act.put, List.setIfInBounds_toArray, List.set_cons_zero, List.set_cons_succ]
              refine wpAnyH_take (i := 11) (oi := ⟨_, _, _, _, _, _⟩) (v := .bool true) rfl (by kernel_rfl) (by kernel_rfl) (by kernel_rfl) (fun _ _ _ h => h) (Or.inl ⟨by rfl, fun _ _ => rfl⟩) hHeld ?_
              try simp only [Act.put, List.setIfInBounds_toArray, List.set_cons_zero, List.set_cons_succ]
              refine wpAnyH_take (i := 12) (oi := ⟨_, _, _, _, _, _⟩) (v := .pointer (some ⟨p.b, 0, none⟩)) rfl (by kernel_rfl) (by kernel_rfl) (by kernel_rfl) (fun _ _ _ h => h) (Or.inl ⟨by rfl, fun _ _ => rfl⟩) hHeld ?_
              try simp only [Act.put, List.setIfInBounds_toArray, List.set_cons_zero, List.set_cons_succ]
              refine wpAnyH_take (i := 13) (oi := ⟨_, _, _, _, _, _⟩) (v := .pointer (some ⟨p.b, 0, none⟩)) rfl (by kernel_rfl) (by kernel_rfl) (by kernel_rfl) (fun _ _ _ h => h) (Or.inl ⟨by rfl, fun W hW => by obtain ⟨q0, q1, q2, q3, q4, q5⟩ := hW; go_simp⟩) hHeld ?_
              try simp only [Act.put, List.setIfInBounds_toArray, List.set_cons_zero, List.set_cons_succ]
              refine wpAnyH_take (i := 14) (oi := ⟨_, _, _, _, _, _⟩) (v := .pointer (some ⟨p.b, 0, none⟩)) rfl (by kernel_rfl) (by kernel_rfl) (by kernel_rfl) (fun _ _ _ h => h) (Or.inl ⟨by rfl, fun W hW => by obtain ⟨q0, q1, q2, q3, q4, q5⟩ := hW; go_simp⟩) hHeld ?_
              try simp only [Act.put, List.setIfInBounds_toArray, List.set_cons_zero, List.set_cons_succ]
              refine wpAnyH_take (i := 15) (oi := ⟨_, _, _, _, _, _⟩) (v := .pointer (some ⟨p.tb, 0, none⟩)) rfl (by kernel_rfl) (by kernel_rfl) (by kernel_rfl) (fun _ _ _ h => h) (Or.inl ⟨by rfl, fun W hW => by obtain ⟨q0, q1, q2, q3, q4, q5⟩ := hW; go_simp⟩) hHeld ?_
              try simp only [Act.put, List.setIfInBounds_toArray, List.set_cons_zero, List.set_cons_succ]
              refine wpAnyH_take (i := 16) (oi := ⟨_, _, _, _, _, _⟩) (v := .agg #[.int .i64 (x.a : Int), .int .i64 (x.b : Int), .int .i64 (x.c : Int), .int .i64 (x.m : Int)]) rfl (by kernel_rfl) (by kernel_rfl) (by kernel_rfl) (fun _ _ _ h => h) (Or.inl ⟨by rfl, fun W hW => by obtain ⟨q0, q1, q2, q3, q4, q5⟩ := hW; go_simp⟩) hHeld ?_
              try simp only [Act.put, List.setIfInBounds_toArray, List.set_cons_zero, List.set_cons_succ]
              refine wpAnyH_ready (rs := [17]) (by kernel_rfl) (by simp) (AllReadyH.cons (o := ⟨_, _, _, _, _, _⟩) rfl (fun K hK => ?_) AllReadyH.nil)
              rw [if_pos (by rfl)]
              go_simp
              refine (HPUT.out _ g1).mono ?_
              rintro e wB ⟨rfl, tv2, hV2, hX2, hS2⟩
              refine hK.out _ _ (hS2) (fun hHeld => ?_)
              clear hK K
              try simp only [Act.put, List.setIfInBounds_toArray, List.set_cons_zero, List.set_cons_succ]
              refine wpAnyH_take (i := 18) (oi := ⟨_, _, _, _, _, _⟩) (v := .bool false) rfl (by kernel_rfl) (by kernel_rfl) (by kernel_rfl) (fun _ _ _ h => h) (Or.inl ⟨by rfl, fun W hW => by obtain ⟨q0, q1, q2, q3, q4, q5⟩ := hW; go_simp⟩) hHeld ?_
              try simp only [Act.put, List.setIfInBounds_toArray, List.set_cons_zero, List.set_cons_succ]
              refine wpAnyH_take (i := 19) (oi := ⟨_, _, _, _, _, _⟩) (v := .bool false) rfl (by kernel_rfl) (by kernel_rfl) (by kernel_rfl) (fun _ _ _ h => h) (Or.inl ⟨by rfl, fun _ _ => rfl⟩) hHeld ?_
              try simp only [Act.put, List.setIfInBounds_toArray, List.set_cons_zero, List.set_cons_succ]
              refine wpAnyH_done (by kernel_rfl) ?_ _
              go_wp2_with fail
              go_meet
              exact ⟨false, TR, tv2, rfl, hV2, hX2, .inr ⟨rfl, HST.out⟩⟩
            | true =>
              have hst : serveStep (TR, TL, LL) x = (putR TR x, TL + 1, LL) := by unfold serveStep; rw [if_pos ⟨hmax, hfree, hfit⟩]
              have HST := Lib.hid hst
              have hPut : ∀ W, Below WA.heap.size WA W → Calls Tryd.prog 78 #[.pointer (some ⟨p.tb, 0, none⟩), x.val] W fun e w' => e = .returned (.int .i64 0) ∧ ∃ tv', RV w w' p s (putR TR x, TL, LL) tv' u4 u3 n ∧ HX w' wr.heap.size x ∧ (w'.cell? ⟨p.b, 0, none⟩ = some (.pointer (some ⟨p.tb, 0, none⟩)) ∧ w'.cell? ⟨p.b, 3, none⟩ = some (.int .i64 (TL : Int)) ∧ w'.cell? ⟨wr.heap.size, 0, none⟩ = some (.int .i64 (x.a : Int)) ∧ w'.cell? ⟨wr.heap.size, 1, none⟩ = some (.int .i64 (x.b : Int)) ∧ w'.cell? ⟨wr.heap.size, 2, none⟩ = some (.int .i64 (x.c : Int)) ∧ w'.cell? ⟨wr.heap.size, 3, none⟩ = some (.int .i64 (x.m : Int))) := fun W hW => by
                have hVW := HVA.out.below hW
                have hXW := HXA.out.below hW
                refine (rput_any hVW.svc.tab HF1.out x HOK.out (by rw [agB_met]; exact HAG.out)).mono ?_
                rintro e w' (⟨-, rfl, tv', h2, h3, h4⟩ | ⟨h1, -⟩)
                · have hV2 := hVW.turn h2 h3 fun k hk => .inl (h4 k hk)
                  have hX2 := hXW.keep h3.size (h3.block _ hXW.lt (HNTB.out))
                  exact ⟨rfl, _, hV2, hX2, hV2.svc.c0, hV2.svc.c3, hX2.cell⟩
                · rw [hfit] at h1; cases h1
              have HPUT := Lib.hid hPut
              unfold Hd.val at HPUT
              clear hfree hfit hst hPut hmax
              refine wp_region_held_drew (S := (fun w' => w'.cell? ⟨p.b, 0, none⟩ = some (.pointer (some ⟨p.tb, 0, none⟩)) ∧ w'.cell? ⟨p.b, 3, none⟩ = some (.int .i64 (TL : Int)) ∧ w'.cell? ⟨wr.heap.size, 0, none⟩ = some (.int .i64 (x.a : Int)) ∧ w'.cell? ⟨wr.heap.size, 1, none⟩ = some (.int .i64 (x.b : Int)) ∧ w'.cell? ⟨wr.heap.size, 2, none⟩ = some (.int .i64 (x.c : Int)) ∧ w'.cell? ⟨wr.heap.size, 3, none⟩ = some (.int .i64 (x.m : Int)))) (by kernel_rfl) hz0 (fun hHeld => ?_)
              refine wpAnyH_take (i := 0) (oi := ⟨_, _, _, _, _, _⟩) (v := .pointer (some ⟨p.b, 0, none⟩)) rfl (by kernel_rfl) (by kernel_rfl) (by kernel_rfl) (fun _ _ _ h => h) (Or.inl ⟨by rfl, fun _ _ => rfl⟩) hHeld ?_
              try simp only [Act.put, List.setIfInBounds_toArray, List.set_cons_zero, List.set_cons_succ]
              refine wpAnyH_take (i := 1) (oi := ⟨_, _, _, _, _, _⟩) (v := .pointer (some ⟨p.b, 0, none⟩)) rfl (by kernel_rfl) (by kernel_rfl) (by kernel_rfl) (fun _ _ _ h => h) (Or.inl ⟨by rfl, fun W hW => by obtain ⟨q0, q1, q2, q3, q4, q5⟩ := hW; go_simp⟩) hHeld ?_
              try simp only [Act.put, List.setIfInBounds_toArray, List.set_cons_zero, List.set_cons_succ]
              refine wpAnyH_take (i := 2) (oi := ⟨_, _, _, _, _, _⟩) (v := .pointer (some ⟨p.b, 3, none⟩)) rfl (by kernel_rfl) (by kernel_rfl) (by kernel_rfl) (fun _ _ _ h => h) (Or.inl ⟨by rfl, fun W hW => by obtain ⟨q0, q1, q2, q3, q4, q5⟩ := hW; go_simp⟩) hHeld ?_
              try simp only [Act.put, List.setIfInBounds_toArray, List.set_cons_zero, List.set_cons_succ]
              refine wpAnyH_take (i := 3) (oi := ⟨_, _, _, _, _, _⟩) (v := .int .i64 (TL : Int)) rfl (by kernel_rfl) (by kernel_rfl) (by kernel_rfl) (fun _ _ _ h => h) (Or.inl ⟨by rfl, fun W hW => by obtain ⟨q0, q1, q2, q3, q4, q5⟩ := hW; go_simp⟩) hHeld ?_
              try simp only [Act.put, List.setIfInBounds_toArray, List.set_cons_zero, List.set_cons_succ]
              refine wpAnyH_take (i := 4) (oi := ⟨_, _, _, _, _, _⟩) (v := .bool true) rfl (by kernel_rfl) (by kernel_rfl) (by kernel_rfl) (fun _ _ _ h => h) (Or.inl ⟨by rfl, fun W hW => by obtain ⟨q0, q1, q2, q3, q4, q5⟩ := hW; go_simp⟩) hHeld ?_
              try simp only [Act.put, List.setIfInBounds_toArray, List.set_cons_zero, List.set_cons_succ]
              refine wpAnyH_take (i := 5) (oi := ⟨_, _, _, _, _, _⟩) (v := .bool true) rfl (by kernel_rfl) (by kernel_rfl) (by kernel_rfl) (fun _ _ _ h => h) (Or.inl ⟨by rfl, fun _ _ => rfl⟩) hHeld ?_
              try simp only [Act.put, List.setIfInBounds_toArray, List.set_cons_zero, List.set_cons_succ]
              refine wpAnyH_take (i := 6) (oi := ⟨_, _, _, _, _, _⟩) (v := .pointer (some ⟨p.b, 0, none⟩)) rfl (by kernel_rfl) (by kernel_rfl) (by kernel_rfl) (fun _ _ _ h => h) (Or.inl ⟨by rfl, fun _ _ => rfl⟩) hHeld ?_
              try simp only [Act.put, List.setIfInBounds_toArray, List.set_cons_zero, List.set_cons_succ]
              refine wpAnyH_take (i := 7) (oi := ⟨_, _, _, _, _, _⟩) (v := .agg #[.int .i64 (x.a : Int), .int .i64 (x.b : Int), .int .i64 (x.c : Int), .int .i64 (x.m : Int)]) rfl (by kernel_rfl) (by kernel_rfl) (by kernel_rfl) (fun _ _ _ h => h) (Or.inl ⟨by rfl, fun W hW => by obtain ⟨q0, q1, q2, q3, q4, q5⟩ := hW; go_simp⟩) hHeld ?_
              try simp only [Act.put, List.setIfInBounds_toArray, List.set_cons_zero, List.set_cons_succ]
              refine wpAnyH_take (i := 8) (oi := ⟨_, _, _, _, _, _⟩) (v := u4) rfl (by kernel_rfl) (by kernel_rfl) (by kernel_rfl) (fun _ _ _ h => h) (Or.inl ⟨by rfl, fun _ _ => rfl⟩) hHeld ?_
              try simp only [Act.put, List.setIfInBounds_toArray, List.set_cons_zero, List.set_cons_succ]
              refine wpAnyH_ready (rs := [9]) (by kernel_rfl) (by simp) (AllReadyH.cons (o := ⟨_, _, _, _, _, _⟩) rfl (fun K hK => ?_) AllReadyH.nil)
              rw [if_pos (by rfl)]
              go_simp
              refine (HFR.out _ g.drew).mono ?_
              rintro e wA ⟨rfl, g1⟩
              refine hK.out _ _ (HSF.out _ g1) (fun hHeld => ?_)
              clear hK K
              try simp only [Act.put, List.setIfInBounds_toArray, List.set_cons_zero, List.set_cons_succ]
              refine wpAnyH_take (i := 10) (oi := ⟨_, _, _, _, _, _⟩) (v := .bool true) rfl (by kernel_rfl) (by kernel_rfl) (by kernel_rfl) (fun _ _ _ h => h) (Or.inl ⟨by rfl, fun _ _ => rfl⟩) hHeld ?_
              try simp only [Act.put, List.setIfInBounds_toArray, List.set_cons_zero, List.set_cons_succ]
              refine wpAnyH_take (i := 11) (oi := ⟨_, _, _, _, _, _⟩) (v := .bool true) rfl (by kernel_rfl) (by kernel_rfl) (by kernel_rfl) (fun _ _ _ h => h) (Or.inl ⟨by rfl, fun _ _ => rfl⟩) hHeld ?_
              try simp only [Act.put, List.setIfInBounds_toArray, List.set_cons_zero, List.set_cons_succ]
              refine wpAnyH_take (i := 12) (oi := ⟨_, _, _, _, _, _⟩) (v := .pointer (some ⟨p.b, 0, none⟩)) rfl (by kernel_rfl) (by kernel_rfl) (by kernel_rfl) (fun _ _ _ h => h) (Or.inl ⟨by rfl, fun _ _ => rfl⟩) hHeld ?_
              try simp only [Act.put, List.setIfInBounds_toArray, List.set_cons_zero, List.set_cons_succ]
              refine wpAnyH_take (i := 13) (oi := ⟨_, _, _, _, _, _⟩) (v := .pointer (some ⟨p.b, 0, none⟩)) rfl (by kernel_rfl) (by kernel_rfl) (by kernel_rfl) (fun _ _ _ h => h) (Or.inl ⟨by rfl, fun W hW => by obtain ⟨q0, q1, q2, q3, q4, q5⟩ := hW; go_simp⟩) hHeld ?_
              try simp only [Act.put, List.setIfInBounds_toArray, List.set_cons_zero, List.set_cons_succ]
              refine wpAnyH_take (i := 14) (oi := ⟨_, _, _, _, _, _⟩) (v := .pointer (some ⟨p.b, 0, none⟩)) rfl (by kernel_rfl) (by kernel_rfl) (by kernel_rfl) (fun _ _ _ h => h) (Or.inl ⟨by rfl, fun W hW => by obtain ⟨q0, q1, q2, q3, q4, q5⟩ := hW; go_simp⟩) hHeld ?_
              try simp only [Act.put, List.setIfInBounds_toArray, List.set_cons_zero, List.set_cons_succ]
              refine wpAnyH_take (i := 15) (oi := ⟨_, _, _, _, _, _⟩) (v := .pointer (some ⟨p.tb, 0, none⟩)) rfl (by kernel_rfl) (by kernel_rfl) (by kernel_rfl) (fun _ _ _ h => h) (Or.inl ⟨by rfl, fun W hW => by obtain ⟨q0, q1, q2, q3, q4, q5⟩ := hW; go_simp⟩) hHeld ?_
              try simp only [Act.put, List.setIfInBounds_toArray, List.set_cons_zero, List.set_cons_succ]
              refine wpAnyH_take (i := 16) (oi := ⟨_, _, _, _, _, _⟩) (v := .agg #[.int .i64 (x.a : Int), .int .i64 (x.b : Int), .int .i64 (x.c : Int), .int .i64 (x.m : Int)]) rfl (by kernel_rfl) (by kernel_rfl) (by kernel_rfl) (fun _ _ _ h => h) (Or.inl ⟨by rfl, fun W hW => by obtain ⟨q0, q1, q2, q3, q4, q5⟩ := hW; go_simp⟩) hHeld ?_
              try simp only [Act.put, List.setIfInBounds_toArray, List.set_cons_zero, List.set_cons_succ]
              refine wpAnyH_ready (rs := [17]) (by kernel_rfl) (by simp) (AllReadyH.cons (o := ⟨_, _, _, _, _, _⟩) rfl (fun K hK => ?_) AllReadyH.nil)
              rw [if_pos (by rfl)]
              go_simp
              refine (HPUT.out _ g1).mono ?_
              rintro e wB ⟨rfl, tv2, hV2, hX2, hS2⟩
              refine hK.out _ _ (hS2) (fun hHeld => ?_)
              clear hK K
              try simp only [Act.put, List.setIfInBounds_toArray, List.set_cons_zero, List.set_cons_succ]
              refine wpAnyH_take (i := 18) (oi := ⟨_, _, _, _, _, _⟩) (v := .bool true) rfl (by kernel_rfl) (by kernel_rfl) (by kernel_rfl) (fun _ _ _ h => h) (Or.inl ⟨by rfl, fun W hW => by obtain ⟨q0, q1, q2, q3, q4, q5⟩ := hW; go_simp⟩) hHeld ?_
              try simp only [Act.put, List.setIfInBounds_toArray, List.set_cons_zero, List.set_cons_succ]
              refine wpAnyH_take (i := 19) (oi := ⟨_, _, _, _, _, _⟩) (v := .bool true) rfl (by kernel_rfl) (by kernel_rfl) (by kernel_rfl) (fun _ _ _ h => h) (Or.inl ⟨by rfl, fun _ _ => rfl⟩) hHeld ?_
              try simp only [Act.put, List.setIfInBounds_toArray, List.set_cons_zero, List.set_cons_succ]
              refine wpAnyH_done (by kernel_rfl) ?_ _
              go_wp2_with fail
              go_meet
              exact ⟨true, putR TR x, tv2, rfl, hV2, hX2, .inl ⟨rfl, HST.out⟩⟩
        · have e1 : decide ((TL : Int) < 1099511627776) = false := by simp; omega
          have hst : serveStep (TR, TL, LL) x = (TR, TL, LL ++ [x]) := by unfold serveStep; rw [if_neg (fun h => hmax h.1)]
          have HST := Lib.hid hst
          clear hmax hst
          go_quiet (fail)
          go_wp2_with fail
          go_meet
          exact ⟨false, TR, tv, rfl, HVA.out.below (below_drewN (Below.refl _ _) _), HXA.out.below (below_drewN (Below.refl _ _) _), .inr ⟨rfl, HST.out⟩⟩
      case rest =>
        obtain ⟨B, R', tv', rfl, hV, hX, hst⟩ := hcut
        clear HVA HXA
        cases B with
        | true =>
          have hst2 : serveStep (TR, TL, LL) x = (R', TL + 1, LL) := by
            rcases hst with ⟨-, h⟩ | ⟨h, -⟩
            · exact h
            · cases h
          have HST := Lib.hid (HN.out.trans hst2)
          have c3 := hV.svc.c3
          have f3 := hV.svc.fro 3
          dsimp only at c3 f3
          have hV8 := hV.last (TL + 1)
          have hX8 := hX.keep (w' := wc.setCell ⟨p.b, 3, none⟩ (.int .i64 ((TL + 1 : Nat) : Int))) (by simp) (Below.heap_setCell _ _ _ _ (fun e => HNB.out e))
          obtain ⟨W8, hW8⟩ : ∃ W8, W8 = wc.setCell ⟨p.b, 3, none⟩ (.int .i64 ((TL + 1 : Nat) : Int)) := ⟨_, rfl⟩
          rw [← hW8] at hV8 hX8
          have HV8 := Lib.hid hV8
          have HX8 := Lib.hid hX8
          have HW8 := Lib.hid hW8
          have hw : wrap64 ((TL : Int) + 1) = (TL : Int) + 1 := by unfold wrap64; omega
          clear hst hst2 hV hX hV8 hX8 hW8 HN
          go_upto_region 9 with (fail)
          rw [show wc.setCell ⟨p.b, 3, none⟩ (.int .i64 ((TL : Int) + 1)) = W8 from HW8.out.symm]
          have c3 := HV8.out.svc.c3
          dsimp only at c3
          obtain ⟨x0, x1, x2, x3⟩ := HX8.out.cell
          obtain ⟨gxs, hgo⟩ := HV8.out.g
          obtain ⟨ga, gc, rfl⟩ := row_lens hgo
          have hbD : Below W8.heap.size W8 (W8.drew.alloc (.cells #[.int .i64 ((TL + 1 : Nat) : Int), .int .i64 (x.a : Int), .int .i64 (x.b : Int), .int .i64 (x.c : Int), .int .i64 (x.m : Int)] 193)) := (Below.refl W8.heap.size W8).drew.alloc (Nat.le_refl _) (.cells #[.int .i64 ((TL + 1 : Nat) : Int), .int .i64 (x.a : Int), .int .i64 (x.b : Int), .int .i64 (x.c : Int), .int .i64 (x.m : Int)] 193)
          have hV9 := HV8.out.below hbD
          have hg9 := World.ownsRow.alloc (ownsRow_keep hgo (w' := W8.drew) fun _ _ => rfl) (.cells #[.int .i64 ((TL + 1 : Nat) : Int), .int .i64 (x.a : Int), .int .i64 (x.b : Int), .int .i64 (x.c : Int), .int .i64 (x.m : Int)] 193)
          have hcl : ∀ q u, [Value.int .i64 ((TL + 1 : Nat) : Int), .int .i64 (x.a : Int), .int .i64 (x.b : Int), .int .i64 (x.c : Int), .int .i64 (x.m : Int)][q]? = some u → (W8.drew.alloc (.cells #[.int .i64 ((TL + 1 : Nat) : Int), .int .i64 (x.a : Int), .int .i64 (x.b : Int), .int .i64 (x.c : Int), .int .i64 (x.m : Int)] 193)).cell? ((⟨W8.heap.size, 0, none⟩ : Addr).add q) = some u := fun q u hq => by
            have h9 := World.cell?_alloc_new W8.drew #[.int .i64 ((TL + 1 : Nat) : Int), .int .i64 (x.a : Int), .int .i64 (x.b : Int), .int .i64 (x.c : Int), .int .i64 (x.m : Int)] 193 q
            rw [Addr.add_mid, Nat.zero_add]
            exact h9.trans (by simpa using hq)
          have hz9 : (W8.drew.cell? ⟨p.b, 3, none⟩ = some (.int .i64 ((TL + 1 : Nat) : Int)) ∧ W8.drew.cell? ⟨wr.heap.size, 0, none⟩ = some (.int .i64 (x.a : Int)) ∧ W8.drew.cell? ⟨wr.heap.size, 1, none⟩ = some (.int .i64 (x.b : Int)) ∧ W8.drew.cell? ⟨wr.heap.size, 2, none⟩ = some (.int .i64 (x.c : Int)) ∧ W8.drew.cell? ⟨wr.heap.size, 3, none⟩ = some (.int .i64 (x.m : Int))) := ⟨c3, x0, x1, x2, x3⟩
          have hxa := HX8.out.below hbD
          have HZA : Hid (((W8.drew.alloc (.cells #[.int .i64 ((TL + 1 : Nat) : Int), .int .i64 (x.a : Int), .int .i64 (x.b : Int), .int .i64 (x.c : Int), .int .i64 (x.m : Int)] 193)).cell? ⟨p.b, 3, none⟩ = some (.int .i64 ((TL + 1 : Nat) : Int)) ∧ (W8.drew.alloc (.cells #[.int .i64 ((TL + 1 : Nat) : Int), .int .i64 (x.a : Int), .int .i64 (x.b : Int), .int .i64 (x.c : Int), .int .i64 (x.m : Int)] 193)).cell? ⟨wr.heap.size, 0, none⟩ = some (.int .i64 (x.a : Int)) ∧ (W8.drew.alloc (.cells #[.int .i64 ((TL + 1 : Nat) : Int), .int .i64 (x.a : Int), .int .i64 (x.b : Int), .int .i64 (x.c : Int), .int .i64 (x.m : Int)] 193)).cell? ⟨wr.heap.size, 1, none⟩ = some (.int .i64 (x.b : Int)) ∧ (W8.drew.alloc (.cells #[.int .i64 ((TL + 1 : Nat) : Int), .int .i64 (x.a : Int), .int .i64 (x.b : Int), .int .i64 (x.c : Int), .int .i64 (x.m : Int)] 193)).cell? ⟨wr.heap.size, 2, none⟩ = some (.int .i64 (x.c : Int)) ∧ (W8.drew.alloc (.cells #[.int .i64 ((TL + 1 : Nat) : Int), .int .i64 (x.a : Int), .int .i64 (x.b : Int), .int .i64 (x.c : Int), .int .i64 (x.m : Int)] 193)).cell? ⟨wr.heap.size, 3, none⟩ = some (.int .i64 (x.m : Int)))) := Lib.hid ⟨hV9.svc.c3, hxa.cell⟩
          have HXA9 := Lib.hid hxa
          have hbs : w.heap.size ≤ (W8.drew.alloc (.cells #[.int .i64 ((TL + 1 : Nat) : Int), .int .i64 (x.a : Int), .int .i64 (x.b : Int), .int .i64 (x.c : Int), .int .i64 (x.m : Int)] 193)).heap.size := hV9.mv.size
          have HV9 := Lib.hid hV9
          have Hg9 := Lib.hid hg9
          have Hcl := Lib.hid hcl
          have HBS := Lib.hid hbs
          clear hgo hbD hV9 hg9 hcl hbs hxa
          refine wp_region_held_drew (S := (fun w' => w'.cell? ⟨p.b, 3, none⟩ = some (.int .i64 ((TL + 1 : Nat) : Int)) ∧ w'.cell? ⟨wr.heap.size, 0, none⟩ = some (.int .i64 (x.a : Int)) ∧ w'.cell? ⟨wr.heap.size, 1, none⟩ = some (.int .i64 (x.b : Int)) ∧ w'.cell? ⟨wr.heap.size, 2, none⟩ = some (.int .i64 (x.c : Int)) ∧ w'.cell? ⟨wr.heap.size, 3, none⟩ = some (.int .i64 (x.m : Int)))) (by kernel_rfl) hz9 (fun hHeld => ?_)
          refine wpAnyH_take (i := 0) (oi := ⟨_, _, _, _, _, _⟩) (v := .slice ga n gc) rfl (by kernel_rfl) (by kernel_rfl) (by kernel_rfl) (fun _ _ _ h => h) (Or.inl ⟨by rfl, fun _ _ => rfl⟩) hHeld ?_
          try simp only [Act.put, List.setIfInBounds_toArray, List.set_cons_zero, List.set_cons_succ]
          refine wpAnyH_take (i := 1) (oi := ⟨_, _, _, _, _, _⟩) (v := .pointer (some ⟨p.b, 0, none⟩)) rfl (by kernel_rfl) (by kernel_rfl) (by kernel_rfl) (fun _ _ _ h => h) (Or.inl ⟨by rfl, fun _ _ => rfl⟩) hHeld ?_
          try simp only [Act.put, List.setIfInBounds_toArray, List.set_cons_zero, List.set_cons_succ]
          refine wpAnyH_take (i := 2) (oi := ⟨_, _, _, _, _, _⟩) (v := .pointer (some ⟨p.b, 0, none⟩)) rfl (by kernel_rfl) (by kernel_rfl) (by kernel_rfl) (fun _ _ _ h => h) (Or.inl ⟨by rfl, fun W hW => by obtain ⟨q0, q1, q2, q3, q4⟩ := hW; go_simp⟩) hHeld ?_
          try simp only [Act.put, List.setIfInBounds_toArray, List.set_cons_zero, List.set_cons_succ]
          refine wpAnyH_take (i := 3) (oi := ⟨_, _, _, _, _, _⟩) (v := .pointer (some ⟨p.b, 3, none⟩)) rfl (by kernel_rfl) (by kernel_rfl) (by kernel_rfl) (fun _ _ _ h => h) (Or.inl ⟨by rfl, fun W hW => by obtain ⟨q0, q1, q2, q3, q4⟩ := hW; go_simp⟩) hHeld ?_
          try simp only [Act.put, List.setIfInBounds_toArray, List.set_cons_zero, List.set_cons_succ]
          refine wpAnyH_take (i := 4) (oi := ⟨_, _, _, _, _, _⟩) (v := .int .i64 ((TL + 1 : Nat) : Int)) rfl (by kernel_rfl) (by kernel_rfl) (by kernel_rfl) (fun _ _ _ h => h) (Or.inl ⟨by rfl, fun W hW => by obtain ⟨q0, q1, q2, q3, q4⟩ := hW; go_simp⟩) hHeld ?_
          try simp only [Act.put, List.setIfInBounds_toArray, List.set_cons_zero, List.set_cons_succ]
          refine wpAnyH_take (i := 5) (oi := ⟨_, _, _, _, _, _⟩) (v := .agg #[.int .i64 (x.a : Int), .int .i64 (x.b : Int), .int .i64 (x.c : Int), .int .i64 (x.m : Int)]) rfl (by kernel_rfl) (by kernel_rfl) (by kernel_rfl) (fun _ _ _ h => h) (Or.inl ⟨by rfl, fun W hW => by obtain ⟨q0, q1, q2, q3, q4⟩ := hW; go_simp⟩) hHeld ?_
          try simp only [Act.put, List.setIfInBounds_toArray, List.set_cons_zero, List.set_cons_succ]
          refine wpAnyH_take (i := 6) (oi := ⟨_, _, _, _, _, _⟩) (v := .agg #[.int .i64 ((TL + 1 : Nat) : Int), .int .i64 (x.a : Int), .int .i64 (x.b : Int), .int .i64 (x.c : Int), .int .i64 (x.m : Int)]) rfl (by kernel_rfl) (by kernel_rfl) (by kernel_rfl) (fun _ _ _ h => h) (Or.inl ⟨by rfl, fun W hW => by obtain ⟨q0, q1, q2, q3, q4⟩ := hW; go_simp⟩) hHeld ?_
          try simp only [Act.put, List.setIfInBounds_toArray, List.set_cons_zero, List.set_cons_succ]
          refine wpAnyH_ready (rs := [7]) (by kernel_rfl) (by simp) (AllReadyH.cons (o := ⟨_, _, _, _, _, _⟩) rfl (fun K hK => ?_) AllReadyH.nil)
          rw [if_pos (by rfl)]
          refine wp_buildSlice_one 117 193 (.tmp 59) rfl [.int .i64 ((TL + 1 : Nat) : Int), .int .i64 (x.a : Int), .int .i64 (x.b : Int), .int .i64 (x.c : Int), .int .i64 (x.m : Int)] _ Tryd.underlying117 Tryd.infoGrantR2 (by show 0 < 5; decide) (by show 5 ≤ _; decide) rfl ?_
          refine hK.out _ _ HZA.out (fun hHeld => ?_)
          clear hK K
          try simp only [Act.put, List.setIfInBounds_toArray, List.set_cons_zero, List.set_cons_succ]
          refine wpAnyH_ready (rs := [8]) (by kernel_rfl) (by simp) (AllReadyH.cons (o := ⟨_, _, _, _, _, _⟩) rfl (fun K hK => ?_) AllReadyH.nil)
          refine step_append_lies _ rfl (.tmp 53) (.tmp 60) 117 rfl w.heap.size 193 j0 _ 5 40 Tryd.underlying117 Gi.out Gz.out Gz1.out Gz2.out rfl (by decide) _ n gxs rfl Hg9.out ⟨W8.heap.size, 0, none⟩ 1 1 [.int .i64 ((TL + 1 : Nat) : Int), .int .i64 (x.a : Int), .int .i64 (x.b : Int), .int .i64 (x.c : Int), .int .i64 (x.m : Int)] rfl rfl Hcl.out (by simp [Value.oneCell']) (by decide) (by unfold maxLen; omega) (by omega) HBS.out _ rfl ?_
          intro gq gcap w5 hown5 hgrow hob _
          have hV5 := HV9.out.grants hgrow hown5 (by rcases hob with h1 | h1; exact .inl (show some gq = _ from h1.symm); exact .inr (show some gq = _ by rw [h1]))
          have hx5 := HXA9.out.keep hgrow.size (hgrow.block _ HXA9.out.lt (fun e => absurd (HGW.out _ e.symm) (Nat.lt_irrefl _)))
          have HV5 := Lib.hid hV5
          have c35 := hV5.svc.c3
          refine hK.out _ _ ⟨c35, hx5.cell⟩ (fun hHeld => ?_)
          clear hK K hgrow hown5 hob hV5 HV9 hx5 c35
          try simp only [Act.put, List.setIfInBounds_toArray, List.set_cons_zero, List.set_cons_succ]
          refine wpAnyH_take (i := 9) (oi := ⟨_, _, _, _, _, _⟩) (v := .slice (some ⟨gq, 0, none⟩) (n + 1) gcap) rfl (by kernel_rfl) (by kernel_rfl) (by kernel_rfl) (fun _ _ _ h => h) (Or.inl ⟨by rfl, fun _ _ => rfl⟩) hHeld ?_
          try simp only [Act.put, List.setIfInBounds_toArray, List.set_cons_zero, List.set_cons_succ]
          refine wpAnyH_done (by kernel_rfl) ?_ _
          go_wp2_with fail
          go_roundw
          case rel => exact ⟨j + 1, n + 1, tv', by omega, by omega, by go_num, by rw [HST.out]; exact HV5.out⟩
          case measure => simp [intOf]; omega
        | false =>
          have hst2 : serveStep (TR, TL, LL) x = (R', TL, LL ++ [x]) := by
            rcases hst with ⟨h, -⟩ | ⟨-, h⟩
            · cases h
            · exact h
          have HST := Lib.hid (HN.out.trans hst2)
          obtain ⟨x0, x1, x2, x3⟩ := hX.cell
          obtain ⟨la, lcap, rfl⟩ := row_lens (show wc.ownsRow w.heap.size 57 4 u4 LL.length (hrows LL) from hV.left)
          have hV9 := hV.below ((Below.refl wc.heap.size wc).alloc (Nat.le_refl _) (.cells #[.int .i64 (x.a : Int), .int .i64 (x.b : Int), .int .i64 (x.c : Int), .int .i64 (x.m : Int)] 57))
          have hcl : ∀ q u, (Hd.cells x)[q]? = some u → (wc.alloc (.cells #[.int .i64 (x.a : Int), .int .i64 (x.b : Int), .int .i64 (x.c : Int), .int .i64 (x.m : Int)] 57)).cell? ((⟨wc.heap.size, 0, none⟩ : Addr).add q) = some u := fun q u hq => by
            rw [Addr.add_mid, Nat.zero_add, World.cell?_alloc_new]
            simpa [Hd.cells] using hq
          have hbs : w.heap.size ≤ (wc.alloc (.cells #[.int .i64 (x.a : Int), .int .i64 (x.b : Int), .int .i64 (x.c : Int), .int .i64 (x.m : Int)] 57)).heap.size := hV9.mv.size
          have HV9 := Lib.hid hV9
          have Hcl := Lib.hid hcl
          have HBS := Lib.hid hbs
          clear hst hst2 hV hX hV9 hcl hbs HN
          go_wp2_with (refine wpList_append_own_at _ rfl (.tmp 62) (.tmp 64) 47 rfl w.heap.size 57 i0 _ 4 32 Tryd.underlying47 Hi.out Hz.out Hz1.out Hz2.out rfl (by decide) _ LL.length (hrows LL) rfl HV9.out.left ⟨wc.heap.size, 0, none⟩ 1 1 (Hd.cells x) rfl rfl Hcl.out (one_hcells _) (by unfold maxLen; omega) (by omega) HBS.out ?_)
          intro v5 w5 hown5 hgrow _ hob
          have hV5 := HV9.out.more (L := LL ++ [x]) hgrow (by rw [List.length_append, hrows_app]; simpa [hrows] using hown5) (by rw [World.size_alloc]; exact hob)
          have HV5 := Lib.hid hV5
          clear hgrow hown5 hob hV5 HV9
          go_wp2_with fail
          go_roundw
          case rel => exact ⟨j + 1, n, tv', by omega, by omega, by go_num, by rw [HST.out]; exact HV5.out⟩
          case measure => simp [intOf]; omega
    · have ej : j = s.wait.length := by omega
      have e0 : decide ((j : Int) < (s.wait.length : Int)) = false := by simp; omega
      rw [ej, List.take_length] at hV
      have hsv : s.serve = ⟨(s.wait.foldl serveStep (s.R, s.last, [])).1, s.B, (s.wait.foldl serveStep (s.R, s.last, [])).2.2, (s.wait.foldl serveStep (s.R, s.last, [])).2.1, s.by'⟩ := rfl
      generalize s.wait.foldl serveStep (s.R, s.last, []) = t at hV hsv
      obtain ⟨TR, TL, LL⟩ := t
      dsimp only at hsv
      obtain ⟨la, lcap, rfl⟩ := row_lens hV.left
      obtain ⟨gxs, hgo⟩ := hV.g
      obtain ⟨ga, gc, rfl⟩ := row_lens hgo
      have c2 := hV.svc.c2
      have f2 := hV.svc.fro 2
      rw [show ({ p with tv := tv } : RP).wv = .slice wa s.wait.length wc0 from HWV.out] at c2
      dsimp only at c2 f2
      have hfin := hV.svc.waits (ownsRow_base hV.left fun _ _ => Nat.zero_le _) (fun k hk => ⟨fun e => hV.sl k hk (.inl e), fun e => hV.sl k hk (.inr (.inl e)), fun e => hV.sl k hk (.inr (.inr (.inl e))), fun e => hV.sl k hk (.inr (.inr (.inr (.inl e)))), fun e => hV.sl k hk (.inr (.inr (.inr (.inr (.inr e)))))⟩)
      have hmf := hV.mv.setCell ⟨p.b, 2, none⟩ (.slice la LL.length lcap) (.inl (.inl rfl))
      have HOWN : Hid (∀ k, tv.ownBlock = some k ∨ (Value.slice la LL.length lcap).ownBlock = some k → w.heap.size ≤ k ∨ p.tv.ownBlock = some k ∨ p.wv.ownBlock = some k) := Lib.hid (fun k hk => by
        rcases hk with hk | hk
        · rcases hV.tw k hk with h1 | h1
          · exact .inl h1
          · exact .inr (.inl h1)
        · exact .inl (hV.left.lt k hk).1)
      have HSV := Lib.hid hsv
      have HF := Lib.hid hfin
      have HMF := Lib.hid hmf
      clear hV hgo hsv hfin hmf ej
      go_wp2_with fail
      go_ret
      rw [HSV.out]
      exact ⟨⟨_, _, _, rfl⟩, tv, _, HF.out, HMF.out, HOWN.out⟩
end
end Go.Proofs.YtfjfkmoofmncnaaDoor
