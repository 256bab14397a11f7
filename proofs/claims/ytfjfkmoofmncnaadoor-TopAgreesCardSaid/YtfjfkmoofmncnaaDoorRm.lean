/- The reference's methods: turns of a method's world; ask. -/
import Derived.Test.YtfjfkmoofmncnaaDoorRl
namespace Go.Proofs.YtfjfkmoofmncnaaDoor
open Go.RowKit
section
variable {w X X' : World} {p : RP} {tv wv tv' wv' : Value} {s s' : GS} {c : Cm}
theorem RM.tabs (h : RM w X p tv wv s c) {R : Nat → Nat → Nat} (hT : IsRT X' p.tb tv' (holdsOf R)) (hm : Moves (fun k => k = p.tb) X X') (hn : ∀ k, tv'.ownBlock = some k → X.heap.size ≤ k ∨ tv.ownBlock = some k) : RM w X' p tv' wv { s with R := R } c :=
  h.next (h.svc.tabs hT hm hn) (hm.mono fun _ _ e => .inr (.inl e)) fun k hk => by
    rcases hk with hk | hk
    · rcases hn k hk with h1 | h1
      · exact .inl (Nat.le_trans h.sz h1)
      · exact .inr (.inl h1)
    · exact .inr (.inr hk)
theorem RM.books (h : RM w X p tv wv s c) {B : Nat → Ent} (hB : IsRB X' p.kb p.gt p.gs p.gd p.ct B) (hm : Moves (fun k => k = p.gt ∨ k = p.gs ∨ k = p.gd) X X') : RM w X' p tv wv { s with B := B } c :=
  h.next (h.svc.books hB hm) (hm.mono fun _ _ e => by rcases e with e | e | e; exact .inr (.inr (.inl e)); exact .inr (.inr (.inr (.inl e))); exact .inr (.inr (.inr (.inr (.inl e))))) fun _ hk => .inr hk
theorem RM.lasts (h : RM w X p tv wv s c) (m : Nat) : RM w (X.setCell ⟨p.b, 3, none⟩ (.int .i64 (m : Int))) p tv wv { s with last := m } c :=
  h.next (h.svc.lasts m) (Moves.setCell (F := fpF p) (Moves.refl _ X) ⟨p.b, 3, none⟩ _ (.inl (.inl rfl))) fun _ hk => .inr hk
theorem RM.bys (h : RM w X p tv wv s c) (i : Nat) (o : Option Nat) : RM w (X.setCell ⟨p.yb, i, none⟩ (.int .i64 (yv o))) p tv wv { s with by' := updO s.by' i o } c :=
  h.next (h.svc.bys i o) (Moves.setCell (F := fpF p) (Moves.refl _ X) ⟨p.yb, i, none⟩ _ (.inl (.inr (.inr (.inr (.inr (.inr rfl))))))) fun _ hk => .inr hk
theorem RM.hx (h : RM w X p tv wv s c) {g : Nat} {x : Hd} (hx : HX X g x) (hg : w.heap.size ≤ g) (hm : Moves (fpF p) X X') : HX X' g x :=
  hx.keep hm.size (hm.block g hx.lt fun e => by have := h.fl g e; omega)
/-- ask's worlds. -/
structure RA (w X : World) (p : RP) (tv wv : Value) (s : GS) (c : Cm) : Prop where
  m : RM w X p tv wv s c
  x : HX X (w.heap.size + 2) c.hd
theorem RA.below (h : RA w X p tv wv s c) (hb : Below X.heap.size X X') : RA w X' p tv wv s c := ⟨h.m.below hb, h.x.below hb⟩
theorem RA.grown (h : RA w X p p.tv p.wv s c) (h0 : IsRS w p s') {B n : Nat} {e : TypeId} {z : Nat} {v : Value} {xs : List Value} (hr : X.ownsRow B e z v n xs) (hB : w.heap.size + 3 ≤ B) (hg : X.grownBy X' v.ownBlock) : RA w X' p p.tv p.wv s c :=
  ⟨h.m.grown h0 hr (by omega) hg, h.x.keep hg.size (hg.block _ h.x.lt fun e => by have := (hr.lt _ e.symm).1; omega)⟩
theorem RA.tabs (h : RA w X p tv wv s c) {R : Nat → Nat → Nat} (hT : IsRT X' p.tb tv' (holdsOf R)) (hm : Moves (fun k => k = p.tb) X X') (hn : ∀ k, tv'.ownBlock = some k → X.heap.size ≤ k ∨ tv.ownBlock = some k) : RA w X' p tv' wv { s with R := R } c :=
  ⟨h.m.tabs hT hm hn, h.m.hx h.x (by omega) (hm.mono fun _ _ e => .inr (.inl e))⟩
set_option maxRecDepth 100000 in
set_option maxHeartbeats 8000000 in
theorem rask_any (h : IsRS w p s) (hs : s.Ok) (c : Cm) : Calls Tryd.prog 57 #[.pointer (some ⟨p.b, 0, none⟩), c.val] w (RKPost w p (s.ask c)) := by
  obtain ⟨i0, hi0, hz0, hz1, hz2⟩ := info_parts Tryd.infoHold
  have Hi := Lib.hid hi0
  have Hz := Lib.hid hz0
  have Hz1 := Lib.hid hz1
  have Hz2 := Lib.hid hz2
  clear hi0 hz0 hz1 hz2
  obtain ⟨X1, hX1⟩ : ∃ X1, X1 = ((w.alloc (.cells #[.int .i64 (c.kind : Int), .int .i64 (c.client : Int), .int .i64 (c.seq : Int), .int .i64 (c.now : Int), .int .i64 (c.len : Int), .int .i64 (c.a : Int), .int .i64 (c.b : Int), .int .i64 (c.mode : Int), .int .i64 (c.other : Int)] 114)).alloc (.cells #[.int .i64 0, .int .i64 0, .slice none 0 0, .slice none 0 0, .slice none 0 0] 119)).alloc (.cells #[.int .i64 (c.a : Int), .int .i64 (c.b : Int), .int .i64 (c.client : Int), .int .i64 (c.mode : Int)] 57) := ⟨_, rfl⟩
  have hA1 : RA w X1 p p.tv p.wv s c := by
    rw [hX1]
    have h0 := HX.made ((w.alloc (.cells #[.int .i64 (c.kind : Int), .int .i64 (c.client : Int), .int .i64 (c.seq : Int), .int .i64 (c.now : Int), .int .i64 (c.len : Int), .int .i64 (c.a : Int), .int .i64 (c.b : Int), .int .i64 (c.mode : Int), .int .i64 (c.other : Int)] 114)).alloc (.cells #[.int .i64 0, .int .i64 0, .slice none 0 0, .slice none 0 0, .slice none 0 0] 119)) c.hd 57
    rw [World.size_alloc, World.size_alloc] at h0
    exact ⟨(RM.made h c).below ((Below.refl _ _).alloc (Nat.le_refl _) _), h0⟩
  have HA1 := Lib.hid hA1
  have HX1 := Lib.hid hX1
  have HS := Lib.hid hs
  have H := Lib.hid h
  have h32 := hs.n
  have hcl := fun W => rclient_any (w := W) c.client
  clear hX1 hA1 hs h
  unfold Cm.val
  go_enter Tryd.func57, Tryd.ntmps57
  go_upto_region 2 with (fail)
  rw [← HX1.out]
  obtain ⟨B1, hB1⟩ : ∃ B1, B1 = (!decide (c.client < 8) || (!decide (c.mode = 1) && !decide (c.mode = 2))) := ⟨_, rfl⟩
  have HB1 := Lib.hid hB1
  clear hB1 HX1
  go_cut [29] from 16 to 29 (fun s29 wx => s29 = .bool B1 ∧ wx = X1)
  case first =>
    have x1 := HA1.out.m.cb 1 _ rfl
    have x7 := HA1.out.m.cb 7 _ rfl
    have hcs : (decide (c.client < 8) = false ∧ B1 = true) ∨ (decide (c.client < 8) = true ∧ ((c.mode : Int) != 1) = false ∧ B1 = false) ∨ (decide (c.client < 8) = true ∧ ((c.mode : Int) != 1) = true ∧ ((c.mode : Int) != 2) = false ∧ B1 = false) ∨ (decide (c.client < 8) = true ∧ ((c.mode : Int) != 1) = true ∧ ((c.mode : Int) != 2) = true ∧ B1 = true) := by
      rw [HB1.out]
      by_cases h1 : c.client < 8
      · by_cases h2 : c.mode = 1
        · right; left; exact ⟨decide_eq_true h1, by simp [h2], by simp [h1, h2]⟩
        · by_cases h3 : c.mode = 2
          · right; right; left; exact ⟨decide_eq_true h1, by simp; omega, by simp [h3], by simp [h1, h3]⟩
          · right; right; right; exact ⟨decide_eq_true h1, by simp; omega, by simp; omega, by simp [h1, h2, h3]⟩
      · left; exact ⟨decide_eq_false h1, by simp [h1]⟩
    rcases hcs with ⟨t1, tt⟩ | ⟨t1, t2, tt⟩ | ⟨t1, t2, t3, tt⟩ | ⟨t1, t2, t3, tt⟩
    all_goals
      rw [t1] at hcl
      have TT := Lib.hid tt
      clear tt t1
      go_wp2_with (go_at_call 58; refine (hcl _).mono ?_; clear hcl; rintro e w1 ⟨rfl, rfl⟩)
      go_meet
      exact ⟨by rw [TT.out], rfl⟩
  case rest =>
    obtain ⟨rfl, rfl⟩ := hcut
    clear hcl
    have HM1 := Lib.hid HA1.out.m
    cases B1 with
    | true =>
      have hk : s.ask c = s := by unfold GS.ask; rw [if_neg (fun h => by
        have e := HB1.out
        rw [decide_eq_true h.1] at e
        rcases h.2.1 with h2 | h2 <;> simp [h2] at e)]
      have HK := Lib.hid hk
      clear hk
      obtain ⟨u0, r0⟩ := HM1.out.r 0 (by omega)
      obtain ⟨u1, r1⟩ := HM1.out.r 1 (by omega)
      obtain ⟨u2, r2⟩ := HM1.out.r 2 (by omega)
      obtain ⟨u3, r3⟩ := HM1.out.r 3 (by omega)
      obtain ⟨u4, r4⟩ := HM1.out.r 4 (by omega)
      have p0 := HM1.out.rf 0
      have p1 := HM1.out.rf 1
      have p2 := HM1.out.rf 2
      have p3 := HM1.out.rf 3
      have p4 := HM1.out.rf 4
      go_wp2_with fail
      obtain ⟨z0, z1, z2, z3, z4⟩ := set5_cells (B := w.heap.size + 1) (.int .i64 1) (.int .i64 0) (.slice none 0 0) (.slice none 0 0) (.slice none 0 0) HM1.out.r
      refine bodyPost_ret (v := .agg #[.int .i64 1, .int .i64 0, .slice none 0 0, .slice none 0 0, .slice none 0 0]) (by simp [results, Tryd.results57, go_sem, z0, z1, z2, z3, z4]) rfl ?_
      rw [HK.out]
      exact HM1.out.fin _ _ _ _ _ rfl (ansv _ _ _ _ _ _ _ _ _ _ _)
    | false =>
      have hgood : c.client < 8 ∧ (c.mode = 1 ∨ c.mode = 2) := by
        have e := HB1.out
        simp only [Bool.false_eq, Bool.or_eq_false_iff, Bool.not_eq_false', decide_eq_true_eq, Bool.and_eq_false_imp, Bool.not_eq_true', decide_eq_false_iff_not] at e
        refine ⟨e.1, ?_⟩
        by_cases h2 : c.mode = 1
        · exact .inl h2
        · exact .inr (e.2 h2)
      have hbl := rblocks_any (w := wc) c.a c.b
      have x5 := HM1.out.cb 5 _ rfl
      have x6 := HM1.out.cb 6 _ rfl
      have HG := Lib.hid hgood
      clear hgood HB1
      unfold rng at hbl
      by_cases hab : c.a < c.b ∧ c.b ≤ 256
      case neg =>
        rw [decide_eq_false hab] at hbl
        have hk : s.ask c = s := by unfold GS.ask; rw [if_neg (fun h => hab ⟨h.2.2.1, h.2.2.2.1⟩)]
        have HK := Lib.hid hk
        clear hk
        clear hab
        go_wp2_with (go_at_call 76; refine hbl.mono ?_; clear hbl; rintro e w1 ⟨rfl, hb1⟩
                     have HM2 := Lib.hid (HM1.out.below hb1)
                     obtain ⟨u0, r0⟩ := HM2.out.r 0 (by omega)
                     obtain ⟨u1, r1⟩ := HM2.out.r 1 (by omega)
                     obtain ⟨u2, r2⟩ := HM2.out.r 2 (by omega)
                     obtain ⟨u3, r3⟩ := HM2.out.r 3 (by omega)
                     obtain ⟨u4, r4⟩ := HM2.out.r 4 (by omega)
                     have p0 := HM2.out.rf 0
                     have p1 := HM2.out.rf 1
                     have p2 := HM2.out.rf 2
                     have p3 := HM2.out.rf 3
                     have p4 := HM2.out.rf 4)
        obtain ⟨z0, z1, z2, z3, z4⟩ := set5_cells (B := w.heap.size + 1) (.int .i64 71) (.int .i64 0) (.slice none 0 0) (.slice none 0 0) (.slice none 0 0) HM2.out.r
        refine bodyPost_ret (v := .agg #[.int .i64 71, .int .i64 0, .slice none 0 0, .slice none 0 0, .slice none 0 0]) (by simp [results, Tryd.results57, go_sem, z0, z1, z2, z3, z4]) rfl ?_
        rw [HK.out]
        exact HM2.out.fin _ _ _ _ _ rfl (ansv _ _ _ _ _ _ _ _ _ _ _)
      rw [decide_eq_true hab] at hbl
      have HAB := Lib.hid hab
      clear hab
      go_upto_region 6 with (go_at_call 76; refine hbl.mono ?_; clear hbl; rintro e w1 ⟨rfl, hb1⟩
                             have HA2 := Lib.hid (HA1.out.below hb1)
                             clear hb1)
      have HM2 := Lib.hid HA2.out.m
      clear HM1 HA1 x5 x6
      have x1 := HM2.out.cb 1 _ rfl
      have hli := rlives_any HM2.out.svc c.client
      cases hlv : livesB s.B c.client with
      | false =>
        rw [hlv] at hli
        have hk : s.ask c = s := by unfold GS.ask; rw [if_neg (fun h => by have h2 := h.2.2.2.2.1; rw [hlv] at h2; cases h2)]
        have HK := Lib.hid hk
        clear hk
        clear hlv
        obtain ⟨u0, r0⟩ := HM2.out.r 0 (by omega)
        obtain ⟨u1, r1⟩ := HM2.out.r 1 (by omega)
        obtain ⟨u2, r2⟩ := HM2.out.r 2 (by omega)
        obtain ⟨u3, r3⟩ := HM2.out.r 3 (by omega)
        obtain ⟨u4, r4⟩ := HM2.out.r 4 (by omega)
        have p0 := HM2.out.rf 0
        have p1 := HM2.out.rf 1
        have p2 := HM2.out.rf 2
        have p3 := HM2.out.rf 3
        have p4 := HM2.out.rf 4
        go_wp2_with (go_at_call 66; refine hli.mono ?_; clear hli; rintro e w2 ⟨rfl, rfl⟩)
        obtain ⟨z0, z1, z2, z3, z4⟩ := set5_cells (B := w.heap.size + 1) (.int .i64 200) (.int .i64 0) (.slice none 0 0) (.slice none 0 0) (.slice none 0 0) HM2.out.r
        refine bodyPost_ret (v := .agg #[.int .i64 200, .int .i64 0, .slice none 0 0, .slice none 0 0, .slice none 0 0]) (by simp [results, Tryd.results57, go_sem, z0, z1, z2, z3, z4]) rfl ?_
        rw [HK.out]
        exact HM2.out.fin _ _ _ _ _ rfl (ansv _ _ _ _ _ _ _ _ _ _ _)
      | true =>
        rw [hlv] at hli
        have HLV := Lib.hid hlv
        clear hlv
        go_wp2_with (go_at_call 66; refine hli.mono ?_; clear hli; rintro e w2 ⟨rfl, rfl⟩)
        clear x1
        go_loopw [6] (fun i wr => ∃ j : Nat, j ≤ s.wait.length ∧ i = .int .i64 (j : Int) ∧ RA w wr p p.tv p.wv s c ∧ ∀ q x, q < j → s.wait[q]? = some x → decide (x.c = c.client) = false) (fun i _ => s.wait.length - (intOf i).toNat)
        case atStart => exact ⟨0, Nat.zero_le _, rfl, HA2.out, fun q x hq => by omega⟩
        case round =>
          clear HA2 HM2
          obtain ⟨j, hj, rfl, hA, hno⟩ := hrel
          obtain ⟨wa, wc0, hwv⟩ := row_lens hA.m.svc.row
          have c2 := hA.m.svc.c2
          rw [hwv] at c2
          by_cases hlt : j < s.wait.length
          · have e0 : decide ((j : Int) < (s.wait.length : Int)) = true := by simpa using hlt
            have hjz : (j : Int) < (s.wait.length : Int) := by omega
            obtain ⟨x, hx⟩ : ∃ x, s.wait[j]? = some x := ⟨_, List.getElem?_eq_getElem hlt⟩
            obtain ⟨g, cap', ev, hcc⟩ := hrowcell hA.m.svc.row hx
            rw [hwv] at ev
            injection ev with ev1 ev2 ev3
            subst ev1
            have d2 := hcc 2 _ rfl
            have y1 := hA.m.cb 1 _ rfl
            obtain ⟨T, hT⟩ : ∃ T, T = decide (x.c = c.client) := ⟨_, rfl⟩
            have hT2 : ((x.c : Int) == (c.client : Int)) = T := by
              rw [hT]
              by_cases e : x.c = c.client
              · simp [e]
              · have : ((x.c : Int) == (c.client : Int)) = false := by simp; omega
                rw [this]; simp [e]
            have HT := Lib.hid hT
            have HT2 := Lib.hid hT2
            have HA := Lib.hid hA
            have HNO := Lib.hid hno
            have HX := Lib.hid hx
            clear hT hT2 hA hno hx hwv hcc ev2 ev3
            go_upto_region 11 with (fail)
            go_cut [61] from 42 to 61 (fun s61 wx => s61 = .bool T ∧ RA w wx p p.tv p.wv s c)
            case first =>
              go_quiet (fail)
              go_wp2_with fail
              go_meet
              exact ⟨congrArg Value.bool HT2.out, HA.out.below (below_drewN (Below.refl _ _) _)⟩
            case rest =>
              obtain ⟨rfl, hA2⟩ := hcut
              have HA2 := Lib.hid hA2
              have HM2 := Lib.hid hA2.m
              clear hA2 HA c2 d2 y1
              cases T with
              | true =>
                have hk : s.ask c = s := by unfold GS.ask; rw [if_neg (fun h => by
                  have h2 := h.2.2.2.2.2.1
                  rw [List.any_eq_true.2 ⟨x, List.mem_of_getElem? HX.out, HT.out.symm⟩] at h2
                  cases h2)]
                have HK := Lib.hid hk
                clear hk
                obtain ⟨u0, r0⟩ := HM2.out.r 0 (by omega)
                obtain ⟨u1, r1⟩ := HM2.out.r 1 (by omega)
                obtain ⟨u2, r2⟩ := HM2.out.r 2 (by omega)
                obtain ⟨u3, r3⟩ := HM2.out.r 3 (by omega)
                obtain ⟨u4, r4⟩ := HM2.out.r 4 (by omega)
                have p0 := HM2.out.rf 0
                have p1 := HM2.out.rf 1
                have p2 := HM2.out.rf 2
                have p3 := HM2.out.rf 3
                have p4 := HM2.out.rf 4
                go_wp2_with fail
                obtain ⟨z0, z1, z2, z3, z4⟩ := set5_cells (B := w.heap.size + 1) (.int .i64 4) (.int .i64 0) (.slice none 0 0) (.slice none 0 0) (.slice none 0 0) HM2.out.r
                refine bodyPost_ret (v := .agg #[.int .i64 4, .int .i64 0, .slice none 0 0, .slice none 0 0, .slice none 0 0]) (by simp [results, Tryd.results57, go_sem, z0, z1, z2, z3, z4]) rfl ?_
                rw [HK.out]
                exact HM2.out.fin _ _ _ _ _ rfl (ansv _ _ _ _ _ _ _ _ _ _ _)
              | false =>
                have hno2 : ∀ q y, q < j + 1 → s.wait[q]? = some y → decide (y.c = c.client) = false := fun q y hq hy => by
                  by_cases e : q = j
                  · subst e; rw [HX.out] at hy; cases hy; exact HT.out.symm
                  · exact HNO.out q y (by omega) hy
                have HNO2 := Lib.hid hno2
                clear hno2
                go_wp2_with fail
                go_roundw
                case rel => exact ⟨j + 1, by omega, by go_num, HA2.out, HNO2.out⟩
                case measure => simp [intOf]; omega
          · have ej : j = s.wait.length := by omega
            have e0 : decide ((j : Int) < (s.wait.length : Int)) = false := by simp; omega
            have hany : (s.wait.any fun o => decide (o.c = c.client)) = false := List.any_eq_false.2 fun o ho => by
              obtain ⟨q, hq⟩ := List.mem_iff_getElem?.1 ho
              rw [hno q o (by have := (List.getElem?_eq_some_iff.1 hq).1; omega) hq]
              decide
            have HANY := Lib.hid hany
            have HA := Lib.hid hA
            have HM := Lib.hid hA.m
            have HWV := Lib.hid hwv
            have c3 := hA.m.svc.c3
            clear hany hA hwv hno ej
            dsimp only at c3
            by_cases hmax : s.last < 1099511627776
            case neg =>
              have e1 : decide ((1099511627776 : Int) ≤ (s.last : Int)) = true := by simp; omega
              have hk : s.ask c = s := by unfold GS.ask; rw [if_neg (fun h => hmax h.2.2.2.2.2.2)]
              have HK := Lib.hid hk
              clear hk
              obtain ⟨u0, r0⟩ := HM.out.r 0 (by omega)
              obtain ⟨u1, r1⟩ := HM.out.r 1 (by omega)
              obtain ⟨u2, r2⟩ := HM.out.r 2 (by omega)
              obtain ⟨u3, r3⟩ := HM.out.r 3 (by omega)
              obtain ⟨u4, r4⟩ := HM.out.r 4 (by omega)
              have p0 := HM.out.rf 0
              have p1 := HM.out.rf 1
              have p2 := HM.out.rf 2
              have p3 := HM.out.rf 3
              have p4 := HM.out.rf 4
              clear hmax
              go_wp2_with fail
              obtain ⟨z0, z1, z2, z3, z4⟩ := set5_cells (B := w.heap.size + 1) (.int .i64 6) (.int .i64 0) (.slice none 0 0) (.slice none 0 0) (.slice none 0 0) HM.out.r
              refine bodyPost_ret (v := .agg #[.int .i64 6, .int .i64 0, .slice none 0 0, .slice none 0 0, .slice none 0 0]) (by simp [results, Tryd.results57, go_sem, z0, z1, z2, z3, z4]) rfl ?_
              rw [HK.out]
              exact HM.out.fin _ _ _ _ _ rfl (ansv _ _ _ _ _ _ _ _ _ _ _)
            have e1 : decide ((1099511627776 : Int) ≤ (s.last : Int)) = false := by simp; omega
            have HMAX := Lib.hid hmax
            clear hmax
            go_upto_region 15 with (fail)
            have hAd := HA.out.below ((Below.refl wr.heap.size wr).drew)
            have hok : HdOk c.hd := ⟨HG.out.1, HG.out.2, HAB.out.1, HAB.out.2⟩
            have hfr := rfree_any hAd.m.svc c.hd hok.m2 s.wait (by omega) hAd.m.svc.row fun o ho => (HS.out.w o ho).m2
            rw [show ({ p with tv := p.tv, wv := p.wv } : RP).wv = .slice wa s.wait.length wc0 from HWV.out] at hfr
            obtain ⟨x0, x1, x2, x3⟩ := HA.out.x.cell
            have HAD := Lib.hid hAd
            have HOK := Lib.hid hok
            clear hAd hok HA HM c3
            dsimp only [Cm.hd] at x0 x1 x2 x3
            unfold Hd.val at hfr
            dsimp only [Cm.hd] at hfr
            refine wp_region_still_tail 6 (by kernel_rfl) (by kernel_rfl) ?_
            simp only [List.take_succ_cons, List.take_zero, List.drop_succ_cons, List.drop_zero]
            iterate 6 still_step
            refine wpStill_nil ?_
            rw [show (⟨c.a, c.b, c.client, c.mode⟩ : Hd) = c.hd from rfl] at hfr
            have HA3F : Hid (∀ w3, Below wr.drew.heap.size wr.drew w3 → RA w w3 p p.tv p.wv s c) := Lib.hid fun w3 hb => HAD.out.below hb
            cases hfree : freeB s.R c.hd s.wait with
            | true =>
              rw [hfree] at hfr
              have HFREE := Lib.hid hfree
              have hff := hfree
              unfold freeB at hff
              rw [Bool.and_eq_true, Bool.not_eq_true', Bool.not_eq_true'] at hff
              have HAG := Lib.hid hff.2
              clear hff hfree
              go_upto_region 16 with (go_at_call 77
                                      refine hfr.mono ?_
                                      clear hfr
                                      rintro e w3 ⟨rfl, hb3⟩
                                      have hA3 := HA3F.out w3 hb3
                                      have HA4 := Lib.hid (hA3.below (Below.refl w3.heap.size w3).drew)
                                      obtain ⟨y0, y1, y2, y3⟩ := hA3.x.cell
                                      have c0 := hA3.m.svc.c0
                                      dsimp only [Cm.hd] at y0 y1 y2 y3
                                      dsimp only at c0
                                      clear hb3 hA3)
              have hput := rput_any HA4.out.m.svc.tab HS.out.R c.hd HOK.out (by rw [agB_met]; exact HAG.out)
              unfold Hd.val at hput
              dsimp only [Cm.hd] at hput
              rw [show (⟨c.a, c.b, c.client, c.mode⟩ : Hd) = c.hd from rfl] at hput
              refine wp_region_still_tail 5 (by kernel_rfl) (by kernel_rfl) ?_
              simp only [List.take_succ_cons, List.take_zero, List.drop_succ_cons, List.drop_zero]
              iterate 5 still_step
              refine wpStill_nil ?_
              cases hfit : fitsB s.R c.hd with
              | false =>
                have hput2 := hput.mono (R' := fun e w' => e = .returned (.int .i64 2) ∧ RA w w' p p.tv p.wv s c) (by
                  rintro e w' (⟨h1, -⟩ | ⟨-, rfl, h2, h3⟩)
                  · rw [hfit] at h1; cases h1
                  · exact ⟨rfl, HA4.out.tabs h2 h3 fun k hk => .inr hk⟩)
                have hk : s.ask c = s := by unfold GS.ask; rw [if_pos ⟨HG.out.1, HG.out.2, HAB.out.1, HAB.out.2, HLV.out, HANY.out, HMAX.out⟩, if_pos HFREE.out, if_neg (by rw [hfit]; decide)]
                have HK := Lib.hid hk
                clear hk hput hfit
                go_wp2_with (go_at_call 78
                             refine hput2.mono ?_
                             clear hput2
                             rintro e w4 ⟨rfl, hA5⟩
                             have HM5 := Lib.hid hA5.m
                             clear hA5
                             obtain ⟨u0, r0⟩ := HM5.out.r 0 (by omega)
                             obtain ⟨u1, r1⟩ := HM5.out.r 1 (by omega)
                             obtain ⟨u2, r2⟩ := HM5.out.r 2 (by omega)
                             obtain ⟨u3, r3⟩ := HM5.out.r 3 (by omega)
                             obtain ⟨u4, r4⟩ := HM5.out.r 4 (by omega)
                             have p0 := HM5.out.rf 0
                             have p1 := HM5.out.rf 1
                             have p2 := HM5.out.rf 2
                             have p3 := HM5.out.rf 3
                             have p4 := HM5.out.rf 4)
                obtain ⟨z0, z1, z2, z3, z4⟩ := set5_cells (B := w.heap.size + 1) (.int .i64 2) (.int .i64 0) (.slice none 0 0) (.slice none 0 0) (.slice none 0 0) HM5.out.r
                refine bodyPost_ret (v := .agg #[.int .i64 2, .int .i64 0, .slice none 0 0, .slice none 0 0, .slice none 0 0]) (by simp [results, Tryd.results57, go_sem, z0, z1, z2, z3, z4]) rfl ?_
                rw [HK.out]
                exact HM5.out.fin _ _ _ _ _ rfl (ansv _ _ _ _ _ _ _ _ _ _ _)
              | true =>
                have hput2 := hput.mono (R' := fun e w' => e = .returned (.int .i64 0) ∧ ∃ tv', RA w w' p tv' p.wv ⟨putR s.R c.hd, s.B, s.wait, s.last, s.by'⟩ c) (by
                  rintro e w' (⟨-, rfl, tv', h2, h3, h4⟩ | ⟨h1, -⟩)
                  · exact ⟨rfl, tv', HA4.out.tabs h2 h3 fun k hk => .inl (h4 k hk)⟩
                  · rw [hfit] at h1; cases h1)
                have hk : s.ask c = ⟨putR s.R c.hd, s.B, s.wait, s.last + 1, s.by'⟩ := by unfold GS.ask; rw [if_pos ⟨HG.out.1, HG.out.2, HAB.out.1, HAB.out.2, HLV.out, HANY.out, HMAX.out⟩, if_pos HFREE.out, if_pos hfit]
                have HK := Lib.hid hk
                have hw : wrap64 ((s.last : Int) + 1) = (s.last : Int) + 1 := by have := HMAX.out; unfold wrap64; omega
                clear hk hput hfit
                go_upto_region 19 with (go_at_call 78
                                        refine hput2.mono ?_
                                        clear hput2
                                        rintro e w4 ⟨rfl, tv4, hA5⟩
                                        have HA5 := Lib.hid hA5
                                        clear hA5)
                have c35 := HA5.out.m.svc.c3
                have f35 := HA5.out.m.svc.fro 3
                dsimp only at c35 f35
                obtain ⟨W6, hW6⟩ : ∃ W6, W6 = w4.setCell ⟨p.b, 3, none⟩ (.int .i64 ((s.last + 1 : Nat) : Int)) := ⟨_, rfl⟩
                have hM6 := HA5.out.m.lasts (s.last + 1)
                rw [← hW6] at hM6
                have HM6 := Lib.hid hM6
                have HW6 := Lib.hid hW6
                clear hM6 hW6
                go_upto_region 20 with (fail)
                rw [show w4.setCell ⟨p.b, 3, none⟩ (.int .i64 ((s.last : Int) + 1)) = W6 from HW6.out.symm]
                have c36 := HM6.out.svc.c3
                dsimp only at c36
                obtain ⟨u0, r0⟩ := HM6.out.r 0 (by omega)
                obtain ⟨u1, r1⟩ := HM6.out.r 1 (by omega)
                obtain ⟨u2, r2⟩ := HM6.out.r 2 (by omega)
                obtain ⟨u3, r3⟩ := HM6.out.r 3 (by omega)
                obtain ⟨u4, r4⟩ := HM6.out.r 4 (by omega)
                have p0 := HM6.out.rf 0
                have p1 := HM6.out.rf 1
                have p2 := HM6.out.rf 2
                have p3 := HM6.out.rf 3
                have p4 := HM6.out.rf 4
                go_wp2_with fail
                obtain ⟨z0, z1, z2, z3, z4⟩ := set5_cells (B := w.heap.size + 1) (.int .i64 0) (.int .i64 ((s.last : Int) + 1)) (.slice none 0 0) (.slice none 0 0) (.slice none 0 0) HM6.out.r
                refine bodyPost_ret (v := .agg #[.int .i64 0, .int .i64 ((s.last : Int) + 1), .slice none 0 0, .slice none 0 0, .slice none 0 0]) (by simp [results, Tryd.results57, go_sem, z0, z1, z2, z3, z4]) rfl ?_
                rw [HK.out]
                exact HM6.out.fin _ _ _ _ _ rfl (ansv _ _ _ _ _ _ _ _ _ _ _)
            | false =>
              rw [hfree] at hfr
              have HFREE := Lib.hid hfree
              clear hfree
              by_cases hn : s.wait.length < 32
              case neg =>
                have e2 : decide ((32 : Int) ≤ (s.wait.length : Int)) = true := by simp; omega
                have hk : s.ask c = s := by unfold GS.ask; rw [if_pos ⟨HG.out.1, HG.out.2, HAB.out.1, HAB.out.2, HLV.out, HANY.out, HMAX.out⟩, if_neg (by rw [HFREE.out]; decide), if_neg hn]
                have HK := Lib.hid hk
                clear hk hn
                go_upto_region 21 with (go_at_call 77
                                        refine hfr.mono ?_
                                        clear hfr
                                        rintro e w3 ⟨rfl, hb3⟩)
                have HM3 := Lib.hid (HA3F.out w3 hb3).m
                have c2 := HM3.out.svc.c2
                rw [show ({ p with tv := p.tv, wv := p.wv } : RP).wv = .slice wa s.wait.length wc0 from HWV.out] at c2
                dsimp only at c2
                clear hb3
                obtain ⟨u0, r0⟩ := HM3.out.r 0 (by omega)
                obtain ⟨u1, r1⟩ := HM3.out.r 1 (by omega)
                obtain ⟨u2, r2⟩ := HM3.out.r 2 (by omega)
                obtain ⟨u3, r3⟩ := HM3.out.r 3 (by omega)
                obtain ⟨u4, r4⟩ := HM3.out.r 4 (by omega)
                have p0 := HM3.out.rf 0
                have p1 := HM3.out.rf 1
                have p2 := HM3.out.rf 2
                have p3 := HM3.out.rf 3
                have p4 := HM3.out.rf 4
                go_wp2_with fail
                obtain ⟨z0, z1, z2, z3, z4⟩ := set5_cells (B := w.heap.size + 1) (.int .i64 2) (.int .i64 0) (.slice none 0 0) (.slice none 0 0) (.slice none 0 0) HM3.out.r
                refine bodyPost_ret (v := .agg #[.int .i64 2, .int .i64 0, .slice none 0 0, .slice none 0 0, .slice none 0 0]) (by simp [results, Tryd.results57, go_sem, z0, z1, z2, z3, z4]) rfl ?_
                rw [HK.out]
                exact HM3.out.fin _ _ _ _ _ rfl (ansv _ _ _ _ _ _ _ _ _ _ _)
              have e2 : decide ((32 : Int) ≤ (s.wait.length : Int)) = false := by simp; omega
              have hk : s.ask c = ⟨s.R, s.B, s.wait ++ [c.hd], s.last, s.by'⟩ := by unfold GS.ask; rw [if_pos ⟨HG.out.1, HG.out.2, HAB.out.1, HAB.out.2, HLV.out, HANY.out, HMAX.out⟩, if_neg (by rw [HFREE.out]; decide), if_pos hn]
              have HK := Lib.hid hk
              clear hk hn
              go_upto_region 21 with (go_at_call 77
                                      refine hfr.mono ?_
                                      clear hfr
                                      rintro e w3 ⟨rfl, hb3⟩)
              have HA3 := Lib.hid (HA3F.out w3 hb3)
              have c2 := HA3.out.m.svc.c2
              rw [show ({ p with tv := p.tv, wv := p.wv } : RP).wv = .slice wa s.wait.length wc0 from HWV.out] at c2
              dsimp only at c2
              clear hb3
              go_upto_region 23 with (fail)
              obtain ⟨G, hG⟩ : ∃ G, G = w3.heap.size := ⟨_, rfl⟩
              have hGw : w.heap.size + 3 ≤ G := by rw [hG]; have := HA3.out.x.lt; omega
              have hA4 := HA3.out.below ((Below.refl w3.heap.size w3).alloc (Nat.le_refl _) (.cells #[] 57))
              have hrow4 := World.ownsRow_made (base := w3.heap.size) (e := 57) (size := 4) w3 #[] 0 (by simp) (Nat.zero_le _) rfl
              have hbs4 : w3.heap.size ≤ (w3.alloc (.cells #[] 57)).heap.size := by simp
              obtain ⟨W4, hW4⟩ : ∃ W4, W4 = w3.alloc (.cells #[] 57) := ⟨_, rfl⟩
              rw [← hW4, ← hG] at hrow4 hbs4
              rw [← hW4] at hA4
              have HA4 := Lib.hid hA4
              have HR4 := Lib.hid hrow4
              have HBS4 := Lib.hid hbs4
              have HW4 := Lib.hid hW4
              have HG4 := Lib.hid hG
              clear hA4 hrow4 hbs4 hW4 hG HA3 c2
              go_upto_region 24 with (fail)
              rw [← HW4.out, ← HG4.out]
              have c2 := HA4.out.m.svc.c2
              rw [show ({ p with tv := p.tv, wv := p.wv } : RP).wv = .slice wa s.wait.length wc0 from HWV.out] at c2
              dsimp only at c2
              have hwr := HA4.out.m.svc.row
              rw [show ({ p with tv := p.tv, wv := p.wv } : RP).wv = .slice wa s.wait.length wc0 from HWV.out] at hwr
              have HWR := Lib.hid hwr
              clear hwr
              go_wp2_with (refine wpList_append_rows rfl (.tmp 107) (.tmp 111) 47 rfl G 57 i0 _ 4 32 Tryd.underlying47 Hi.out Hz.out Hz1.out Hz2.out rfl (by decide) _ 0 [] rfl HR4.out (.slice wa s.wait.length wc0) 0 s.wait.length (hrows s.wait) rfl HWR.out (one_hrows _) (by unfold maxLen; omega) (by omega) HBS4.out ?_)
              intro v5 w5 hown5 hgrow _
              have hown5 : w5.ownsRow G 57 4 v5 s.wait.length (hrows s.wait) := by simpa using hown5
              have hA5 := HA4.out.grown H.out HR4.out hGw hgrow
              have HA5 := Lib.hid hA5
              have HR5 := Lib.hid hown5
              have HBS5 := Lib.hid (Nat.le_trans HBS4.out hgrow.size)
              clear hgrow hown5 hA5 HR4 HA4 HWR c2
              obtain ⟨va5, vc5, rfl⟩ := row_lens HR5.out
              obtain ⟨y0, y1, y2, y3⟩ := HA5.out.x.cell
              dsimp only [Cm.hd] at y0 y1 y2 y3
              have hr6 := World.ownsRow.alloc HR5.out (.cells #[.int .i64 (c.a : Int), .int .i64 (c.b : Int), .int .i64 (c.client : Int), .int .i64 (c.mode : Int)] 57)
              have hA6 := HA5.out.below ((Below.refl w5.heap.size w5).alloc (Nat.le_refl _) (.cells #[.int .i64 (c.a : Int), .int .i64 (c.b : Int), .int .i64 (c.client : Int), .int .i64 (c.mode : Int)] 57))
              have hcl6 : ∀ q u, (Hd.cells c.hd)[q]? = some u → (w5.alloc (.cells #[.int .i64 (c.a : Int), .int .i64 (c.b : Int), .int .i64 (c.client : Int), .int .i64 (c.mode : Int)] 57)).cell? ((⟨w5.heap.size, 0, none⟩ : Addr).add q) = some u := fun q u hq => by
                rw [Addr.add_mid, Nat.zero_add, World.cell?_alloc_new]
                simpa [Hd.cells, Cm.hd] using hq
              have hbs6 : G ≤ (w5.alloc (.cells #[.int .i64 (c.a : Int), .int .i64 (c.b : Int), .int .i64 (c.client : Int), .int .i64 (c.mode : Int)] 57)).heap.size := by rw [World.size_alloc]; have := HBS5.out; omega
              have HR6 := Lib.hid hr6
              have HA6 := Lib.hid hA6
              have Hcl6 := Lib.hid hcl6
              have HBS6 := Lib.hid hbs6
              clear hr6 hA6 hcl6 hbs6
              go_wp2_with (refine wpList_append_own_at _ rfl (.tmp 114) (.tmp 116) 47 rfl G 57 i0 _ 4 32 Tryd.underlying47 Hi.out Hz.out Hz1.out Hz2.out rfl (by decide) _ s.wait.length (hrows s.wait) rfl HR6.out ⟨w5.heap.size, 0, none⟩ 1 1 (Hd.cells c.hd) rfl rfl Hcl6.out (one_hcells _) (by unfold maxLen; omega) (by omega) HBS6.out ?_)
              intro v6 w6 hown6 hgrow _ _
              have hA7 := HA6.out.grown H.out HR6.out hGw hgrow
              obtain ⟨va6, vc6, rfl⟩ := row_lens hown6
              have hl6 : (s.wait ++ [c.hd]).length = s.wait.length + 1 := by simp
              have hown7 : w6.ownsRow G 57 4 (.slice va6 (s.wait.length + 1) vc6) (s.wait ++ [c.hd]).length (hrows (s.wait ++ [c.hd])) := by rw [hl6, hrows_app]; simpa [hrows] using hown6
              have hap := row_apart H.out hown7 (by omega)
              have hsv := hA7.m.svc.waits (ownsRow_base hown7 fun _ _ => Nat.zero_le _) (fun k hk => ⟨fun e => hap k hk (.inl e), fun e => hap k hk (.inr (.inl e)), fun e => hap k hk (.inr (.inr (.inl e))), fun e => hap k hk (.inr (.inr (.inr (.inl e)))), fun e => hap k hk (.inr (.inr (.inr (.inr (.inr e)))))⟩)
              have hmv := Moves.setCell (F := fpF p) (Moves.refl _ w6) ⟨p.b, 2, none⟩ (.slice va6 (s.wait.length + 1) vc6) (.inl (.inl rfl))
              have hA8 : RA w (w6.setCell ⟨p.b, 2, none⟩ (.slice va6 (s.wait.length + 1) vc6)) p p.tv (.slice va6 (s.wait.length + 1) vc6) ⟨s.R, s.B, s.wait ++ [c.hd], s.last, s.by'⟩ c :=
                ⟨hA7.m.next hsv hmv fun k hk => by
                  rcases hk with hk | hk
                  · exact .inr (.inl hk)
                  · exact .inl (by have := (hown7.lt k hk).1; omega), hA7.m.hx hA7.x (by omega) hmv⟩
              have c27 := hA7.m.svc.c2
              rw [show ({ p with tv := p.tv, wv := p.wv } : RP).wv = .slice wa s.wait.length wc0 from HWV.out] at c27
              have f27 := hA7.m.svc.fro 2
              dsimp only at c27 f27
              have HA8 := Lib.hid hA8
              clear hgrow hown6 hown7 hA7 hap hsv hmv hA8 hl6 y0 y1 y2 y3
              go_upto_region 26 with (fail)
              generalize w6.setCell ⟨p.b, 2, none⟩ (.slice va6 (s.wait.length + 1) vc6) = W8 at HA8 ⊢
              obtain ⟨y0, y1, y2, y3⟩ := HA8.out.x.cell
              dsimp only [Cm.hd] at y0 y1 y2 y3
              have c08 := HA8.out.m.svc.c0
              dsimp only at c08
              have hA9 := HA8.out.below ((Below.refl W8.heap.size W8).drew)
              have hag := against_ref hA9.m.svc.tab (rholds_len s.R) c.hd
              unfold Hd.val at hag
              dsimp only [Cm.hd] at hag
              have HA9 := Lib.hid hA9
              clear hA9
              refine wp_region_still_tail 5 (by kernel_rfl) (by kernel_rfl) ?_
              simp only [List.take_succ_cons, List.take_zero, List.drop_succ_cons, List.drop_zero]
              iterate 5 still_step
              refine wpStill_nil ?_
              have HA10F : Hid (∀ w10, Below W8.drew.heap.size W8.drew w10 → RA w w10 p p.tv (.slice va6 (s.wait.length + 1) vc6) ⟨s.R, s.B, s.wait ++ [c.hd], s.last, s.by'⟩ c) := Lib.hid fun w10 hb => HA9.out.below hb
              go_wp2_with (go_at_call 79
                           refine hag.mono ?_
                           clear hag
                           rintro e w10 ⟨⟨sv, n, xs, rfl, hsr, -⟩, hb10⟩
                           obtain ⟨sva, svc, rfl⟩ := row_lens hsr
                           have HM10 := Lib.hid (HA10F.out w10 hb10).m
                           clear hb10 hsr
                           obtain ⟨u0, r0⟩ := HM10.out.r 0 (by omega)
                           obtain ⟨u1, r1⟩ := HM10.out.r 1 (by omega)
                           obtain ⟨u2, r2⟩ := HM10.out.r 2 (by omega)
                           obtain ⟨u3, r3⟩ := HM10.out.r 3 (by omega)
                           obtain ⟨u4, r4⟩ := HM10.out.r 4 (by omega)
                           have p0 := HM10.out.rf 0
                           have p1 := HM10.out.rf 1
                           have p2 := HM10.out.rf 2
                           have p3 := HM10.out.rf 3
                           have p4 := HM10.out.rf 4)
              obtain ⟨z0, z1, z2, z3, z4⟩ := set5_cells (B := w.heap.size + 1) (.int .i64 170) (.int .i64 0) (.slice none 0 0) (.slice sva n svc) (.slice none 0 0) HM10.out.r
              refine bodyPost_ret (v := .agg #[.int .i64 170, .int .i64 0, .slice none 0 0, .slice sva n svc, .slice none 0 0]) (by simp [results, Tryd.results57, go_sem, z0, z1, z2, z3, z4]) rfl ?_
              rw [HK.out]
              exact HM10.out.fin _ _ _ _ _ rfl (ansv _ _ _ _ _ _ _ _ _ _ _)
end
end Go.Proofs.YtfjfkmoofmncnaaDoor
