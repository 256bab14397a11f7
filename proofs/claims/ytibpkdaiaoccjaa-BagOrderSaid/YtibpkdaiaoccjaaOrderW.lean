/- BagOrder: its walk. -/
import Derived.Test.YtibpkdaiaoccjaaDoes
import Derived.Test.YtibpkdaiaoccjaaHeavy
import Derived.Test.YtibpkdaiaoccjaaMsEq
namespace Go.Proofs.Ytibpkdaiaoccjaa
open Go.RowKit
set_option maxRecDepth 100000 in
theorem run_neq_msg (a b : Ms) (w : World) : (binOp .neq 23 a.val b.val).run Try.prog w = .ok (.bool (!a.eqb b)) w := by
  have h := run_eql_msg a b w
  unfold Ms.val at h ⊢
  rw [run_eql_struct] at h
  rw [run_neq_struct]
  cases hr : (Op.equalIn 10000 23 (.agg #[.int .i64 a.kind, .int .i64 a.src, .int .i64 a.dst, .int .i64 a.epoch, .int .i64 a.seq, .int .i64 a.off, .int .i64 a.len, .string a.data]) (.agg #[.int .i64 b.kind, .int .i64 b.src, .int .i64 b.dst, .int .i64 b.epoch, .int .i64 b.seq, .int .i64 b.off, .int .i64 b.len, .string b.data])).run Try.prog w with
  | ok x w' =>
    rw [hr] at h
    simp only [Result.andThen_ok, Result.ok.injEq, Value.bool.injEq] at h ⊢
    rw [h.1]; exact ⟨rfl, h.2⟩
  | halt x w' =>
    rw [hr] at h
    simp [Result.andThen] at h
/-- What holds where the i-th of what is there now is looked for, from the k-th of what was on. -/
def OnWay (now was : List Ms) (i k : Nat) : Prop := i + 1 < now.length → Runs (now.drop i) (was.drop k)
theorem drop_cons {α : Type} {l : List α} {i : Nat} {x : α} (h : l[i]? = some x) : l.drop i = x :: l.drop (i + 1) := by
  have hi := (List.getElem?_eq_some_iff.1 h).1
  rw [List.drop_eq_getElem_cons hi]; congr 1; exact (List.getElem?_eq_some_iff.1 h).2
theorem drop_ne {α : Type} {l : List α} {i : Nat} (h : i < l.length) : l.drop i ≠ [] := by
  intro e; have := congrArg List.length e; simp at this; omega
theorem OnWay.skip {now was : List Ms} {i k : Nat} {x y : Ms} (h : OnWay now was i k) (hx : now[i]? = some x) (hy : was[k]? = some y) (hne : y ≠ x) : OnWay now was i (k + 1) := fun hi => by
  have h1 := h hi
  rw [drop_cons hx, drop_cons hy] at h1
  rw [drop_cons hx]
  exact h1.skip (drop_ne (by omega)) hne
theorem OnWay.meet {now was : List Ms} {i k : Nat} {x : Ms} (h : OnWay now was i k) (hx : now[i]? = some x) (hy : was[k]? = some x) : OnWay now was (i + 1) (k + 1) := fun hi => by
  have h1 := h (by omega)
  rw [drop_cons hx, drop_cons hy] at h1
  exact h1.meet (drop_ne (by omega))
theorem OnWay.done {now was : List Ms} {i : Nat} (h : OnWay now was i was.length) (hi : i < now.length) : now.length ≤ i + 1 := by
  rcases Nat.lt_or_ge (i + 1) now.length with h1 | h1
  · have h2 := h h1
    obtain ⟨x, hx⟩ : ∃ x, now[i]? = some x := ⟨_, List.getElem?_eq_getElem hi⟩
    rw [drop_cons hx, List.drop_length] at h2
    exact absurd rfl (h2.some (drop_ne (by omega)))
  · exact h1
set_option maxRecDepth 100000 in
set_option maxHeartbeats 8000000 in
theorem bagorder_any {v : Value} {l : List Stp} {w : World} (ha : ArgRow w v 10 (l.map Stp.cells)) (hf : ∀ s ∈ l, s.fits) (o : Stp) (ho : o.fits) :
    Calls Try.prog 7 #[v, o.val] w fun e w' => e = .returned (.bool true) ∧ Below w.heap.size w w' := by
  obtain ⟨base, cap, rfl, hm⟩ := ha.slice
  unfold maxLen at hm
  have hbA : Below w.heap.size w ((w.alloc (.cells o.cells.toArray 41)).alloc (.cells o.cells.toArray 41)) := ((Below.refl _ _).alloc (Nat.le_refl _) _).alloc (by simp) _
  have hsb : SBox ((w.alloc (.cells o.cells.toArray 41)).alloc (.cells o.cells.toArray 41)) w.heap.size o := (SBox.made w o 41).keep (Below.heap_alloc _ _ _ (by simp)) (by simp; omega)
  have hone : ArgRow ((w.alloc (.cells o.cells.toArray 41)).alloc (.cells o.cells.toArray 41)) (.slice (some ⟨w.heap.size + 1, 0, none⟩) 1 1) 10 ([o].map Stp.cells) := by
    refine ⟨_, _, rfl, by simp [maxLen], fun i r hir => ?_⟩
    have hi : i = 0 := by have := (List.getElem?_eq_some_iff.1 hir).1; simp at this; exact this
    subst hi
    simp at hir
    subst hir
    refine ⟨w.heap.size + 1, 0, rfl, by simp, fun j x hj => ?_⟩
    have e2 : w.heap.size + 1 = (w.alloc (.cells o.cells.toArray 41)).heap.size := by simp
    rw [e2, World.cell?_alloc_new]
    simpa using hj
  have hhv := heavy_any (ha.below hbA)
  have hhv2 := heavy_any hone
  have hst : ∀ wr, Below w.heap.size w wr → ∀ k s, l[k]? = some s → _ := fun wr hb k s hk => (ha.below hb).step (k := k) (s := s) hk
  have Hst := Lib.hid hst
  have Hf := Lib.hid hf
  have HbA := Lib.hid hbA
  have Hsb := Lib.hid hsb
  clear hst ha hf hbA hone hsb
  go_enter Try.func7, Try.ntmps7
  unfold Stp.val
  go_wp2_with fail
  refine hhv.mono ?_
  rintro e w1 ⟨B, rfl, -, hwa⟩
  rw [hwa] at hhv2 HbA Hsb
  clear hhv
  cases B
  case true =>
    clear hwa
    go_wp2_with fail
    go_ret
    exact ⟨rfl, HbA.out⟩
  go_wp2_with fail
  refine hhv2.mono ?_
  rintro e w2 ⟨B, rfl, -, rfl⟩
  clear hhv2
  have hs1 : w1.heap.size = w.heap.size + 2 := by rw [← hwa]; simp
  have Hs1 := Lib.hid hs1
  clear hwa hs1
  cases B
  case true =>
    go_wp2_with fail
    go_ret
    exact ⟨rfl, HbA.out⟩
  go_wp2_with fail
  refine (bnew_any (w := w1)).mono ?_
  rintro e w2 ⟨rfl, hbag, hbe⟩
  have hB := BB.made (w0 := w) (K := fun k => k = w.heap.size) (B := w.heap.size) (by rw [Hs1.out]; omega) HbA.out (fun k hk => by subst hk; rw [Hs1.out]; omega) hbag hbe
  have hbx : ∀ w' l1 l2, BB ⟨w.heap.size, w, fun k => k = w.heap.size, w1⟩ w' w1.heap.size w2.heap.size l1 l2 → SBox w' w.heap.size o := fun w' l1 l2 h =>
    Hsb.out.keep (h.kept rfl) (h.klt rfl)
  have HB := Lib.hid hB
  have Hbx := Lib.hid hbx
  clear hbag hbe hB hbx
  go_wp2_with fail
  generalize w2.heap.size = c at HB Hbx ⊢
  generalize hbb : w1.heap.size = bb at HB Hbx ⊢
  clear hbb
  go_loopw [8] (fun i wr => ∃ (k : Nat) (L : List Ms), k ≤ l.length ∧ i = .int .i64 (k : Int) ∧ BB ⟨w.heap.size, w, fun k => k = w.heap.size, w1⟩ wr bb c L L ∧ good L) (fun i _ => l.length - (intOf i).toNat)
  case atStart => exact ⟨0, [], Nat.zero_le _, rfl, HB.out, good.nil⟩
  case round =>
    clear HB
    obtain ⟨k, L, hk, rfl, hp, hg⟩ := hrel
    by_cases hlt : k < l.length
    · obtain ⟨s, hs⟩ : ∃ s, l[k]? = some s := ⟨_, List.getElem?_eq_getElem hlt⟩
      obtain ⟨b, off, cap', hv, hbl, hc⟩ := Hst.out wr hp.below k s hs
      simp only [Value.slice.injEq, true_and] at hv
      obtain ⟨rfl, rfl⟩ := hv
      have hsf := Hf.out s (List.mem_of_getElem? hs)
      have q0 := hc 0 _ rfl
      rw [Nat.add_zero] at q0
      have q1 := hc 1 _ rfl
      have q2 := hc 2 _ rfl
      have q3 := hc 3 _ rfl
      have q4 := hc 4 _ rfl
      have q5 := hc 5 _ rfl
      have q6 := hc 6 _ rfl
      have q7 := hc 7 _ rfl
      have q8 := hc 8 _ rfl
      have q9 := hc 9 _ rfl
      have hd := does_any hp hg s hsf
      have hg2 := stepL_good hg hsf
      generalize stepL L s = L2 at hd hg2
      unfold Stp.val at hd
      clear hc hs hp hg
      go_wp2_with fail
      refine hd.mono ?_
      rintro e w3 ⟨rfl, hp3⟩
      have HP := Lib.hid hp3
      clear hd hp3 q0 q1 q2 q3 q4 q5 q6 q7 q8 q9
      go_wp2_with fail
      go_roundw
      case rel => exact ⟨k + 1, L2, by omega, by go_num, HP.out, hg2⟩
      case measure => simp [intOf]; omega
    · have hl1000 : L.length ≤ 1000 := Nat.le_trans hg.1 (by omega)
      have hls := hp.list hl1000
      have HP0 := Lib.hid hp
      have hg' := hg
      clear hp hg Hst Hf
      go_wp2_with fail
      refine hls.mono ?_
      rintro e w3 ⟨v3, rfl, ho3, hp3, hb3⟩
      have hq := HP0.out.more (K' := fun k => k = w.heap.size ∨ v3.ownBlock = some k) hb3 (fun k hk => by
        rcases hk with h | h
        · exact ⟨by subst h; exact hp3.klt rfl, .inl h⟩
        · have := ho3.lt k h
          exact ⟨this.2, .inr this.1⟩)
      have hr3 : ∀ w' l1 l2, BB ⟨w.heap.size, w, fun k => k = w.heap.size ∨ v3.ownBlock = some k, w3⟩ w' bb c l1 l2 → w'.ownsRow wr.heap.size 23 8 v3 L.length (mrows L) := fun w' l1 l2 h =>
        h.row ho3 fun k hk => .inr hk
      obtain ⟨z0, z1, z2, z3, z4, z5, z6, z7, z8, z9⟩ : _ ∧ _ ∧ _ ∧ _ ∧ _ ∧ _ ∧ _ ∧ _ ∧ _ ∧ _ := ⟨(Hbx.out _ _ _ hp3).2 0 _ rfl, (Hbx.out _ _ _ hp3).2 1 _ rfl, (Hbx.out _ _ _ hp3).2 2 _ rfl, (Hbx.out _ _ _ hp3).2 3 _ rfl, (Hbx.out _ _ _ hp3).2 4 _ rfl, (Hbx.out _ _ _ hp3).2 5 _ rfl, (Hbx.out _ _ _ hp3).2 6 _ rfl, (Hbx.out _ _ _ hp3).2 7 _ rfl, (Hbx.out _ _ _ hp3).2 8 _ rfl, (Hbx.out _ _ _ hp3).2 9 _ rfl⟩
      have hd := does_any hq hg' o ho
      have hg2 := stepL_good hg' ho
      have hrn := stepL_runs L o
      generalize stepL L o = N at hd hg2 hrn
      unfold Stp.val at hd
      obtain ⟨a3, cap3, rfl⟩ := row_len ho3
      generalize (fun k => k = w.heap.size ∨ (Value.slice a3 L.length cap3).ownBlock = some k) = K' at hq hr3 hd
      have Hr3 := Lib.hid hr3
      clear hls ho3 hp3 hb3 hq hr3 HP0
      go_wp2_with fail
      refine hd.mono ?_
      rintro e w4 ⟨rfl, hp4⟩
      have hN1000 : N.length ≤ 1000 := Nat.le_trans hg2.1 (by omega)
      have hN64 : N.length ≤ 64 := hg2.1
      have hL64 : L.length ≤ 64 := hg'.1
      have hls := hp4.list hN1000
      clear hd z0 z1 z2 z3 z4 z5 z6 z7 z8 z9
      go_wp2_with fail
      refine hls.mono ?_
      rintro e w5 ⟨v5, rfl, ho5, hp5, hb5⟩
      obtain ⟨a5, cap5, rfl⟩ := row_len ho5
      have hro : ∀ W, Below w5.heap.size w5 W → W.ownsRow wr.heap.size 23 8 (.slice a3 L.length cap3) L.length (mrows L) ∧ W.ownsRow w4.heap.size 23 8 (.slice a5 N.length cap5) N.length (mrows N) := fun W hW =>
        ⟨Hr3.out _ _ _ (hp5.quiet hW), ownsRow_keep ho5 fun k hk => hW.block k (ho5.lt k hk).2⟩
      have hon : OnWay N L 0 0 := fun _ => hrn
      have HP5 := Lib.hid hp5
      have Hro := Lib.hid hro
      clear hls ho5 hp4 hp5 hb5 hro hrn Hr3 Hbx
      go_wp2_with fail
      go_loopw [11, 12] (fun c i wx => ∃ (x y : Nat), x ≤ L.length ∧ y ≤ N.length ∧ c = .int .i64 (x : Int) ∧ i = .int .i64 (y : Int) ∧ OnWay N L y x ∧ Below w5.heap.size w5 wx) (fun _ i _ => N.length - (intOf i).toNat)
      case atStart => exact ⟨0, 0, Nat.zero_le _, Nat.zero_le _, rfl, rfl, hon, Below.refl _ _⟩
      case round =>
        clear hon
        obtain ⟨x, y, hx, hy, rfl, rfl, hon, hb⟩ := hrel
        by_cases hyl : y < N.length
        · obtain ⟨m, hm'⟩ : ∃ m, N[y]? = some m := ⟨_, List.getElem?_eq_getElem hyl⟩
          have Hm' := Lib.hid hm'
          have hon' : OnWay N L y x := hon
          have Hon := Lib.hid hon
          have HBx := Lib.hid hb
          have hylI : decide ((y : Int) < (N.length : Int)) = true := by simpa using hyl
          clear hm' hon hon' hb
          go_wp2_with fail
          generalize hwo : wr = wo at HBx ⊢
          clear hwo
          go_loopw [11] (fun c wz => ∃ x : Nat, x ≤ L.length ∧ c = .int .i64 (x : Int) ∧ OnWay N L y x ∧ Below w5.heap.size w5 wz) (fun c _ => L.length - (intOf c).toNat)
          case atStart => exact ⟨x, hx, rfl, Hon.out, HBx.out⟩
          case round =>
            clear Hon HBx
            obtain ⟨x2, hx2, rfl, hon, hb⟩ := hrel
            obtain ⟨rL, rN⟩ := Hro.out _ hb
            obtain ⟨gN, capN, hvN, -, hcN⟩ := row_at rN Hm'.out
            simp only [Value.slice.injEq, true_and] at hvN
            obtain ⟨rfl, rfl⟩ := hvN
            by_cases hxl : x2 < L.length
            · have e1 : decide ((x2 : Int) < (L.length : Int)) = true := by simpa using hxl
              have e2 : ((x2 : Int) == (L.length : Int)) = false := beq_eq_false_iff_ne.2 (by omega)
              obtain ⟨m2, hm2⟩ : ∃ m2, L[x2]? = some m2 := ⟨_, List.getElem?_eq_getElem hxl⟩
              obtain ⟨gL, capL, hvL, -, hcL⟩ := row_at rL hm2
              simp only [Value.slice.injEq, true_and] at hvL
              obtain ⟨rfl, rfl⟩ := hvL
              have q0 := hcL 0 _ rfl
              have q1 := hcL 1 _ rfl
              have q2 := hcL 2 _ rfl
              have q3 := hcL 3 _ rfl
              have q4 := hcL 4 _ rfl
              have q5 := hcL 5 _ rfl
              have q6 := hcL 6 _ rfl
              have q7 := hcL 7 _ rfl
              rw [Nat.add_zero] at q0
              have r0 := hcN 0 _ rfl
              have r1 := hcN 1 _ rfl
              have r2 := hcN 2 _ rfl
              have r3 := hcN 3 _ rfl
              have r4 := hcN 4 _ rfl
              have r5 := hcN 5 _ rfl
              have r6 := hcN 6 _ rfl
              have r7 := hcN 7 _ rfl
              rw [Nat.add_zero] at r0
              have heq := run_neq_msg m2 m
              have HB := Lib.hid hb
              by_cases hmm : m2 = m
              · rw [(Ms.eqb_iff _ _).2 hmm] at heq
                subst hmm
                have HN := Lib.hid (hon.meet Hm'.out hm2)
                unfold Ms.val at heq
                clear hon rL rN hcN hcL hm2 hb
                go_wp2_with fail
                go_quiet (fail)
                have hb2 : Below w5.heap.size w5 (wr.drewN nq) := HB.out.trans ⟨rfl, rfl, rfl, Nat.le_refl _, fun _ _ => rfl⟩
                clear heq q0 q1 q2 q3 q4 q5 q6 q7 r0 r1 r2 r3 r4 r5 r6 r7
                go_wp2_with fail
                go_roundw
                case rel => exact ⟨x2 + 1, y + 1, by omega, by omega, by go_num, by go_num, HN.out, hb2⟩
                case measure => simp [intOf]; omega
              · rw [show m2.eqb m = false by rw [Ms.eqb_dec]; simpa using hmm] at heq
                have HN := Lib.hid (hon.skip Hm'.out hm2 hmm)
                unfold Ms.val at heq
                clear hon rL rN hcN hcL hm2 hb hmm
                go_wp2_with fail
                go_quiet (fail)
                have hb2 : Below w5.heap.size w5 (wr.drewN nq) := HB.out.trans ⟨rfl, rfl, rfl, Nat.le_refl _, fun _ _ => rfl⟩
                clear heq q0 q1 q2 q3 q4 q5 q6 q7 r0 r1 r2 r3 r4 r5 r6 r7
                go_wp2_with fail
                go_roundw
                case rel => exact ⟨x2 + 1, by omega, by go_num, HN.out, hb2⟩
                case measure => simp [intOf]; omega
            · obtain rfl : x2 = L.length := by omega
              have e1 : decide ((L.length : Int) < (L.length : Int)) = false := by simp
              have hdn := hon.done hyl
              have e3 : decide ((y : Int) < (N.length : Int) - 1) = false := by simp; omega
              have hwrp : IntKind.i64.wrap ((N.length : Int) - 1) = (N.length : Int) - 1 := by rw [IntKind.wrap_i64]; omega
              have HB := Lib.hid hb
              clear hon rL rN hcN hb
              go_wp2_with fail
              go_quiet (fail)
              have hb2 : Below w5.heap.size w5 (wr.drewN nq) := HB.out.trans ⟨rfl, rfl, rfl, Nat.le_refl _, fun _ _ => rfl⟩
              go_wp2_with fail
              go_roundw
              case rel => exact ⟨L.length, y + 1, by omega, by omega, rfl, by go_num, fun h => by omega, hb2⟩
              case measure => simp [intOf]; omega
        · have HB := Lib.hid (HP5.out.quiet hb).below
          have e64 : decide ((N.length : Int) ≤ 64) = true := by simp; omega
          have hsh : ∀ W : World, Below w.heap.size w W → Hid (Below w.heap.size w (W.alloc (.cells Ms.zero.cells.toArray 23))) := fun W h => h.alloc h.size _
          have Hsh := Lib.hid hsh
          have Hsz := Lib.hid (HP5.out.quiet hb).hB
          clear hb hon hsh
          go_wp2_with fail
          refine (bnew_any (w := wr)).mono ?_
          rintro e w6 ⟨rfl, hb6, hbe6⟩
          have hnt := newtake_any _ hb6
          unfold Ms.val at hnt
          go_wp2_with fail
          refine hnt.mono ?_
          rintro e w7 ⟨rfl, hT7⟩
          have HQ := Lib.hid (Hsh.out _ (HB.out.trans ((newtake_below hbe6 hT7).mono Hsz.out)))
          clear hnt hT7 hb6 hbe6
          go_wp2_with fail
          go_ret
          exact ⟨rfl, HQ.out⟩
end Go.Proofs.Ytibpkdaiaoccjaa
