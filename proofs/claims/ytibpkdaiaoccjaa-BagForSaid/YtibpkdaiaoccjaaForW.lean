/- BagFor: its walk. -/
import Derived.Test.YtibpkdaiaoccjaaBag1
import Derived.Test.YtibpkdaiaoccjaaForPlain
import Derived.Test.YtibpkdaiaoccjaaHeavy
namespace Go.Proofs.Ytibpkdaiaoccjaa
open Go.RowKit
theorem irow_len {w : World} {base : Nat} {v : Value} {n : Nat} {xs : List Value} (h : w.ownsRow base 3 1 v n xs) : ∃ a cap, v = .slice a n cap := by
  rcases ownsRow_form h with ⟨h0, h1⟩ | ⟨g, cap, h0, _⟩
  · exact ⟨none, 0, by rw [h0, h1.1]⟩
  · exact ⟨_, _, h0⟩
theorem irow_at {w : World} {base : Nat} {v : Value} {P : List Nat} (h : w.ownsRow base 3 1 v P.length (icells P)) {c q : Nat} (hq : P[c]? = some q) :
    ∃ g cap, v = .slice (some ⟨g, 0, none⟩) P.length cap ∧ w.cell? ⟨g, c, none⟩ = some (.int .i64 (q : Int)) := by
  have hc := (List.getElem?_eq_some_iff.1 hq).1
  rcases ownsRow_form h with ⟨-, h1⟩ | ⟨g, cap, rfl, -, hg, -⟩
  · have := h1.1; omega
  · refine ⟨g, cap, rfl, ?_⟩
    rw [h.cellAt c (by omega)]
    simp [icells, List.getElem?_map, hq]
set_option maxRecDepth 100000 in
set_option maxHeartbeats 8000000 in
theorem bagfor_any {v : Value} {l : List Stp} {w : World} (ha : ArgRow w v 10 (l.map Stp.cells)) (hf : ∀ s ∈ l, s.fits) (z : Int) :
    Calls Try.prog 4 #[v, .int .i64 z] w fun e w' => e = .returned (.bool true) ∧ Below w.heap.size w w' := by
  obtain ⟨base, cap, rfl, hm⟩ := ha.slice
  unfold maxLen at hm
  have hhv := heavy_any ha
  have hst : ∀ wr, Below w.heap.size w wr → ∀ k s, l[k]? = some s → _ := fun wr hb k s hk => (ha.below hb).step (k := k) (s := s) hk
  have Hst := Lib.hid hst
  have Hf := Lib.hid hf
  clear hst ha hf
  go_enter Try.func4, Try.ntmps4
  go_wp2_with fail
  refine hhv.mono ?_
  rintro e w1 ⟨B, rfl, -, rfl⟩
  clear hhv
  cases B
  case true =>
    go_wp2_with fail
    go_ret
    exact ⟨rfl, Below.refl _ _⟩
  go_wp2_with fail
  refine (bnew_any (w := w)).mono ?_
  rintro e w1 ⟨rfl, hbag, hbe⟩
  have hB := B1.made (w0 := w) (K := fun _ => False) (B := w.heap.size) (Nat.le_refl _) (Below.refl _ _) (fun k hk => hk.elim) hbag hbe
  have HB := Lib.hid hB
  clear hbag hbe hB
  go_wp2_with fail
  go_loopw [6] (fun i wr => ∃ (k : Nat) (L : List Ms), k ≤ l.length ∧ i = .int .i64 (k : Int) ∧ B1 ⟨w.heap.size, w, fun _ => False, w⟩ wr w.heap.size L ∧ good L) (fun i _ => l.length - (intOf i).toNat)
  case atStart => exact ⟨0, [], Nat.zero_le _, rfl, HB.out, good.nil⟩
  case round =>
    clear HB
    obtain ⟨k, L, hk, rfl, hp, hg⟩ := hrel
    by_cases hlt : k < l.length
    · obtain ⟨s, hs⟩ : ∃ s, l[k]? = some s := ⟨_, List.getElem?_eq_getElem hlt⟩
      obtain ⟨b, off, cap', hv, hbl, hc⟩ := Hst.out wr hp.below k s hs
      simp only [Value.slice.injEq, true_and] at hv
      obtain ⟨rfl, rfl⟩ := hv
      have q0 := hc 0 _ rfl
      rw [Nat.add_zero] at q0
      by_cases hkd : s.kind = 0
      · have ek : (s.kind == 0) = true := by simpa using hkd
        have hsf := Hf.out s (List.mem_of_getElem? hs)
        have hsd := hp.send hg.1 s.m hsf.2.2
        have hg2 := hg.send hsf.2.2
        have q2 := hc 2 _ rfl
        have q3 := hc 3 _ rfl
        have q4 := hc 4 _ rfl
        have q5 := hc 5 _ rfl
        have q6 := hc 6 _ rfl
        have q7 := hc 7 _ rfl
        have q8 := hc 8 _ rfl
        have q9 := hc 9 _ rfl
        unfold Ms.val at hsd
        clear hkd hs hc hp hg hsf
        go_wp2_with fail
        refine hsd.mono ?_
        rintro e w2 ⟨rfl, hp2⟩
        have HP := Lib.hid hp2
        clear hsd hp2 q0 q2 q3 q4 q5 q6 q7 q8 q9
        go_wp2_with fail
        go_roundw
        case rel => exact ⟨k + 1, _, by omega, by go_num, HP.out, hg2⟩
        case measure => simp [intOf]; omega
      · have ek : (s.kind == 0) = false := by simpa using hkd
        have Hp := Lib.hid hp
        have hg' := hg
        clear hkd hs hc hp
        go_wp2_with fail
        go_roundw
        case rel => exact ⟨k + 1, L, by omega, by go_num, Hp.out, hg'⟩
        case measure => simp [intOf]; omega
    · have hls := hp.list (Nat.le_trans hg.1 (by omega))
      have hg' := hg
      have HP0 := Lib.hid hp
      clear hp hg
      go_wp2_with fail
      refine hls.mono ?_
      rintro e w2 ⟨v2, rfl, ho2, hp2, hb2⟩
      have hfr := hp2.fors (Nat.le_trans hg'.1 (by omega)) z
      obtain ⟨a2, cap2, rfl⟩ := row_len ho2
      have Ho2 := Lib.hid ho2
      have Hb2 := Lib.hid hb2
      clear hls ho2 hb2
      go_wp2_with fail
      refine hfr.mono ?_
      rintro e w3 ⟨v3, rfl, ho3, hp3, hb3⟩
      obtain ⟨a3, cap3, rfl⟩ := irow_len ho3
      have hPl := forI_len z L 0
      have hLl := hg'.1
      generalize hPd : forI z 0 L = P at ho3 hPl ⊢
      have HPd := Lib.hid hPd
      clear hPd
      have hs2 := Hb2.out.size
      have hs3 := hb3.size
      have hq := HP0.out.more (K' := fun k => (Value.slice a2 L.length cap2).ownBlock = some k ∨ (Value.slice a3 P.length cap3).ownBlock = some k) (Hb2.out.trans (hb3.mono hs2)) (fun k hk => by
        rcases hk with h | h
        · have := Ho2.out.lt k h
          exact ⟨by omega, .inr this.1⟩
        · have := ho3.lt k h
          exact ⟨this.2, .inr (by omega)⟩)
      have hr2 : ∀ w' L', B1 ⟨w.heap.size, w, fun k => (Value.slice a2 L.length cap2).ownBlock = some k ∨ (Value.slice a3 P.length cap3).ownBlock = some k, w3⟩ w' w.heap.size L' → w'.ownsRow wr.heap.size 23 8 (.slice a2 L.length cap2) L.length (mrows L) := fun w' L' h =>
        h.row (ownsRow_keep Ho2.out fun k hk => hb3.block k (Ho2.out.lt k hk).2) fun k hk => .inl hk
      have hr3 : ∀ w' L', B1 ⟨w.heap.size, w, fun k => (Value.slice a2 L.length cap2).ownBlock = some k ∨ (Value.slice a3 P.length cap3).ownBlock = some k, w3⟩ w' w.heap.size L' → w'.ownsRow w2.heap.size 3 1 (.slice a3 P.length cap3) P.length (icells P) := fun w' L' h =>
        h.row ho3 fun k hk => .inr hk
      generalize (fun k => (Value.slice a2 L.length cap2).ownBlock = some k ∨ (Value.slice a3 P.length cap3).ownBlock = some k) = K' at hq hr2 hr3
      generalize w3 = wk at hq hr2 hr3
      have HQ := Lib.hid hq
      have Hr2 := Lib.hid hr2
      have Hr3 := Lib.hid hr3
      have hgL := hg'
      clear HP0 Hst Hf hfr Ho2 Hb2 ho3 hp3 hb3 hp2 hq hr2 hr3 hs2 hs3 hg'
      go_wp2_with fail
      go_loopw [9, 10] (fun c i wx => ∃ t : Nat, t ≤ L.length ∧ i = .int .i64 (t : Int) ∧ c = .int .i64 ((forI z 0 (L.take t)).length : Int) ∧ B1 ⟨w.heap.size, w, K', wk⟩ wx w.heap.size L) (fun _ i _ => L.length - (intOf i).toNat)
      case atStart => exact ⟨0, Nat.zero_le _, rfl, by simp [forI], HQ.out⟩
      case round =>
        clear HQ
        obtain ⟨t, ht, rfl, rfl, hp⟩ := hrel
        by_cases hlt2 : t < L.length
        · obtain ⟨m, hm'⟩ : ∃ m, L[t]? = some m := ⟨_, List.getElem?_eq_getElem hlt2⟩
          obtain ⟨g2, cap2', hv2, -, hc2⟩ := row_at (Hr2.out _ _ hp) hm'
          simp only [Value.slice.injEq, true_and] at hv2
          obtain ⟨rfl, rfl⟩ := hv2
          have q2 := hc2 2 _ rfl
          have hsn : forI z 0 (L.take (t + 1)) = forI z 0 (L.take t) ++ (if m.dst = z then [t] else []) := by
            have e : L.take (t + 1) = L.take t ++ [m] := by rw [List.take_add_one, hm']; rfl
            rw [e, forI_snoc, show 0 + (L.take t).length = t by simp; omega]
          by_cases hz : m.dst = z
          · have hzb : (m.dst == z) = true := by simpa using hz
            have hn := forI_next hm' hz
            rw [if_pos hz] at hsn
            have hln : (forI z 0 (L.take (t + 1))).length = (forI z 0 (L.take t)).length + 1 := by rw [hsn]; simp
            rw [HPd.out] at hn
            generalize (forI z 0 (L.take t)).length = c at hn hln ⊢
            have hcP := (List.getElem?_eq_some_iff.1 hn).1
            obtain ⟨g3, cap3', hv3, d0⟩ := irow_at (Hr3.out _ _ hp) hn
            simp only [Value.slice.injEq, true_and] at hv3
            obtain ⟨rfl, rfl⟩ := hv3
            have e1 : decide ((P.length : Int) ≤ (c : Int)) = false := by simp; omega
            have HP := Lib.hid hp
            have Hln := Lib.hid hln
            clear hm' hc2 hsn hz hn hln hp
            go_wp2_with fail
            go_roundw
            case rel => exact ⟨t + 1, by omega, by go_num, by rw [Hln.out]; go_num, HP.out⟩
            case measure => simp [intOf]; omega
          · have hzb : (m.dst == z) = false := by simpa using hz
            rw [if_neg hz, List.append_nil] at hsn
            have HP := Lib.hid hp
            have Hsn := Lib.hid hsn
            clear hm' hc2 hsn hz hp
            go_wp2_with fail
            go_roundw
            case rel => exact ⟨t + 1, by omega, by go_num, by rw [Hsn.out], HP.out⟩
            case measure => simp [intOf]; omega
        · have et : L.take t = L := List.take_of_length_le (by omega)
          have ec : (forI z 0 (L.take t)).length = P.length := by rw [et, HPd.out]
          rw [ec]
          have HP := Lib.hid hp
          clear et ec hp
          go_wp2_with fail
          go_loopw [11] (fun i wx => ∃ (i' : Int) (L' : List Ms), -1 ≤ i' ∧ i' < P.length ∧ i = .int .i64 i' ∧ B1 ⟨w.heap.size, w, K', wk⟩ wx w.heap.size L' ∧ good L' ∧ TakenFrom z L (i' + 1).toNat L') (fun i _ => (intOf i + 1).toNat)
          case atStart => exact ⟨(P.length : Int) - 1, L, by omega, by omega, rfl, HP.out, hgL, by rw [show ((P.length : Int) - 1 + 1).toNat = P.length by omega, ← HPd.out]; exact TakenFrom.start z L⟩
          case round =>
            clear HP
            obtain ⟨i', L', hi0, hi1, rfl, hp, hg', htk⟩ := hrel
            by_cases hlt3 : 0 ≤ i'
            · obtain ⟨j, rfl⟩ := Int.eq_ofNat_of_zero_le hlt3
              have hjP : j < P.length := by omega
              obtain ⟨q, hq⟩ : ∃ q, P[j]? = some q := ⟨_, List.getElem?_eq_getElem hjP⟩
              obtain ⟨g3, cap3', hv3, d0⟩ := irow_at (Hr3.out _ _ hp) hq
              simp only [Value.slice.injEq, true_and] at hv3
              obtain ⟨rfl, rfl⟩ := hv3
              rw [show ((j : Int) + 1).toNat = j + 1 by omega] at htk
              obtain ⟨hB, hM, hT⟩ := htk.step (by rw [HPd.out]; exact hq)
              have htake := hp.take hg'.1 (q : Int)
              have hg2 := hg'.take (q : Int)
              rw [hB] at htake
              simp only [if_true] at htake
              have hmb : ((atM L' (q : Int)).dst != z) = false := by simpa using hM
              generalize atM L' (q : Int) = M at htake hmb
              generalize takeL L' (q : Int) = L2 at htake hT hg2
              have HT := Lib.hid hT
              have Hq := Lib.hid hq
              have hjj : IntKind.i64.wrap ((j : Int) - 1) = (j : Int) - 1 := by rw [IntKind.wrap_i64]; omega
              unfold Ms.val at htake
              clear hp htk hT hB hM hq hg'
              go_wp2_with fail
              refine htake.mono ?_
              rintro e w4 ⟨rfl, hp4⟩
              have HP := Lib.hid (hp4.alloc (.cells M.cells.toArray 23))
              clear htake hp4
              go_wp2_with fail
              go_roundw
              case rel => exact ⟨(j : Int) - 1, L2, by omega, by omega, rfl, HP.out, hg2, by rw [show ((j : Int) - 1 + 1).toNat = j by omega]; exact HT.out⟩
              case measure => simp [intOf]
            · obtain rfl : i' = -1 := by omega
              have hlen : L'.length + P.length = L.length := by
                have := htk.1
                rw [HPd.out] at this
                simpa using this
              have hcut := hp.cut hg'.1 z
              have hnone : ∀ m ∈ keepL (wishOf z) 0 L', (m.dst == z) = false ∧ (m.src == z) = false := fun m hm => cut_none hm
              have hkl := keepL_len (wishOf z) L' 0
              have hg5 := hg'.keep (wishOf z)
              generalize keepL (wishOf z) 0 L' = R at hcut hnone hkl hg5
              obtain ⟨nn, hnn⟩ : ∃ nn : Nat, nn = L'.length - R.length := ⟨_, rfl⟩
              rw [show (L'.length : Int) - (R.length : Int) = (nn : Int) by omega] at hcut
              have hfin : ((R.length : Int) + (nn : Int) + (P.length : Int) == (L.length : Int)) = true := by simp; omega
              have hnnb : nn ≤ 64 := by have := hg'.1; omega
              have hRb := hg5.1
              have Hno := Lib.hid hnone
              clear hp htk hlen hg' hnone hkl hg5 hnn Hr3 Hr2
              go_wp2_with fail
              refine hcut.mono ?_
              rintro e w4 ⟨rfl, hp4⟩
              have hls := hp4.list (Nat.le_trans hRb (by omega))
              clear hcut
              go_wp2_with fail
              refine hls.mono ?_
              rintro e w5 ⟨v5, rfl, ho5, hp5, hb5⟩
              obtain ⟨a5, cap5, rfl⟩ := row_len ho5
              have Ho5 := Lib.hid ho5
              have Hp5 := Lib.hid hp5
              clear hls ho5 hp5 hp4 hb5
              go_wp2_with fail
              go_loop [16] (fun i => ∃ x : Nat, x ≤ R.length ∧ i = .int .i64 (x : Int)) (fun i => R.length - (intOf i).toNat)
              case atStart => exact ⟨0, Nat.zero_le _, rfl⟩
              case round =>
                obtain ⟨x, hx, rfl⟩ := hrel
                by_cases hlt4 : x < R.length
                · obtain ⟨m, hm'⟩ : ∃ m, R[x]? = some m := ⟨_, List.getElem?_eq_getElem hlt4⟩
                  obtain ⟨g5, cap5', hv5, -, hc5⟩ := row_at Ho5.out hm'
                  simp only [Value.slice.injEq, true_and] at hv5
                  obtain ⟨rfl, rfl⟩ := hv5
                  have q1 := hc5 1 _ rfl
                  have q2 := hc5 2 _ rfl
                  obtain ⟨n1, n2⟩ := Hno.out m (List.mem_of_getElem? hm')
                  clear hm' hc5
                  go_wp2_with fail
                  go_round
                  case rel => exact ⟨x + 1, by omega, by go_num⟩
                  case measure => simp [intOf]; omega
                · go_wp2_with fail
                  refine (bnew_any (w := w5)).mono ?_
                  rintro e w6 ⟨rfl, hb6, hbe6⟩
                  have hnt := newtake_any _ hb6
                  unfold Ms.val at hnt
                  go_wp2_with fail
                  refine hnt.mono ?_
                  rintro e w7 ⟨rfl, hT7⟩
                  have hp7 := Hp5.out.quiet (newtake_below hbe6 hT7)
                  have HQ := Lib.hid (hp7.alloc (.cells Ms.zero.cells.toArray 23)).below
                  clear hnt hT7 hb6 hbe6 hp7
                  go_wp2_with fail
                  go_ret
                  exact ⟨rfl, HQ.out⟩
end Go.Proofs.Ytibpkdaiaoccjaa
