/- ExtentApart: its walk. -/
import Derived.Test.YtajbodfdohhhoaaApartPlain
namespace Go.Proofs.Ytajbodfdohhhoaa
open Go.RowKit
/-- A law's own row beside the map. -/
def HS (w0 : World) (b : Nat) (n : Int) (wr : World) (hv : Value) (L H : List Rg) : Prop :=
  wr.ownsRow w0.heap.size 27 2 hv H.length (rrows H) ∧ MS w0 (fun q => hv.ownBlock = some q) b n wr L
section
variable {w0 wr w' : World} {b : Nat} {n : Int} {hv hv' : Value} {L L' H H' : List Rg}
theorem HS.row (h : HS w0 b n wr hv L H) : RowR wr hv H := ownsRow_base h.1 fun _ _ => Nat.zero_le _
theorem HS.more (h : HS w0 b n wr hv L H) (hb : Below wr.heap.size wr w') : HS w0 b n w' hv L H := ⟨ownsRow_keep h.1 fun k hk => hb.block k (h.1.lt k hk).2, h.2.more hb⟩
theorem HS.turn (h : HS w0 b n wr hv L H) (hM : MS w0 (fun q => hv.ownBlock = some q) b n w' L') (hk : ∀ q, hv.ownBlock = some q → w'.heap[q]? = wr.heap[q]?) : HS w0 b n w' hv L' H := ⟨ownsRow_keep h.1 hk, hM⟩
theorem HS.grown (h : HS w0 b n wr hv L H) (hg : wr.grownBy w' hv.ownBlock) (ho : w'.ownsRow w0.heap.size 27 2 hv' H'.length (rrows H')) (hor : hv'.ownBlock = hv.ownBlock ∨ hv'.ownBlock = some wr.heap.size) : HS w0 b n w' hv' L H' := by
  obtain ⟨hr, v, h1, h2, h3, h4⟩ := h
  refine ⟨ho, v, h1.keeps fun k hk => hg.block k (h1.lt k hk) fun e => (h3 k hk).2 e.symm, ⟨hg.os.trans h2.os, hg.tape.trans h2.tape, hg.output.trans h2.output, Nat.le_trans h2.size hg.size, fun k hk => ?_⟩, fun k hk => ⟨(h3 k hk).1, fun e => ?_⟩, fun k hk => (ho.lt k hk).2⟩
  · exact (hg.block k (Nat.lt_of_lt_of_le hk h2.size) fun e => by have := (hr.lt k e.symm).1; omega).trans (h2.block k hk)
  · rcases hor with h5 | h5
    · exact (h3 k hk).2 (h5 ▸ e)
    · rw [h5] at e
      obtain rfl : wr.heap.size = k := by cases e; rfl
      have := h1.lt _ hk; omega
/-- The row is another one, made since. -/
theorem HS.renew (h : HS w0 b n wr hv L H) (hb : Below wr.heap.size wr w') (ho : w'.ownsRow wr.heap.size 27 2 hv' H'.length (rrows H')) : HS w0 b n w' hv' L H' :=
  ⟨ownsRow_base ho fun k hk => Nat.le_trans h.2.below.size (ho.lt k hk).1, h.2.also hb fun q hq => ⟨.inr (ho.lt q hq).1, (ho.lt q hq).2⟩⟩
end
set_option maxRecDepth 100000 in
set_option maxHeartbeats 8000000 in
theorem extentapart_any {v : Value} {l : List Stp} {w : World} (ha : ArgRow w v 4 (l.map Stp.cells)) :
    Calls Try.prog 3 #[v] w fun e w' => e = .returned (.bool true) ∧ Below w.heap.size w w' := by
  obtain ⟨i0, hi0, hz0, hz1, hz2⟩ := info_parts Try.infoRg
  have Hi := Lib.hid hi0
  have Hz := Lib.hid hz0
  have Hz1 := Lib.hid hz1
  have Hz2 := Lib.hid hz2
  clear hi0 hz0 hz1 hz2
  obtain ⟨base, cap, rfl, hm⟩ := ha.slice
  unfold maxLen at hm
  have hst : ∀ wr, Below w.heap.size w wr → ∀ k s, l[k]? = some s → _ := fun wr hb k s hk => (ha.below hb).step (k := k) (s := s) hk
  have Hst := Lib.hid hst
  clear hst ha
  have hn := MS.new (wr := w) w (fun _ => False) (Below.refl _ _) (fun _ h => h.elim) 100
  have Hn := Lib.hid hn
  clear hn
  by_cases hlen : (60 : Int) < (l.length : Int)
  · have e1 : decide ((60 : Int) < (l.length : Int)) = true := by simpa using hlen
    go_enter Try.func3, Try.ntmps3
    go_wp2_with fail
    go_ret
    exact ⟨rfl, Below.refl _ _⟩
  have e1 : decide ((60 : Int) < (l.length : Int)) = false := by simpa using hlen
  go_enter Try.func3, Try.ntmps3
  go_wp2_with fail
  refine Hn.out.mono ?_
  rintro e w1 ⟨rfl, hM, -⟩
  have e0 : nOf 100 = 100 := rfl
  rw [e0] at hM
  have hown0 : (w1.alloc (.cells #[] 27)).ownsRow w1.heap.size 27 2 (.slice (some ⟨w1.heap.size, 0, none⟩) 0 0) 0 [] := World.ownsRow_lit (base := w1.heap.size) (size := 2) (e := 27) w1 #[] 0 (Nat.le_refl _) (by unfold maxLen; omega) rfl
  have hbA : Below w1.heap.size w1 (w1.alloc (.cells #[] 27)) := (Below.refl _ _).alloc (Nat.le_refl _) _
  have hH : HS w (w.heap.size + 1) 100 (w1.alloc (.cells #[] 27)) (.slice (some ⟨w1.heap.size, 0, none⟩) 0 0) [⟨0, 100⟩] [] :=
    ⟨ownsRow_base hown0 fun k hk => Nat.le_trans hM.below.size (hown0.lt k hk).1, hM.also hbA fun q hq => ⟨.inr (hown0.lt q hq).1, (hown0.lt q hq).2⟩⟩
  have HH := Lib.hid hH
  clear hM e0 e1 hown0 hbA hH
  go_wp2_with fail
  go_loopw [4, 5, 6, 7, 8, 9, 10, 11, 12] (fun hv i _ _ _ _ _ _ _ wr => ∃ (k : Nat) (L H : List Rg), k ≤ l.length ∧ i = .int .i64 (k : Int) ∧ HS w (w.heap.size + 1) 100 wr hv L H ∧ AInv L H ∧ H.length ≤ k) (fun _ i _ _ _ _ _ _ _ _ => l.length - (intOf i).toNat)
  case atStart => exact ⟨0, _, _, Nat.zero_le _, rfl, HH.out, AInv.start, Nat.zero_le _⟩
  case round =>
    clear HH
    obtain ⟨k, L, H, hk, rfl, hp, hI, hHk⟩ := hrel
    by_cases hlt : k < l.length
    · obtain ⟨s, hs⟩ : ∃ s, l[k]? = some s := ⟨_, List.getElem?_eq_getElem hlt⟩
      obtain ⟨b, off, cap', hv, hbl, hc⟩ := Hst.out wr hp.2.below k s hs
      simp only [Value.slice.injEq, true_and] at hv
      obtain ⟨rfl, rfl⟩ := hv
      have q0 := hc 0 _ rfl
      rw [Nat.add_zero] at q0
      have q1 := hc 1 _ rfl
      have Hq1 := Lib.hid (fun W (hb : Below w.heap.size w W) => (Hst.out W hb k s hs))
      have HP := Lib.hid hp
      have HI := Lib.hid hI
      obtain ⟨a4, cap4, rfl⟩ := hp.row.lens
      clear hs hc hp hI
      go_upto_if 29 with (fail)
      go_cut [4, 6, 7, 8, 9] from 24 to 145 (fun hv _ _ _ _ W => ∃ (L H : List Rg), HS w (w.heap.size + 1) 100 W hv L H ∧ AInv L H ∧ H.length ≤ k + 1)
      case first =>
        by_cases hk0 : s.kind = 0
        · have ek : (s.kind == 0) = true := by simpa using hk0
          have hal := HP.out.2.alloc s.k
          have hat := alloc_take (n := 100) (k := s.k) HP.out.2.rise
          have hmo := alloc_more (k := s.k) (L := L)
          generalize hAE : allocE s.k L = ae at hal hat hmo
          generalize hAR : allocR s.k L = a at hal hat
          generalize hAL : allocL s.k L = L1 at hal hat hmo
          have Hat := Lib.hid hat
          have Hmo := Lib.hid hmo
          unfold Rg.val at hal
          clear hat hmo hAE hAR hAL hk0
          go_wp2_with fail
          refine hal.mono ?_
          rintro e w2 ⟨rfl, hp2, hk2⟩
          have HP2 := Lib.hid (HP.out.turn hp2 hk2)
          clear hal hp2 hk2 q0 q1
          by_cases h0 : ae = 0
          · subst h0
            obtain ⟨b1, b2, -⟩ := Hat.out rfl
            subst b2
            have HI2 := Lib.hid (HI.out.alloc HP.out.2.rise b1)
            have hbA : Below w2.heap.size w2 ((w2.alloc (.cells #[.int .i64 a.lo, .int .i64 a.hi] 27)).alloc (.cells #[.int .i64 a.lo, .int .i64 a.hi] 27)) := ((Below.refl _ _).alloc (Nat.le_refl _) _).alloc (by simp) _
            have hs4 := HP2.out.more hbA
            have hcl : ∀ j u, a.cells[j]? = some u → ((w2.alloc (.cells #[.int .i64 a.lo, .int .i64 a.hi] 27)).alloc (.cells #[.int .i64 a.lo, .int .i64 a.hi] 27)).cell? ((⟨w2.heap.size + 1, 0, none⟩ : Addr).add j) = some u := fun j u hj => by
              rw [Addr.add_mid, Nat.zero_add, show w2.heap.size + 1 = (w2.alloc (.cells #[.int .i64 a.lo, .int .i64 a.hi] 27)).heap.size by simp, World.cell?_alloc_new]
              simpa [Rg.cells] using hj
            have hbs : w.heap.size ≤ ((w2.alloc (.cells #[.int .i64 a.lo, .int .i64 a.hi] 27)).alloc (.cells #[.int .i64 a.lo, .int .i64 a.hi] 27)).heap.size := hs4.2.below.size
            have hml : H.length + 1 ≤ maxLen := by unfold maxLen; omega
            have Hcl := Lib.hid hcl
            have HS4 := Lib.hid hs4
            have O1 := one_rcells a
            clear b1 hbA hs4 hcl
            go_wp2_with (refine wpList_append_own_at _ rfl (.tmp 42) (.tmp 44) 25 rfl w.heap.size 27 i0 _ 2 16 Try.underlying25 Hi.out Hz.out Hz1.out Hz2.out rfl (by decide) _ H.length (rrows H) rfl HS4.out.1 ⟨w2.heap.size + 1, 0, none⟩ 1 1 a.cells rfl rfl Hcl.out O1 hml (by omega) hbs ?_)
            intro v5 w5 hown5 hgrow hnn hor
            have hs5 : HS w (w.heap.size + 1) 100 w5 v5 (takeS 100 L a) (H ++ [a]) := HS4.out.grown hgrow (by rw [List.length_append, rrows_app]; exact hown5) (by simpa using hor)
            have HS5 := Lib.hid hs5
            clear hown5 hgrow hor hs5 hnn
            go_wp2_with fail
            go_meet
            exact ⟨_, _, HS5.out, HI2.out, by simp; omega⟩
          · have e0 : (ae == 0) = false := by simpa using h0
            have e1 := Hmo.out h0
            subst e1
            have HS4 := Lib.hid (HP2.out.more ((Below.refl w2.heap.size w2).alloc (Nat.le_refl _) (.cells #[.int .i64 a.lo, .int .i64 a.hi] 27)))
            clear h0
            go_wp2_with fail
            go_meet
            exact ⟨_, _, HS4.out, HI.out, by omega⟩
        · have ek : (s.kind == 0) = false := by simpa using hk0
          by_cases hK : 0 ≤ s.k ∧ s.k < (H.length : Int)
          · obtain ⟨hK0, hK1⟩ := hK
            obtain ⟨K, hKe⟩ := Int.eq_ofNat_of_zero_le hK0
            have hKl : K < H.length := by omega
            obtain ⟨a, haK⟩ : ∃ a, H[K]? = some a := ⟨_, List.getElem?_eq_getElem hKl⟩
            have f1 : decide ((0 : Int) ≤ (K : Int)) = true := by simp
            have f2 : decide ((K : Int) < (H.length : Int)) = true := by simpa using hKl
            obtain ⟨g1, g2⟩ := HI.out.give HP.out.2.rise haK
            obtain ⟨gh, ch, hv, -, hcl, hcc⟩ := HP.out.row.at haK
            simp only [Value.slice.injEq, true_and] at hv
            obtain ⟨rfl, rfl⟩ := hv
            have p0 := hcc 0 _ rfl
            rw [Nat.add_zero] at p0
            have p1 := hcc 1 _ rfl
            have hKI : (K : Int) < (H.length : Int) := by omega
            have hb3 : Below wr.heap.size wr (wr.alloc (.cells #[.int .i64 a.lo, .int .i64 a.hi] 27)) := (Below.refl _ _).alloc (Nat.le_refl _) _
            have hs3 := HP.out.more hb3
            have hgv := hs3.2.give a
            rw [g1] at hgv
            unfold Rg.val at hgv
            have HS3 := Lib.hid hs3
            have HI4 := Lib.hid g2
            have Hq := Lib.hid (fun W (hb : Below w.heap.size w W) => by
              obtain ⟨b', off', cap', hv, -, hc⟩ := Hq1.out W hb
              simp only [Value.slice.injEq, Option.some.injEq, Addr.mk.injEq, and_true, true_and] at hv
              obtain ⟨⟨rfl, rfl⟩, rfl⟩ := hv
              have := hc 1 _ rfl
              rw [hKe] at this
              exact this)
            rw [hKe] at q1
            clear hk0 hK0 hK1 hKe haK g1 g2 hcc hb3 hs3 Hq1
            go_wp2_with fail
            refine hgv.mono ?_
            rintro e w4 ⟨rfl, hp4, hk4⟩
            have hs4 := HS3.out.turn hp4 hk4
            have HS4 := Lib.hid hs4
            generalize hL4 : giveS 100 L a = L4 at HI4 HS4
            have hb5 : Below w4.heap.size w4 (w4.alloc (.cells #[] 27)) := (Below.refl _ _).alloc (Nat.le_refl _) _
            have hown0 : (w4.alloc (.cells #[] 27)).ownsRow w4.heap.size 27 2 (.slice (some ⟨w4.heap.size, 0, none⟩) 0 0) 0 [] := World.ownsRow_lit (base := w4.heap.size) (size := 2) (e := 27) w4 #[] 0 (Nat.le_refl _) (by unfold maxLen; omega) rfl
            have q5 := Hq.out _ (HS4.out.more hb5).2.below
            have hca : ∀ W, Below w4.heap.size w4 W → ∀ j u, (rrows H)[j]? = some u → W.cell? ((⟨gh, 0, none⟩ : Addr).add j) = some u := fun W hb => World.ownsRow.cells (HS4.out.more hb).row rfl
            have hn1 : ∀ j u, (rrows (H.take K))[j]? = some u → (w4.alloc (.cells #[] 27)).cell? ((⟨gh, 0, none⟩ : Addr).add j) = some u := fun j u hj => by
              rw [rrows_take, List.getElem?_take] at hj
              split at hj
              · exact hca _ hb5 j u hj
              · cases hj
            have hl1 : (rrows (H.take K)).length = K * 2 := by rw [length_rrows, List.length_take]; omega
            have hl2 : (rrows (H.drop (K + 1))).length = (H.length - (K + 1)) * 2 := by rw [length_rrows, List.length_drop]
            have o1 := one_rrows (H.take K)
            have o2 := one_rrows (H.drop (K + 1))
            have hm1 : 0 + K ≤ maxLen := by unfold maxLen; omega
            have hbs5 : w4.heap.size ≤ (w4.alloc (.cells #[] 27)).heap.size := by simp
            have hKc : (K : Int) ≤ (cap4 : Int) := by omega
            have hHc : (H.length : Int) ≤ (cap4 : Int) := by omega
            have HN1 := Lib.hid hn1
            have HO := Lib.hid hown0
            have Hca := Lib.hid hca
            clear hgv hp4 hk4 hs4 hL4 hb5 hown0 hca hn1 q0 q1 p0 p1 f1 f2
            go_wp2_with (refine wpList_append_own_at _ rfl (.tmp 75) (.tmp 82) 25 rfl w4.heap.size 27 i0 _ 2 16 Try.underlying25 Hi.out Hz.out Hz1.out Hz2.out rfl (by decide) _ 0 [] rfl HO.out ⟨gh, 0, none⟩ K cap4 (rrows (H.take K)) rfl hl1 HN1.out o1 hm1 (by omega) hbs5 ?_)
            intro v6 w6 hown6 hgrow hnn hor
            have hb6 : Below w4.heap.size w4 w6 := ⟨hgrow.os, hgrow.tape, hgrow.output, by have := hgrow.size; simp at this; omega, fun k hk => (hgrow.block k (by simp; omega) (by simp only [Value.ownBlock, ne_eq, Option.some.injEq]; omega)).trans (Below.heap_alloc _ _ _ hk)⟩
            have q6 := Hq.out _ (HS4.out.more hb6).2.below
            have HO6 := Lib.hid hown6
            have HB6 := Lib.hid hb6
            have hm2 : K + (H.length - (K + 1)) ≤ maxLen := by unfold maxLen; omega
            have hbs6 : w4.heap.size ≤ w6.heap.size := hb6.size
            have hw1 : IntKind.i64.wrap ((K : Int) + 1) = (K : Int) + 1 := by rw [IntKind.wrap_i64]; omega
            have hn2 : (K : Int) + 1 ≤ (H.length : Int) := by omega
            have hn3 : ((K : Int) + 1).toNat = K + 1 := by omega
            have hn4 : (0 : Int) ≤ (K : Int) + 1 := by omega
            have hHl : (H.take K ++ H.drop (K + 1)).length = K + (H.length - (K + 1)) := by rw [List.length_append, List.length_take, List.length_drop]; omega
            have hHr : rrows (H.take K ++ H.drop (K + 1)) = rrows (H.take K) ++ rrows (H.drop (K + 1)) := rrows_app _ _
            have HHl := Lib.hid hHl
            have HHr := Lib.hid hHr
            clear hown6 hgrow hnn hor hb6 q5 hHl hHr
            by_cases hc : cap4 = K + 1
            · subst hc
              have hz0 : H.length - (K + 1) = 0 := by omega
              have hz1 : rrows (H.drop (K + 1)) = [] := by rw [List.drop_eq_nil_of_le (by omega)]; rfl
              have HZ0 := Lib.hid hz0
              have HZ1 := Lib.hid hz1
              rw [hz0] at hm2
              have HNN := Lib.hid (fun j u (hj : ([] : List Value)[j]? = some u) => (show w6.cell? ((⟨gh, 0, none⟩ : Addr).add j) = some u by simp at hj))
              clear hz0 hz1 hl2 o2
              go_wp2_with (refine wpList_append_own_at _ rfl (.tmp 84) (.tmp 92) 25 rfl w4.heap.size 27 i0 _ 2 16 Try.underlying25 Hi.out Hz.out Hz1.out Hz2.out rfl (by decide) v6 K (rrows (H.take K)) rfl HO6.out ⟨gh, 0, none⟩ 0 0 [] rfl rfl HNN.out (fun _ h => by simp at h) hm2 (by omega) hbs6 ?_)
              intro v7 w7 hown7 hgrow hnn hor
              have hb7 : Below w4.heap.size w4 w7 := HB6.out.trans ⟨hgrow.os, hgrow.tape, hgrow.output, hgrow.size, fun k hk => hgrow.block k (by omega) (fun e => by have := (HO6.out.lt k e.symm).1; omega)⟩
              have hs7 := HS4.out.renew (H' := H.take K ++ H.drop (K + 1)) hb7 (by rw [HHl.out, HHr.out, HZ0.out, HZ1.out]; simpa using hown7)
              have HS7 := Lib.hid hs7
              clear hown7 hgrow hnn hor hb7 hs7
              go_wp2_with fail
              go_meet
              exact ⟨_, _, HS7.out, HI4.out, by rw [HHl.out]; omega⟩
            · have HNN := Lib.hid (fun j u (hj : (rrows (H.drop (K + 1)))[j]? = some u) => (show w6.cell? ((⟨gh, (K + 1) * 2, none⟩ : Addr).add j) = some u by
                rw [Addr.add_mid]
                rw [rrows_drop, List.getElem?_drop] at hj
                have := Hca.out _ HB6.out _ u hj
                rwa [Addr.add_mid, Nat.zero_add] at this))
              go_wp2_with (refine wpList_append_own_at _ rfl (.tmp 84) (.tmp 92) 25 rfl w4.heap.size 27 i0 _ 2 16 Try.underlying25 Hi.out Hz.out Hz1.out Hz2.out rfl (by decide) v6 K (rrows (H.take K)) rfl HO6.out ⟨gh, (K + 1) * 2, none⟩ (H.length - (K + 1)) (cap4 - (K + 1)) (rrows (H.drop (K + 1))) rfl hl2 HNN.out o2 hm2 (by omega) hbs6 ?_)
              intro v7 w7 hown7 hgrow hnn hor
              have hb7 : Below w4.heap.size w4 w7 := HB6.out.trans ⟨hgrow.os, hgrow.tape, hgrow.output, hgrow.size, fun k hk => hgrow.block k (by omega) (fun e => by have := (HO6.out.lt k e.symm).1; omega)⟩
              have hs7 := HS4.out.renew (H' := H.take K ++ H.drop (K + 1)) hb7 (by rw [HHl.out, HHr.out]; exact hown7)
              have HS7 := Lib.hid hs7
              clear hown7 hgrow hnn hor hb7 hs7
              go_wp2_with fail
              go_meet
              exact ⟨_, _, HS7.out, HI4.out, by rw [HHl.out]; omega⟩
          · have f12 : (decide ((0 : Int) ≤ s.k) && decide (s.k < (H.length : Int))) = false := by simp; omega
            by_cases hK0 : 0 ≤ s.k
            · have f1 : decide ((0 : Int) ≤ s.k) = true := by simpa using hK0
              have f2 : decide (s.k < (H.length : Int)) = false := by simp; omega
              clear hk0 f12 hK hK0
              go_wp2_with fail
              go_meet
              exact ⟨_, _, HP.out, HI.out, by omega⟩
            · have f1 : decide ((0 : Int) ≤ s.k) = false := by simpa using hK0
              clear hk0 f12 hK hK0
              go_wp2_with fail
              go_meet
              exact ⟨_, _, HP.out, HI.out, by omega⟩
      case rest =>
        obtain ⟨L2, H2, hp, hI2, hHk2⟩ := hcut
        obtain ⟨a5, cap5, rfl⟩ := hp.row.lens
        have hrow : ∀ W, Below wc.heap.size wc W → RowR W (.slice a5 H2.length cap5) H2 := fun W hb => (hp.more hb).row
        have hscan := fun j x hx => hI2.scan hp.2.rise (k := j) (x := x) hx
        have hsum := hI2.sum
        have Hrow := Lib.hid hrow
        have Hscan := Lib.hid hscan
        have Hsum := Lib.hid hsum
        have HI2 := Lib.hid hI2
        have HP2 := Lib.hid hp
        clear hp hI2 hrow hscan hsum q0 q1 Hq1 HP HI
        go_wp2_with fail
        go_loopw [10, 11, 12] (fun c i _ wx => ∃ j : Nat, j ≤ H2.length ∧ i = .int .i64 (j : Int) ∧ c = .int .i64 (sumR (H2.take j)) ∧ Below wc.heap.size wc wx) (fun _ i _ _ => H2.length - (intOf i).toNat)
        case atStart => exact ⟨0, Nat.zero_le _, rfl, rfl, Below.refl _ _⟩
        case round =>
          obtain ⟨j, hj, rfl, rfl, hb⟩ := hrel
          by_cases hjl : j < H2.length
          · obtain ⟨x, hx⟩ : ∃ x, H2[j]? = some x := ⟨_, List.getElem?_eq_getElem hjl⟩
            obtain ⟨x0, x1, x2, s0, s1, s2, hoth⟩ := Hscan.out j x hx
            obtain ⟨g, cap6, hv, -, -, hc⟩ := (Hrow.out _ hb).at hx
            simp only [Value.slice.injEq, true_and] at hv
            obtain ⟨rfl, rfl⟩ := hv
            have g0 := hc 0 _ rfl
            rw [Nat.add_zero] at g0
            have g1 := hc 1 _ rfl
            have Hoth := Lib.hid hoth
            generalize sumR (H2.take j) = S at s0 s1 s2 ⊢
            have S2 := Lib.hid s2
            have HB := Lib.hid hb
            have Hx := Lib.hid hx
            have hw1 : IntKind.i64.wrap (x.hi - x.lo) = x.hi - x.lo := by rw [IntKind.wrap_i64]; omega
            have hw2 : IntKind.i64.wrap (S + (x.hi - x.lo)) = S + (x.hi - x.lo) := by rw [IntKind.wrap_i64]; omega
            clear hc hoth s2 hb hx
            go_wp2_with fail
            go_quiet (fail)
            have hbq : Below wc.heap.size wc (wr.drewN nq) := HB.out.trans ⟨rfl, rfl, rfl, Nat.le_refl _, fun _ _ => rfl⟩
            have HBQ := Lib.hid hbq
            generalize wr.drewN nq = W at HBQ ⊢
            clear hbq g0 g1
            go_wp2_with fail
            go_loopw [12] (fun i wx => ∃ m : Nat, m ≤ j ∧ i = .int .i64 (m : Int) ∧ Below wc.heap.size wc wx) (fun i _ => j - (intOf i).toNat)
            case atStart => exact ⟨0, Nat.zero_le _, rfl, HBQ.out⟩
            case round =>
              clear HBQ
              obtain ⟨m, hm, rfl, hb⟩ := hrel
              by_cases hml : m < j
              · obtain ⟨y, hy⟩ : ∃ y, H2[m]? = some y := ⟨_, List.getElem?_eq_getElem (by omega)⟩
                obtain ⟨y0, y1, hno⟩ := Hoth.out m y hml hy
                obtain ⟨g', cap7, hv, -, -, hc⟩ := (Hrow.out _ hb).at Hx.out
                simp only [Value.slice.injEq, Option.some.injEq, Addr.mk.injEq, and_true, true_and] at hv
                obtain ⟨rfl, rfl⟩ := hv
                have g0 := hc 0 _ rfl
                rw [Nat.add_zero] at g0
                have g1 := hc 1 _ rfl
                obtain ⟨g', cap8, hv, -, -, hd⟩ := (Hrow.out _ hb).at hy
                simp only [Value.slice.injEq, Option.some.injEq, Addr.mk.injEq, and_true, true_and] at hv
                obtain ⟨rfl, rfl⟩ := hv
                have h0 := hd 0 _ rfl
                rw [Nat.add_zero] at h0
                have h1 := hd 1 _ rfl
                have hmx : ∀ (W : World), (Builtin.max_ #[3, 3] 3 #[.int .i64 x.lo, .int .i64 y.lo]).run Try.prog W = .ok (.int .i64 (max x.lo y.lo)) W := by
                  intro W
                  rw [run_max_int2, show (if x.lo < y.lo then y.lo else x.lo) = max x.lo y.lo by split <;> omega]
                have hmn : ∀ (W : World), (Builtin.min_ #[3, 3] 3 #[.int .i64 x.hi, .int .i64 y.hi]).run Try.prog W = .ok (.int .i64 (min x.hi y.hi)) W := by
                  intro W
                  rw [run_min_int2, show (if y.hi < x.hi then y.hi else x.hi) = min x.hi y.hi by split <;> omega]
                have hnd : decide (max x.lo y.lo < min x.hi y.hi) = false := by simpa using hno
                generalize max x.lo y.lo = mx at hmx hnd
                generalize min x.hi y.hi = mn at hmn hnd
                have e3 : m < H2.length := by omega
                have HB3 := Lib.hid hb
                clear hc hd hy hno hb
                go_wp2_with fail
                go_region_both
                have HB4 := Lib.hid HB3.out.drew
                clear g0 g1 h0 h1
                go_wp2_with fail
                go_roundw
                case rel => exact ⟨m + 1, by omega, by go_num, HB4.out⟩
                case measure => simp [intOf]; omega
              · have HB3 := Lib.hid hb
                clear hb
                go_wp2_with fail
                go_roundw
                case rel => exact ⟨j + 1, by omega, by go_num, by rw [S2.out], HB3.out⟩
                case measure => simp [intOf]; omega
          · have et : H2.take j = H2 := List.take_of_length_le (by omega)
            rw [et]
            have hfr := (HP2.out.2.more hb).free
            have HB3 := Lib.hid hb
            have hs9 := HP2.out.2.rise.sum (by omega)
            have hs8 := Hsum.out
            have hw1 : IntKind.i64.wrap (sumR H2 + sumR L2) = 100 := by rw [hs8]; rfl
            clear et hb hs8
            generalize sumR H2 = S at hw1 ⊢
            generalize sumR L2 = T at hw1 hfr hs9
            go_wp2_with fail
            refine hfr.mono ?_
            rintro e w8 ⟨rfl, hb8⟩
            have HB8 := Lib.hid (HP2.out.more (HB3.out.trans (hb8.mono HB3.out.size)))
            clear hfr hb8
            go_wp2_with fail
            go_roundw
            case rel => exact ⟨k + 1, _, _, by omega, by go_num, HB8.out, HI2.out, hHk2⟩
            case measure => simp [intOf]; omega
    · have hbl := hp.2.below
      have HB := Lib.hid hbl
      clear hp hI hbl
      go_wp2_with fail
      refine (shown_any (w := wr)).mono ?_
      rintro e w9 ⟨rfl, hb9⟩
      have HF := Lib.hid (HB.out.trans (hb9.mono HB.out.size))
      clear hb9
      go_wp2_with fail
      go_ret
      exact ⟨rfl, HF.out⟩
end Go.Proofs.Ytajbodfdohhhoaa
