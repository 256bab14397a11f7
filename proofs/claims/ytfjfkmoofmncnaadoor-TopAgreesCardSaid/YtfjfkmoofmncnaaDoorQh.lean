/- quorum: Propose. -/
import Derived.Test.YtfjfkmoofmncnaaDoorMf
import Derived.StillTailTactics
import Derived.Maps.AppendAt
import Derived.Deep.AppendLies
import Derived.Deep.RegionHeld3
namespace Go.Proofs.YtfjfkmoofmncnaaDoor
open Go.RowKit
theorem Tryd.infoStr2 : (Tryd.prog.info? 9).map (fun i => (i.zero, i.size)) = some (some (.string ⟨#[]⟩), 1) := by kernel_rfl
section
variable {W w1 : World} {q : QP} {X I Y : Nat → Prop} {f : Lit → Option Value} {n B k who rb rd : Nat} {st : PX ByteArray}
/-- Behind the append: what the frame asks, and the group with the longer log. -/
theorem fin_log (h : JC B k who Y w1 rb q st W X I f n rd) (hw : who < 3) {va : Option Addr} {vc : Nat} (hlv : q.lv who = .slice va (st.log who).length vc) (x : ByteArray) (mb xb : Nat) (hmb : W.cell? ⟨mb, 0, none⟩ = some (.pointer (some ⟨q.nb who, 0, none⟩))) (hxb : W.cell? ⟨xb, 0, none⟩ = some (.string x)) (ymb : Y mb) (yxb : Y xb) :
    ∀ (g cap : Nat) (w5 : World), w5.ownsRow 0 9 1 (.slice (some ⟨g, 0, none⟩) ((st.log who).length + 1) cap) ((st.log who).length + 1) (srows (st.log who) ++ [.string x]) → (W.drew.alloc (.cells #[.string x] 9)).grownBy w5 (Value.slice va (st.log who).length vc).ownBlock →
      ((Value.slice va (st.log who).length vc).ownBlock = some g ∨ g = (W.drew.alloc (.cells #[.string x] 9)).heap.size) →
      (w5.cell? ⟨mb, 0, none⟩ = some (.pointer (some ⟨q.nb who, 0, none⟩)) ∧ w5.cell? ⟨xb, 0, none⟩ = some (.string x)) ∧ w5.cell? ⟨q.nb who, 2, none⟩ = some (.slice va (st.log who).length vc) ∧ w5.frozen? ⟨q.nb who, 2, none⟩ = false ∧
      ((w5.setCell ⟨q.nb who, 2, none⟩ (.slice (some ⟨g, 0, none⟩) ((st.log who).length + 1) cap)).cell? ⟨mb, 0, none⟩ = some (.pointer (some ⟨q.nb who, 0, none⟩)) ∧ (w5.setCell ⟨q.nb who, 2, none⟩ (.slice (some ⟨g, 0, none⟩) ((st.log who).length + 1) cap)).cell? ⟨xb, 0, none⟩ = some (.string x)) ∧
      ∃ q' X', q'.gb = q.gb ∧ q'.nb = q.nb ∧ IsQ (w5.setCell ⟨q.nb who, 2, none⟩ (.slice (some ⟨g, 0, none⟩) ((st.log who).length + 1) cap)) q' X' I f n ((st.learn who (st.log who ++ [x])).turn who rd) ∧ (∀ j, X' j → (X j ∨ Y j) ∨ W.heap.size ≤ j) ∧
        Moves X W (w5.setCell ⟨q.nb who, 2, none⟩ (.slice (some ⟨g, 0, none⟩) ((st.log who).length + 1) cap)) := by
  intro g cap w5 hown hgrow hat
  have hlt := h.g.lt
  have hm : Moves (fun j => (q.lv who).ownBlock = some j) W w5 := (((Moves.refl _ W).drew).alloc _).grown hgrow fun j hj => .inl (by rw [hlv]; exact hj)
  have hX : ∀ j, (q.lv who).ownBlock = some j → X j := fun j hj => h.qx j (.inr (.inr (.inr (.inr (.inl ⟨who, hw, hj⟩)))))
  obtain ⟨col, hc⟩ := h.g.col
  have hnb : w5.heap[q.nb who]? = W.heap[q.nb who]? := hm.block _ (hlt _ (.inr (.inr (.inl ⟨who, hw, rfl⟩)))) fun e => by
    have h1 := hc.v who _ hw e
    rw [hc.n who hw] at h1
    omega
  have hYc : ∀ j v, Y j → W.cell? ⟨j, 0, none⟩ = some v → w5.cell? ⟨j, 0, none⟩ = some v := fun j v hj hv => (World.cell?_of_block (a := ⟨j, 0, none⟩) (hm.block j (World.block_lt_of_cell? _ _ hv) fun e => (h.y j hj).1 (hX j e))).trans hv
  have hYn : ∀ j, Y j → j ≠ q.nb who := fun j hj e => (h.y j hj).1 (h.qx j (.inr (.inr (.inl ⟨who, hw, e⟩))))
  have hl2 := h.g.n2 who hw
  rw [hlv] at hl2
  have hob : ∀ j, (Value.slice (some ⟨g, 0, none⟩) ((st.log who).length + 1) cap).ownBlock = some j → (q.lv who).ownBlock = some j ∨ W.heap.size ≤ j := fun j hj => by
    simp only [Value.ownBlock, Option.some.injEq] at hj
    subst hj
    rcases hat with h1 | h1
    · exact .inl (by rw [hlv]; exact h1)
    · exact .inr (by rw [h1, World.size_alloc]; exact Nat.le_succ _)
  have hL := h.g.learn hw (l := st.log who ++ [x]) hm (v' := .slice (some ⟨g, 0, none⟩) ((st.log who).length + 1) cap) (by
    rw [List.length_append]
    simpa [srows] using hown) hob
  refine ⟨⟨hYc _ _ ymb hmb, hYc _ _ yxb hxb⟩, (World.cell?_of_block (a := ⟨q.nb who, 2, none⟩) hnb).trans hl2, (World.frozen?_of_block (a := ⟨q.nb who, 2, none⟩) hnb).trans (h.g.fro who hw 2), ⟨?_, ?_⟩, { q with lv := fun j => if j = who then .slice (some ⟨g, 0, none⟩) ((st.log who).length + 1) cap else q.lv j }, _, rfl, rfl, hL, fun j hj => ?_, (hm.mono fun j _ hj => hX j hj).setCell _ _ (.inl (h.qx _ (.inr (.inr (.inl ⟨who, hw, rfl⟩)))))⟩
  · rw [oth_blk _ _ _ _ (hYn mb ymb)]
    exact hYc _ _ ymb hmb
  · rw [oth_blk _ _ _ _ (hYn xb yxb)]
    exact hYc _ _ yxb hxb
  · rcases hj with hj | hj
    · exact .inl hj
    · exact (hob j hj).imp (fun e => .inl (hX j e)) id
section
variable {w : World} {q : QP} {X I : Nat → Prop} {f : Lit → Option Value} {n : Nat} {s : PX ByteArray} {G : ByteArray → Prop} {B k who : Nat} {t : ByteArray}
set_option maxRecDepth 100000 in
set_option maxHeartbeats 8000000 in
theorem propose_any (h : IsQ w q X I f n s) (hB : B ≤ w.heap.size) (hX : ∀ j, X j → B ≤ j) (hn : n ≤ 3 * k) (hp : PB G s k) (hk : k ≤ 20) (hw : who < 3) (hGt : G t) (hGs : ∀ y, G y → y.size ≤ 1024) (loss : Int) :
    Calls Tryd.prog 8 #[.pointer (some ⟨q.gb, 0, none⟩), .int .i64 (who : Int), .string t, .int .u64 loss] w fun e w' => (∃ v, e = .returned v) ∧ Below B w w' ∧ QS G B (k + 1) q.gb w' := by
  obtain ⟨va, vc, hlv⟩ := row_lens (h.log who hw)
  obtain ⟨N, hN⟩ : ∃ N, N = w.heap.size := ⟨_, rfl⟩
  rw [← hN] at hB
  obtain ⟨W1, e1, hb1, hs1, hc1, hf1⟩ := made_named w N hN.symm #[.pointer (some ⟨q.gb, 0, none⟩)] 27
  obtain ⟨W2, e2, hb2, hs2, hc2, hf2⟩ := made_named W1 (N + 1) hs1 #[.string t] 9
  have h2 := (h.below hb1).below hb2
  have gx2 : W2.cell? ⟨N, 0, none⟩ = some (.pointer (some ⟨q.gb, 0, none⟩)) := cellA hb2 (hc1 0 _ rfl)
  have xb2 : W2.cell? ⟨N + 1, 0, none⟩ = some (.string t) := hc2 0 _ rfl
  have hh := qhas_any h2.c0 (who : Int) (by omega) (by omega)
  have HE := Lib.hid (And.intro e1 e2)
  have HB2 := Lib.hid (hb1.trans (hb2.mono hb1.size))
  have HQ := Lib.hid h2
  have H := Lib.hid h
  have HP := Lib.hid hp
  have HLV := Lib.hid hlv
  have HF := Lib.hid (hf2 0)
  have HN := Lib.hid hN
  have hNw := hN.symm
  clear hb1 hb2 h2 hc1 hc2 hf1 hf2 e1 e2 h hp hlv hs1 hN
  go_enter_defers Tryd.func8, Tryd.ntmps8
  go_upto_region 1 with (fail)
  rw [← HE.out.1, ← HE.out.2]
  clear HE hNw
  have c0 := HQ.out.c0
  have rw0 := HQ.out.row who hw
  have hwi : (who : Int) < 3 := by omega
  obtain ⟨W3, e3, hb3, hs3, hc3, hf3⟩ := made_named W2 (N + 1 + 1) hs2 #[.pointer (some ⟨q.nb who, 0, none⟩)] 73
  have h3 := HQ.out.below hb3
  have mb3 : W3.cell? ⟨N + 1 + 1, 0, none⟩ = some (.pointer (some ⟨q.nb who, 0, none⟩)) := hc3 0 _ rfl
  have l3 := h3.n2 who hw
  rw [HLV.out] at l3
  obtain ⟨W4, e4, hb4, hs4, hc4, hf4⟩ := made_named W3 (N + 1 + 1 + 1) hs3 #[.int .i64 ((s.log who).length : Int)] 3
  have h4 := h3.below hb4
  have HS4 := Lib.hid (hc4 0 _ rfl)
  have HM4 := Lib.hid (cellA hb4 mb3)
  have HG4 := Lib.hid (cellA hb4 (cellA hb3 gx2))
  have HX4 := Lib.hid (cellA hb4 (cellA hb3 xb2))
  have HF4 := Lib.hid (((hb3.trans (hb4.mono hb3.size)).frozen (p := ⟨N + 1, 0, none⟩) (by show N + 1 < _; omega)).trans HF.out)
  have HE3 := Lib.hid e3
  have HE4 := Lib.hid e4
  have HB4 := Lib.hid (HB2.out.trans ((hb3.trans (hb4.mono hb3.size)).mono HB2.out.size))
  have HQ4 := Lib.hid h4
  clear e3 e4 hb3 hb4 h3 h4 hc3 hc4 hf3 hf4 HQ HB2 HF
  go_upto_region 4 with (go_at_call 22; refine hh.mono ?_; clear hh; rintro e wz ⟨rfl, rfl⟩)
  rw [← HE3.out]
  clear HE3 gx2 xb2 c0 rw0
  go_upto_region 5 with (fail)
  rw [← HE4.out]
  clear HE4 mb3 l3
  have n0 := HQ4.out.n0 who hw
  have hts := hGs t hGt
  have htz : decide ((1024 : Int) < (t.size : Int)) = false := by simp; omega
  have hlz : decide ((4096 : Int) ≤ ((s.log who).length : Int)) = false := by have := HP.out.l who hw; simp; omega
  have gx4 := HG4.out
  have xb4 : W4.cell? ⟨N + 1, 0, none⟩ = some (.string t) := HX4.out
  have mb4 : W4.cell? ⟨N + 1 + 1, 0, none⟩ = some (.pointer (some ⟨q.nb who, 0, none⟩)) := HM4.out
  have sb4 : W4.cell? ⟨N + 1 + 1 + 1, 0, none⟩ = some (.int .i64 ((s.log who).length : Int)) := HS4.out
  go_upto_region 11 with (fail)
  have n3 := HQ4.out.n3 who hw
  have hr := HP.out.r who hw
  have hnum := number_ok (w := W4) (s.round who : Int) (who : Int) (by omega) (by omega) (by omega) (by omega)
  rw [show (s.round who : Int) * 8 + (who : Int) + 1 = num (s.round who) who from rfl] at hnum
  have hbk := num_le (k := k) hr hw
  obtain ⟨b, hb⟩ : ∃ b, b = num (s.round who) who := ⟨_, rfl⟩
  rw [← hb] at hnum hbk
  obtain ⟨W5, e5, hb5, hs5, hc5, hf5⟩ := made_named W4 (N + 1 + 1 + 1 + 1) hs4 #[.int .i64 b] 3
  obtain ⟨W6, e6, hb6, hs6, hc6, hf6⟩ := made_named W5 (N + 1 + 1 + 1 + 1 + 1) hs5 #[.slice none 0 0] 90
  obtain ⟨W7, e7, hb7, hs7, hc7, hf7⟩ := made_named W6 (N + 1 + 1 + 1 + 1 + 1 + 1) hs6 #[.slice none 0 0] 91
  have hb47 := hb5.trans ((hb6.trans (hb7.mono hb6.size)).mono hb5.size)
  have HB7 := Lib.hid hb47
  have HWB := Lib.hid (HB4.out.trans (hb47.mono HB4.out.size))
  have HQ7 := Lib.hid (HQ4.out.below hb47)
  have HC7 : Hid (W7.cell? ⟨N, 0, none⟩ = some (.pointer (some ⟨q.gb, 0, none⟩)) ∧ W7.cell? ⟨N + 1, 0, none⟩ = some (.string t) ∧ W7.cell? ⟨N + 1 + 1, 0, none⟩ = some (.pointer (some ⟨q.nb who, 0, none⟩)) ∧ W7.cell? ⟨N + 1 + 1 + 1, 0, none⟩ = some (.int .i64 ((s.log who).length : Int)) ∧ W7.cell? ⟨N + 1 + 1 + 1 + 1, 0, none⟩ = some (.int .i64 b)) := Lib.hid ⟨cellA hb47 gx4, cellA hb47 xb4, cellA hb47 mb4, cellA hb47 sb4, cellA (hb6.trans (hb7.mono hb6.size)) (hc5 0 _ rfl)⟩
  have HT7 : Hid (W7.cell? ⟨N + 1 + 1 + 1 + 1 + 1, 0, none⟩ = some (.slice none 0 0) ∧ W7.frozen? ⟨N + 1 + 1 + 1 + 1 + 1, 0, none⟩ = false ∧ W7.cell? ⟨N + 1 + 1 + 1 + 1 + 1 + 1, 0, none⟩ = some (.slice none 0 0) ∧ W7.frozen? ⟨N + 1 + 1 + 1 + 1 + 1 + 1, 0, none⟩ = false) := Lib.hid ⟨cellA hb7 (hc6 0 _ rfl), (hb7.frozen (p := ⟨N + 1 + 1 + 1 + 1 + 1, 0, none⟩) (by show N + 1 + 1 + 1 + 1 + 1 < _; omega)).trans (hf6 0), hc7 0 _ rfl, hf7 0⟩
  have HF7 := Lib.hid ((hb47.frozen (p := ⟨N + 1, 0, none⟩) (by show N + 1 < _; omega)).trans HF4.out)
  have HE := Lib.hid (And.intro e5 (And.intro e6 e7))
  have HBE := Lib.hid hb
  clear e5 e6 e7 hb5 hb6 hb7 hc5 hc6 hc7 hf5 hf6 hf7 hb47 HQ4 HG4 HX4 HM4 HS4 HF4 HB4 hb
  have hmf : ∀ (fn : Fn) (first cap : Array Value) (w : World), (Instr.makeFunc fn first cap).run Tryd.prog w = .ok (.func fn first cap) w := fun _ _ _ _ => rfl
  go_upto_region 17 with (go_at_call 23; refine hnum.mono ?_; clear hnum; rintro e wz ⟨rfl, rfl⟩)
  rw [← HE.out.1, ← HE.out.2.1, ← HE.out.2.2]
  clear HE n0 n3 gx4 xb4 mb4 sb4 htz hlz
  obtain ⟨gx7, xb7, mb7, sb7, bb7⟩ := HC7.out
  have hXw : ∀ j, X j → j < N := fun j hj => by rw [HN.out]; exact H.out.xl j hj
  have g7 : IsQ W7 q (fun j => (X j ∨ j = N + 1 + 1 + 1 + 1 + 1 ∨ j = N + 1 + 1 + 1 + 1 + 1 + 1) ∨ (N ≤ j ∧ j < N + 1 + 1 + 1 + 1 + 1)) I f n s :=
    H.out.movesY (F := fun _ => False) (Moves.of_below HWB.out) (fun _ e => e.elim) (fun _ e => e.elim) (fun j hj => .inl (.inl hj)) (fun j hj => by
      rw [← HN.out]
      rcases hj with (hj | hj | hj) | hj
      · exact .inl hj
      · exact .inr (by omega)
      · exact .inr (by omega)
      · exact .inr hj.1) (fun j hj => by
      rw [hs7]
      rcases hj with (hj | hj | hj) | hj
      · have := hXw j hj; omega
      · omega
      · omega
      · omega)
  have hqf : ∀ j, QF q I j → j < N := fun j hj => by rw [HN.out]; exact H.out.lt j hj
  have hst := start1 (tb := N + 1 + 1 + 1 + 1 + 1) (zb := N + 1 + 1 + 1 + 1 + 1 + 1) (B := B) (k := k) (who := who) g7 (fun j hj => .inl (H.out.xs j hj)) (by omega) (fun j hj => by
      rcases hj with hj | hj | hj
      · exact hX j hj
      · omega
      · omega) (fun j hj e => by
      rcases e with e | e | e
      · have := hXw j e; omega
      · omega
      · omega) hr HT7.out.1 HT7.out.2.1 HT7.out.2.2.1 HT7.out.2.2.2 ⟨.inr (.inl rfl), fun e => by have := hqf _ e; omega⟩ ⟨.inr (.inr rfl), fun e => by have := hqf _ e; omega⟩ (by omega) (s.log who).length b
  have hask := ask_any (ask1_ok (rb := W7.heap.size) (tb := N + 1 + 1 + 1 + 1 + 1) (zb := N + 1 + 1 + 1 + 1 + 1 + 1) (slot := (s.log who).length) (B := B) (Y := fun j => N ≤ j ∧ j < N + 1 + 1 + 1 + 1 + 1) hw (by omega) hbk.1 hbk.2 HP.out.p (by omega) (by omega) bb7 sb7) hst (by simp) (by rw [hs7]; have := hqf _ (.inr (.inr (.inl ⟨who, hw, rfl⟩))); omega) loss (enters_of Tryd.func26 (by kernel_rfl) rfl) (enters_of Tryd.func28 (by kernel_rfl) rfl)
  clear hst g7 HQ7
  go_upto_region 18 with (go_at_call 25; refine hask.mono ?_; clear hask; rintro e W8 ⟨m, rfl, hm3, X8, rd, P, Hl, sv, vals, hj⟩; have HJ := Lib.hid hj; clear hj)
  clear gx7 xb7 mb7 sb7 bb7
  have gx8 := HJ.out.c.cell (j := N) (o := 0) (by omega) HC7.out.1
  have hmo := qmost_any (w := W8) HJ.out.c.g.c0 m hm3
  have HW8 : Hid (Below B w W8) := Lib.hid ((Below.mono HWB.out (by rw [← HN.out]; exact hB)).trans HJ.out.c.bl)
  have HP1 : Hid (PB G (s.prep P b) k) := Lib.hid (HP.out.prep P hbk.2 fun i _ h => (HJ.out.p i h).2)
  have hnbB : B ≤ q.nb who := HJ.out.c.xb _ (HJ.out.c.qx _ (.inr (.inr (.inl ⟨who, hw, rfl⟩))))
  by_cases h2m : 2 ≤ m
  · have e9 : decide (2 ≤ m) = true := decide_eq_true h2m
    rw [e9] at hmo
    have hslot : (s.log who).length < 4096 := by have := HP.out.l who hw; omega
    have hH3 : ∀ j ∈ Hl, j < 3 := fun j hj => (HJ.out.hp j hj).1
    go_upto_region 20 with (go_at_call 29; refine hmo.mono ?_; clear hmo; rintro e wz ⟨rfl, rfl⟩)
    have hcho := choose_any (sets_of HJ.out) ((s.log who).length : Int) (by rw [List.length_map, HJ.out.hm.1]; omega) (fun l hl => by
      obtain ⟨j, hj, rfl⟩ := List.mem_map.1 hl
      have := votesTo_len (vt (s.V j)) ((s.log who).length : Int) 4096
      omega)
    obtain ⟨v, hv⟩ : ∃ v, v = bestOf ((s.log who).length : Int) (Hl.map fun j => votesTo (vt (s.V j)) ((s.log who).length : Int) 4096).flatten Vote.zero := ⟨_, rfl⟩
    have hbe := best_of s.V hslot Hl (fun j hj b x hx => by
      obtain ⟨o, r, ho, e, -⟩ := HP.out.inv.own j _ b x (hH3 j hj) hx
      rw [e]
      unfold num
      omega) v hv
    rw [← hv] at hcho
    unfold Vote.val' at hcho
    have HBE2 := Lib.hid hbe
    clear hv hbe
    have zb8 := HJ.out.z
    have sb8 := HJ.out.c.cell (j := N + 1 + 1 + 1) (o := 0) (by omega) HC7.out.2.2.2.1
    have xb8 := HJ.out.c.cell (j := N + 1) (o := 0) (by omega) HC7.out.2.1
    have xf8 := (World.frozen?_of_block (a := ⟨N + 1, 0, none⟩) (HJ.out.c.y (N + 1) (by omega)).2.2).trans HF7.out
    have HXB := Lib.hid (And.intro xb8 xf8)
    have xl8 := World.block_lt_of_cell? _ _ xb8
    clear xb8 xf8
    go_upto_region 21 with (go_at_call 30; refine hcho.mono ?_; clear hcho; rintro e W9 ⟨rfl, hb9⟩; have HB9 := Lib.hid hb9; clear hb9)
    obtain ⟨W10, e10, hb10, -, hc10, -⟩ := made_named W9 W9.heap.size rfl #[.int .i64 v.slot, .int .i64 v.bal, .string v.val] 100
    rw [← e10]
    have hb810 := HB9.out.trans (hb10.mono HB9.out.size)
    have v10 := hc10 2 _ rfl
    have xb10 := cellA hb810 HXB.out.1
    have xf10 := (hb810.frozen (p := ⟨N + 1, 0, none⟩) xl8).trans HXB.out.2
    have HM10 := Lib.hid (Moves.of_below (F := fun j => j = N + 1) hb810)
    clear hc10 hb10 e10 hb810 sb8 zb8 gx8
    go_upto_if 79 with (fail)
    go_cut [] from 18 to 81 (fun wx => ∃ x, G x ∧ wx.cell? ⟨N + 1, 0, none⟩ = some (.string x) ∧ Moves (fun j => j = N + 1) W8 wx ∧ ((∀ i, i < 3 → i ∈ Hl → s.V i (s.log who).length = none) ∨ ∃ i c, i < 3 ∧ i ∈ Hl ∧ s.V i (s.log who).length = some (c, x) ∧ ∀ j d y, j < 3 → j ∈ Hl → s.V j (s.log who).length = some (d, y) → d ≤ c))
    case first =>
      by_cases h0 : 0 < v.bal
      · have e0 : decide (0 < v.bal) = true := decide_eq_true h0
        go_wp2_with fail
        go_meet
        rcases HBE2.out with ⟨h1, -⟩ | ⟨-, j, hj, hjv, hmx⟩
        · omega
        · exact ⟨v.val, HP.out.gv j _ _ _ (hH3 j hj) hjv, World.cell?_setCell_same _ _ _ xb10, HM10.out.setCell _ _ (.inl rfl), .inr ⟨j, v.bal, hH3 j hj, hj, hjv, fun i d y _ hi => hmx i hi d y⟩⟩
      · have e0 : decide (0 < v.bal) = false := decide_eq_false h0
        go_wp2_with fail
        go_meet
        rcases HBE2.out with ⟨-, h1⟩ | ⟨h1, -⟩
        · exact ⟨t, hGt, xb10, HM10.out, .inl fun i _ hi => h1 i hi⟩
        · omega
    case rest =>
      obtain ⟨x, hGx, hx, hmv, hbest⟩ := hcut
      have hYX : ∀ j, (N ≤ j ∧ j < N + 1 + 1 + 1 + 1 + 1) → ¬ X8 j := fun j hj => (HJ.out.c.y j hj).1
      have g11 := HJ.out.c.g.moves hmv (fun j hj => .inr (by omega)) (fun j hj e => hYX j (by omega) (HJ.out.c.qx j e))
      have hk11 : ∀ (j : Nat) (v : Value), N ≤ j → j < N + 1 + 1 + 1 + 1 + 1 → j ≠ N + 1 → W7.cell? ⟨j, 0, none⟩ = some v → wc.cell? ⟨j, 0, none⟩ = some v := fun j v h1 h2 h3 h4 => by
        have h5 := HJ.out.c.cell (j := j) (o := 0) ⟨h1, h2⟩ h4
        exact (World.cell?_of_block (a := ⟨j, 0, none⟩) (hmv.block j (World.block_lt_of_cell? _ _ h5) h3)).trans h5
      have gx11 := hk11 N _ (by omega) (by omega) (by omega) HC7.out.1
      have mb11 := hk11 (N + 1 + 1) _ (by omega) (by omega) (by omega) HC7.out.2.2.1
      have sb11 := hk11 (N + 1 + 1 + 1) _ (by omega) (by omega) (by omega) HC7.out.2.2.2.1
      have bb11 := hk11 (N + 1 + 1 + 1 + 1) _ (by omega) (by omega) (by omega) HC7.out.2.2.2.2
      have hsz11 : N + 1 + 1 + 1 + 1 + 1 ≤ wc.heap.size := World.block_lt_of_cell? _ _ bb11
      have hnbl := g11.lt _ (.inr (.inr (.inl ⟨who, hw, rfl⟩)))
      have hst2 := start2 (B := B) (k := k) g11 HJ.out.c.qx (by omega) HJ.out.c.xb hYX HJ.out.c.r0 HJ.out.c.r1 (s.log who).length b x
      have hask2 := fun l => ask_any (ask2_ok (rb := wc.heap.size) (n0 := n) (slot := (s.log who).length) (B := B) (Y := fun j => N ≤ j ∧ j < N + 1 + 1 + 1 + 1 + 1) hw (by omega) (by omega) hbk.1 hbk.2 hslot (hGs x hGx) HP1.out.p (by omega) (by omega) (by omega) (by omega) bb11 sb11 hx gx11) hst2 (by simp) hnbl l (enters_of Tryd.func31 (by kernel_rfl) rfl) (enters_of Tryd.func34 (by kernel_rfl) rfl)
      have HK11 := Lib.hid (And.intro gx11 (And.intro mb11 hx))
      have HB11 : Hid (Below B w wc) := Lib.hid (HW8.out.trans (hmv.below (by have := HW8.out.size; have := HN.out; omega) fun j hj => by omega))
      have HBEST := Lib.hid hbest
      have HS11 := Lib.hid sb11
      clear hst2 g11 hk11 hmv hbest sb11 bb11 hx
      go_upto_region 24 with (go_at_call 25; refine (hask2 _).mono ?_; clear hask2; rintro e W12 ⟨m2, rfl, hm23, X12, I12, f12, n12, rd2, A, H2, hj2⟩; have HJ2 := Lib.hid hj2; clear hj2)
      have hmo2 := qmost_any (w := W12) HJ2.out.c.g.c0 m2 hm23
      have gx12 := HJ2.out.c.cell (j := N) (o := 0) (by omega) HK11.out.1
      have hnb : num ((s.prep P b).round who) who = b := HBE.out.symm
      have hr2 := HJ2.out.c.r1
      have hr0 : s.round who ≤ rd2 := HJ2.out.c.r0
      have hvote := HP1.out.vote (A := A) (slot := (s.log who).length) (x := x) (rd := rd2 + 1) hw hGx (fun i _ h => by rw [hnb]; exact (HJ2.out.p i h).2) (maj_of HJ.out.nd (by rw [HJ.out.hm.1]; exact h2m) hH3) (fun i _ h => by rw [hnb]; exact if_pos (HJ.out.hp i h).2) HBEST.out (Nat.succ_le_succ hr0) (Nat.succ_le_succ hr2)
      rw [hnb] at hvote
      have HV := Lib.hid hvote
      have HW12 : Hid (Below B w W12) := Lib.hid (HB11.out.trans HJ2.out.c.bl)
      have hn12 := HJ2.out.n
      have hnb2 : B ≤ q.nb who := hnbB
      clear hvote hnb
      by_cases h2m2 : 2 ≤ m2
      · have e9 : decide (2 ≤ m2) = true := decide_eq_true h2m2
        rw [e9] at hmo2
        go_upto_region 26 with (go_at_call 29; refine hmo2.mono ?_; clear hmo2; rintro e wz ⟨rfl, rfl⟩)
        have mb12 := HJ2.out.c.cell (j := N + 1 + 1) (o := 0) (by omega) HK11.out.2.1
        have xb12 := HJ2.out.c.cell (j := N + 1) (o := 0) (by omega) HK11.out.2.2
        have sb12 := HJ2.out.c.cell (j := N + 1 + 1 + 1) (o := 0) (by omega) HS11.out
        have l12 := HJ2.out.c.g.n2 who hw
        rw [HLV.out] at l12
        go_cut [] from 18 to 103 (fun wx => ∃ q' X', q'.gb = q.gb ∧ q'.nb = q.nb ∧ IsQ wx q' X' I12 f12 n12 ((((s.prep P b).acc A b (s.log who).length x).learn who (s.log who ++ [x])).turn who rd2) ∧ (∀ j, X' j → (X12 j ∨ (N ≤ j ∧ j < N + 1 + 1 + 1 + 1 + 1)) ∨ W12.heap.size ≤ j) ∧ Moves X12 W12 wx)
        case first =>
          obtain ⟨i0, hi0, hz0, hz1, hz2⟩ := info_parts Tryd.infoStr
          have Hi := Lib.hid hi0
          have Hz := Lib.hid hz0
          have Hz1 := Lib.hid hz1
          have Hz2 := Lib.hid hz2
          have hsl := HP.out.l who hw
          have hS0 : (fun W => W.cell? ⟨N + 1 + 1, 0, none⟩ = some (.pointer (some ⟨q.nb who, 0, none⟩)) ∧ W.cell? ⟨N + 1, 0, none⟩ = some (.string x)) W12.drew := ⟨mb12, xb12⟩
          have HXa : Hid ((fun W => W.cell? ⟨N + 1 + 1, 0, none⟩ = some (.pointer (some ⟨q.nb who, 0, none⟩)) ∧ W.cell? ⟨N + 1, 0, none⟩ = some (.string x)) (W12.drew.alloc (.cells #[.string x] 9))) := Lib.hid ⟨(World.cell?_alloc_lt _ _ _ (World.block_lt_of_cell? _ _ mb12)).trans mb12, (World.cell?_alloc_lt _ _ _ (World.block_lt_of_cell? _ _ xb12)).trans xb12⟩
          have c2 : W12.drew.cell? ⟨q.nb who, 2, none⟩ = some (.slice va (s.log who).length vc) := l12
          have c2a : (W12.drew.alloc (.cells #[.string x] 9)).cell? ⟨q.nb who, 2, none⟩ = some (.slice va (s.log who).length vc) := (World.cell?_alloc_lt _ _ _ (World.block_lt_of_cell? _ _ l12)).trans l12
          have c2b : (W12.alloc (.cells #[.string x] 9)).drew.cell? ⟨q.nb who, 2, none⟩ = some (.slice va (s.log who).length vc) := c2a
          have c2c : (W12.alloc (.cells #[.string x] 9)).cell? ⟨q.nb who, 2, none⟩ = some (.slice va (s.log who).length vc) := c2a
          have hrow := HJ2.out.c.g.log who hw
          rw [HLV.out] at hrow
          replace hrow : W12.drew.ownsRow 0 9 1 (.slice va (s.log who).length vc) (s.log who).length (srows (s.log who)) := ownsRow_keep hrow fun _ _ => rfl
          have HOA := Lib.hid (World.ownsRow.alloc hrow (.cells #[.string x] 9))
          have Hcl := Lib.hid (show ∀ (j : Nat) u, [Value.string x][j]? = some u → (W12.drew.alloc (.cells #[.string x] 9)).cell? ((⟨W12.heap.size, 0, none⟩ : Addr).add j) = some u from fun j u hj => by
            rw [Addr.add_mid, Nat.zero_add, show W12.heap.size = W12.drew.heap.size from rfl, World.cell?_alloc_new]
            simpa using hj)
          have HFIN := Lib.hid (fin_log (W := W12) HJ2.out.c hw HLV.out x (N + 1 + 1) (N + 1) mb12 xb12 (by omega) (by omega))
          clear hrow
          refine wp_region_noPanic ?_
          refine wp_region_held_drew (S := (fun W => W.cell? ⟨N + 1 + 1, 0, none⟩ = some (.pointer (some ⟨q.nb who, 0, none⟩)) ∧ W.cell? ⟨N + 1, 0, none⟩ = some (.string x))) (by kernel_rfl) hS0 (fun hHeld => ?_)
          refine wpAnyH_take (i := 0) (oi := ⟨_, _, _, _, _, _⟩) (v := .pointer (some ⟨q.nb who, 0, none⟩)) rfl (by kernel_rfl) (by kernel_rfl) (by kernel_rfl) (fun _ _ _ h => h) (Or.inl ⟨by rfl, fun W hW => by obtain ⟨q0, q1⟩ := hW; go_simp⟩) hHeld ?_
          try simp only [Act.put, List.setIfInBounds_toArray, List.set_cons_zero, List.set_cons_succ]
          refine wpAnyH_take (i := 1) (oi := ⟨_, _, _, _, _, _⟩) (v := .pointer (some ⟨q.nb who, 0, none⟩)) rfl (by kernel_rfl) (by kernel_rfl) (by kernel_rfl) (fun _ _ _ h => h) (Or.inl ⟨by rfl, fun W hW => by obtain ⟨q0, q1⟩ := hW; go_simp⟩) hHeld ?_
          try simp only [Act.put, List.setIfInBounds_toArray, List.set_cons_zero, List.set_cons_succ]
          refine wpAnyH_take (i := 2) (oi := ⟨_, _, _, _, _, _⟩) (v := .pointer (some ⟨q.nb who, 0, none⟩)) rfl (by kernel_rfl) (by kernel_rfl) (by kernel_rfl) (fun _ _ _ h => h) (Or.inl ⟨by rfl, fun W hW => by obtain ⟨q0, q1⟩ := hW; go_simp⟩) hHeld ?_
          try simp only [Act.put, List.setIfInBounds_toArray, List.set_cons_zero, List.set_cons_succ]
          refine wpAnyH_take (i := 3) (oi := ⟨_, _, _, _, _, _⟩) (v := .pointer (some ⟨q.nb who, 2, none⟩)) rfl (by kernel_rfl) (by kernel_rfl) (by kernel_rfl) (fun _ _ _ h => h) (Or.inl ⟨by rfl, fun W hW => by obtain ⟨q0, q1⟩ := hW; go_simp⟩) hHeld ?_
          try simp only [Act.put, List.setIfInBounds_toArray, List.set_cons_zero, List.set_cons_succ]
          refine wpAnyH_take (i := 5) (oi := ⟨_, _, _, _, _, _⟩) (v := .string x) rfl (by kernel_rfl) (by kernel_rfl) (by kernel_rfl) (fun _ _ _ h => h) (Or.inl ⟨by rfl, fun W hW => by obtain ⟨q0, q1⟩ := hW; go_simp⟩) hHeld ?_
          try simp only [Act.put, List.setIfInBounds_toArray, List.set_cons_zero, List.set_cons_succ]
          refine wpAnyH_ready (rs := [4, 6]) (by kernel_rfl) (by simp) (AllReadyH.cons (o := ⟨_, _, _, _, _, _⟩) rfl (fun K hK => ?_) (AllReadyH.cons (o := ⟨_, _, _, _, _, _⟩) rfl (fun K hK => ?_) AllReadyH.nil))
          · rw [if_pos (by rfl)]
            go_simp
            refine hK.out _ _ hHeld (fun hHeld => ?_)
            clear hK K
            try simp only [Act.put, List.setIfInBounds_toArray, List.set_cons_zero, List.set_cons_succ]
            refine wpAnyH_ready (rs := [6]) (by kernel_rfl) (by simp) (AllReadyH.cons (o := ⟨_, _, _, _, _, _⟩) rfl (fun K hK => ?_) AllReadyH.nil)
            rw [if_pos (by rfl)]
            go_simp
            refine hK.out _ _ HXa.out (fun hHeld => ?_)
            clear hK K
            try simp only [Act.put, List.setIfInBounds_toArray, List.set_cons_zero, List.set_cons_succ]
            refine wpAnyH_ready (rs := [7]) (by kernel_rfl) (by simp) (AllReadyH.cons (o := ⟨_, _, _, _, _, _⟩) rfl (fun K hK => ?_) AllReadyH.nil)
            refine step_append_lies _ rfl (.tmp 97) (.tmp 99) 43 rfl 0 9 i0 _ 1 16 Tryd.underlying43 Hi.out Hz.out Hz1.out Hz2.out rfl (by decide) _ (s.log who).length (srows (s.log who)) rfl HOA.out ⟨W12.heap.size, 0, none⟩ 1 1 [.string x] rfl rfl Hcl.out (by simp [Value.oneCell']) (by decide) (by unfold maxLen; omega) (by omega) (Nat.zero_le _) _ rfl ?_
            intro g cap w5 hown5 hgrow hat hlt
            have HS5 := Lib.hid (HFIN.out g cap w5 hown5 hgrow hat)
            have hs5a := HS5.out.1
            have n25 := HS5.out.2.1
            have f25 := HS5.out.2.2.1
            refine hK.out _ _ hs5a (fun hHeld => ?_)
            clear hK K hgrow hown5 hat hlt
            try simp only [Act.put, List.setIfInBounds_toArray, List.set_cons_zero, List.set_cons_succ]
            refine wpAnyH_take (i := 8) (oi := ⟨_, _, _, _, _, _⟩) (v := .pointer (some ⟨q.nb who, 0, none⟩)) rfl (by kernel_rfl) (by kernel_rfl) (by kernel_rfl) (fun _ _ _ h => h) (Or.inl ⟨by rfl, fun W hW => by obtain ⟨q0, q1⟩ := hW; go_simp⟩) hHeld ?_
            try simp only [Act.put, List.setIfInBounds_toArray, List.set_cons_zero, List.set_cons_succ]
            refine wpAnyH_take (i := 9) (oi := ⟨_, _, _, _, _, _⟩) (v := .pointer (some ⟨q.nb who, 2, none⟩)) rfl (by kernel_rfl) (by kernel_rfl) (by kernel_rfl) (fun _ _ _ h => h) (Or.inl ⟨by rfl, fun W hW => by obtain ⟨q0, q1⟩ := hW; go_simp⟩) hHeld ?_
            try simp only [Act.put, List.setIfInBounds_toArray, List.set_cons_zero, List.set_cons_succ]
            refine wpAnyH_ready (rs := [10]) (by kernel_rfl) (by simp) (AllReadyH.cons (o := ⟨_, _, _, _, _, _⟩) rfl (fun K hK => ?_) AllReadyH.nil)
            rw [if_pos (by rfl)]
            go_simp
            refine hK.out _ _ HS5.out.2.2.2.1 (fun _ => ?_)
            clear hK K
            try simp only [Act.put, List.setIfInBounds_toArray, List.set_cons_zero, List.set_cons_succ]
            refine wpAnyH_done (by kernel_rfl) ?_ _
            refine NoPanic.normal ?_
            go_wp2_with fail
            go_meet
            exact HS5.out.2.2.2.2
          · rw [if_pos (by rfl)]
            go_simp
            refine hK.out _ _ HXa.out (fun hHeld => ?_)
            clear hK K
            try simp only [Act.put, List.setIfInBounds_toArray, List.set_cons_zero, List.set_cons_succ]
            refine wpAnyH_ready (rs := [4]) (by kernel_rfl) (by simp) (AllReadyH.cons (o := ⟨_, _, _, _, _, _⟩) rfl (fun K hK => ?_) AllReadyH.nil)
            rw [if_pos (by rfl)]
            go_simp
            refine hK.out _ _ hHeld (fun hHeld => ?_)
            clear hK K
            try simp only [Act.put, List.setIfInBounds_toArray, List.set_cons_zero, List.set_cons_succ]
            refine wpAnyH_ready (rs := [7]) (by kernel_rfl) (by simp) (AllReadyH.cons (o := ⟨_, _, _, _, _, _⟩) rfl (fun K hK => ?_) AllReadyH.nil)
            refine step_append_lies _ rfl (.tmp 97) (.tmp 99) 43 rfl 0 9 i0 _ 1 16 Tryd.underlying43 Hi.out Hz.out Hz1.out Hz2.out rfl (by decide) _ (s.log who).length (srows (s.log who)) rfl HOA.out ⟨W12.heap.size, 0, none⟩ 1 1 [.string x] rfl rfl Hcl.out (by simp [Value.oneCell']) (by decide) (by unfold maxLen; omega) (by omega) (Nat.zero_le _) _ rfl ?_
            intro g cap w5 hown5 hgrow hat hlt
            have HS5 := Lib.hid (HFIN.out g cap w5 hown5 hgrow hat)
            have hs5a := HS5.out.1
            have n25 := HS5.out.2.1
            have f25 := HS5.out.2.2.1
            refine hK.out _ _ hs5a (fun hHeld => ?_)
            clear hK K hgrow hown5 hat hlt
            try simp only [Act.put, List.setIfInBounds_toArray, List.set_cons_zero, List.set_cons_succ]
            refine wpAnyH_take (i := 8) (oi := ⟨_, _, _, _, _, _⟩) (v := .pointer (some ⟨q.nb who, 0, none⟩)) rfl (by kernel_rfl) (by kernel_rfl) (by kernel_rfl) (fun _ _ _ h => h) (Or.inl ⟨by rfl, fun W hW => by obtain ⟨q0, q1⟩ := hW; go_simp⟩) hHeld ?_
            try simp only [Act.put, List.setIfInBounds_toArray, List.set_cons_zero, List.set_cons_succ]
            refine wpAnyH_take (i := 9) (oi := ⟨_, _, _, _, _, _⟩) (v := .pointer (some ⟨q.nb who, 2, none⟩)) rfl (by kernel_rfl) (by kernel_rfl) (by kernel_rfl) (fun _ _ _ h => h) (Or.inl ⟨by rfl, fun W hW => by obtain ⟨q0, q1⟩ := hW; go_simp⟩) hHeld ?_
            try simp only [Act.put, List.setIfInBounds_toArray, List.set_cons_zero, List.set_cons_succ]
            refine wpAnyH_ready (rs := [10]) (by kernel_rfl) (by simp) (AllReadyH.cons (o := ⟨_, _, _, _, _, _⟩) rfl (fun K hK => ?_) AllReadyH.nil)
            rw [if_pos (by rfl)]
            go_simp
            refine hK.out _ _ HS5.out.2.2.2.1 (fun _ => ?_)
            clear hK K
            try simp only [Act.put, List.setIfInBounds_toArray, List.set_cons_zero, List.set_cons_succ]
            refine wpAnyH_done (by kernel_rfl) ?_ _
            refine NoPanic.normal ?_
            go_wp2_with fail
            go_meet
            exact HS5.out.2.2.2.2
        case rest =>
          obtain ⟨q', X', hg', hn', hI, hX', hm'⟩ := hcut
          have hk := fun (j : Nat) (v : Value) (h1 : N ≤ j ∧ j < N + 1 + 1 + 1 + 1 + 1) (h : W12.cell? ⟨j, 0, none⟩ = some v) => (World.cell?_of_block (a := ⟨j, 0, none⟩) (hm'.block j (World.block_lt_of_cell? _ _ h) (HJ2.out.c.y j h1).1)).trans h
          have sbc := hk _ _ (by omega) sb12
          have xbc := hk _ _ (by omega) xb12
          have mbc := hk _ _ (by omega) mb12
          have hn3 := hI.n3 who hw
          rw [show ((((s.prep P b).acc A b (s.log who).length x).learn who (s.log who ++ [x])).turn who rd2).round who = rd2 from if_pos rfl, hn'] at hn3
          have hfr := hI.fro who hw 3
          rw [hn'] at hfr
          have HI := Lib.hid hI
          have HM := Lib.hid hm'
          have HX' := Lib.hid hX'
          clear hk hI hm' hX' mb12 xb12 sb12 l12 gx12
          go_upto_region 27 with (fail)
          go_quiet (fail)
          go_wp2_with fail
          refine leaves_cons (f := 24) (args := #[.pointer (some ⟨N + 1 + 1, 0, none⟩)]) (by simp) (by simp [go_sem]) ?_
          refine (round_any .returning (w := wc.drewN nq) mbc hn3 hfr (by omega)).mono ?_
          rintro e u' w'' ⟨rfl, rfl, rfl⟩
          have hbw : Below B W12 wc := HM.out.below (by have := HW12.out.size; have := HN.out; omega) HJ2.out.c.xb
          have hmaj : maj fun i => A i = true := (maj_of HJ2.out.nd (by rw [HJ2.out.hm]; exact h2m2) fun j hj => (HJ2.out.hp j hj).1).mono fun i _ h => (HJ2.out.hp i h).2
          have hq := fin_turn (W := wc.drewN nq) (k := k) (B := B) (G := G) (HI.out.below ⟨rfl, rfl, rfl, Nat.le_refl _, fun _ _ => rfl⟩) hw (fun j hj => ?_) (by omega) (HV.out.1.add (who := who) (HP.out.l who hw) hw hGx (HV.out.2 hmaj))
          · rw [hg', hn'] at hq
            have hbz : Below B wc (wc.drewN nq) := ⟨rfl, rfl, rfl, Nat.le_refl _, fun _ _ => rfl⟩
            exact ⟨_, results_tmp3 rfl _ _ _, ⟨_, rfl⟩, (HW12.out.trans (hbw.trans hbz)).setCell hnbB _, hq⟩
          · rcases HX'.out j hj with (hj | hj) | hj
            · exact HJ2.out.c.xb j hj
            · exact Nat.le_trans hB hj.1
            · have := HW12.out.size
              have := HN.out
              omega
      · have e9 : decide (2 ≤ m2) = false := decide_eq_false h2m2
        rw [e9] at hmo2
        go_wp2_with (go_at_call 29; refine hmo2.mono ?_; clear hmo2; rintro e wz ⟨rfl, rfl⟩)
        have hn3 := HJ2.out.c.g.n3 who hw
        rw [show (((s.prep P b).acc A b (s.log who).length x).turn who rd2).round who = rd2 from if_pos rfl] at hn3
        refine leaves_cons (f := 24) (args := #[.pointer (some ⟨N + 1 + 1, 0, none⟩)]) (by simp) (by simp [go_sem]) ?_
        refine (round_any .returning (HJ2.out.c.cell (by omega) HK11.out.2.1) hn3 (HJ2.out.c.g.fro who hw 3) (by omega)).mono ?_
        rintro e u' w'' ⟨rfl, rfl, rfl⟩
        refine ⟨_, results_tmp3 rfl _ _ _, ⟨_, rfl⟩, HW12.out.setCell hnbB _, fin_turn HJ2.out.c.g hw (fun j hj => ?_) (by omega) HV.out.1⟩
        rcases hj with hj | hj
        · exact HJ2.out.c.xb j hj
        · exact Nat.le_trans hB hj.1
  · have e9 : decide (2 ≤ m) = false := decide_eq_false h2m
    rw [e9] at hmo
    go_wp2_with (go_at_call 29; refine hmo.mono ?_; clear hmo; rintro e wz ⟨rfl, rfl⟩)
    have hr1 := HJ.out.c.r1
    have hn3 := HJ.out.c.g.n3 who hw
    rw [show ((s.prep P b).turn who rd).round who = rd from if_pos rfl] at hn3
    refine leaves_cons (f := 24) (args := #[.pointer (some ⟨N + 1 + 1, 0, none⟩)]) (by simp) (by simp [go_sem]) ?_
    refine (round_any .returning (HJ.out.c.cell (by omega) HC7.out.2.2.1) hn3 (HJ.out.c.g.fro who hw 3) (by omega)).mono ?_
    rintro e u' w'' ⟨rfl, rfl, rfl⟩
    refine ⟨_, results_tmp3 rfl _ _ _, ⟨_, rfl⟩, HW8.out.setCell hnbB _, fin_turn HJ.out.c.g hw (fun j hj => ?_) (by omega) (HP1.out.turn (who := who) (rd := rd + 1) (by have := HJ.out.c.r0; omega) (by omega))⟩
    rcases hj with hj | hj
    · exact HJ.out.c.xb j hj
    · exact Nat.le_trans hB hj.1
end
end
end Go.Proofs.YtfjfkmoofmncnaaDoor
