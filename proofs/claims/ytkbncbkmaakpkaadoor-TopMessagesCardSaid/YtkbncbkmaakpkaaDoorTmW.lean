/- TopMessages: its walk. -/
import Derived.Test.YtkbncbkmaakpkaaDoorTmPlain
import Derived.Deep.RegionHeld3
import Derived.Deep.CutBlock
import Derived.Deep.DeepCutAuto
namespace Go.Proofs.YtkbncbkmaakpkaaDoor
open Go.RowKit
theorem Tryd.infoStr : (Tryd.prog.info? 9).map (fun i => (i.zero, i.size, i.bytes)) = some (some (.string ⟨#[]⟩), 1, 16) := by kernel_rfl
set_option maxRecDepth 100000 in
theorem run_neq_msg (a : Ms) (w : World) : (binOp .neq 51 a.val a.val).run Tryd.prog w = .ok (.bool false) w := by
  unfold Ms.val
  go_simp
theorem Boxed.facts {W' w5 : World} {n : Nat} (h : Boxed W' n Ms.zero ∧ ∀ o, W'.frozen? ⟨n, o, none⟩ = false) (hb : Below W'.heap.size W' w5) :
    (w5.cell? ⟨n, 0, none⟩ = some (.int .i64 0) ∧ w5.cell? ⟨n, 1, none⟩ = some (.int .i64 0) ∧ w5.cell? ⟨n, 2, none⟩ = some (.int .i64 0) ∧ w5.cell? ⟨n, 3, none⟩ = some (.int .i64 0) ∧ w5.cell? ⟨n, 4, none⟩ = some (.int .i64 0) ∧ w5.cell? ⟨n, 5, none⟩ = some (.int .i64 0) ∧ w5.cell? ⟨n, 6, none⟩ = some (.int .i64 0) ∧ w5.cell? ⟨n, 7, none⟩ = some (.string ⟨#[]⟩)) ∧
    (w5.frozen? ⟨n, 0, none⟩ = false ∧ w5.frozen? ⟨n, 1, none⟩ = false ∧ w5.frozen? ⟨n, 2, none⟩ = false ∧ w5.frozen? ⟨n, 3, none⟩ = false ∧ w5.frozen? ⟨n, 4, none⟩ = false ∧ w5.frozen? ⟨n, 5, none⟩ = false ∧ w5.frozen? ⟨n, 6, none⟩ = false ∧ w5.frozen? ⟨n, 7, none⟩ = false) ∧ n < W'.heap.size := by
  have hf : ∀ o, w5.frozen? ⟨n, o, none⟩ = false := fun o => (World.frozen?_of_block (a := ⟨n, o, none⟩) (hb.block n h.1.1)).trans (h.2 o)
  exact ⟨(h.1.below hb).all, ⟨hf 0, hf 1, hf 2, hf 3, hf 4, hf 5, hf 6, hf 7⟩, h.1.1⟩
theorem fin_alloc {w w5 : World} {B q : Nat} (h : IsF w5 q 20 0) (hb : Below B w w5) (o : Obj) (hB : B ≤ w5.heap.size) : IsF (w5.alloc o) q 20 0 ∧ Below B w (w5.alloc o) :=
  ⟨h.below ((Below.refl _ _).alloc (Nat.le_refl _) _), hb.alloc hB _⟩
theorem fin_set8 {w w5 : World} {B q n : Nat} (h : IsF w5 q 20 0) (hb : Below B w w5) (hn : B ≤ n) (hq : n < q) :
    IsF ((((((((w5.setCell ⟨n, 0, none⟩ (.int .i64 0)).setCell ⟨n, 1, none⟩ (.int .i64 0)).setCell ⟨n, 2, none⟩ (.int .i64 0)).setCell ⟨n, 3, none⟩ (.int .i64 0)).setCell ⟨n, 4, none⟩ (.int .i64 0)).setCell ⟨n, 5, none⟩ (.int .i64 0)).setCell ⟨n, 6, none⟩ (.int .i64 0)).setCell ⟨n, 7, none⟩ (.string ⟨#[]⟩)) q 20 0 ∧
    Below B w ((((((((w5.setCell ⟨n, 0, none⟩ (.int .i64 0)).setCell ⟨n, 1, none⟩ (.int .i64 0)).setCell ⟨n, 2, none⟩ (.int .i64 0)).setCell ⟨n, 3, none⟩ (.int .i64 0)).setCell ⟨n, 4, none⟩ (.int .i64 0)).setCell ⟨n, 5, none⟩ (.int .i64 0)).setCell ⟨n, 6, none⟩ (.int .i64 0)).setCell ⟨n, 7, none⟩ (.string ⟨#[]⟩)) := by
  refine ⟨h.keep ?_, (((((((hb.setCell hn _).setCell hn _).setCell hn _).setCell hn _).setCell hn _).setCell hn _).setCell hn _).setCell hn _⟩
  have hne : q ≠ n := by omega
  iterate 8 refine (Below.heap_setCell _ _ _ _ hne).trans ?_
  rfl
theorem sealOf_size (m : Ms) : (sealOf m).size = 29 + m.data.size := by rw [sealOf, bstr_size, length_seal, encM_len]; omega
section
variable {w : World}
set_option maxRecDepth 100000 in
set_option maxHeartbeats 8000000 in
theorem messages_any (ht : Tabs w) (hE : ErrT w) {v pv : Value} {l : List Ms} {ps : List Nat} (ha : ArgRow w v 8 (l.map Ms.cells)) (hf : ∀ m ∈ l, m.fits) (hp : ArgRow w pv 1 (ps.map pcell)) (hpb : ∀ n ∈ ps, n < 256) (a : Int) (_ : i64 a) :
    Calls Tryd.prog 4 #[v, pv, .int .i64 a] w fun e w' => e = .returned (.bool true) ∧ Below w.heap.size w w' := by
  obtain ⟨i0, hi0, hz0, hz1, hz2⟩ := info_parts Tryd.infoStr
  have Hi := Lib.hid hi0
  have Hz := Lib.hid hz0
  have Hz1 := Lib.hid hz1
  have Hz2 := Lib.hid hz2
  clear hi0 hz0 hz1 hz2
  obtain ⟨base, cap, rfl, hm⟩ := ha.mslice
  obtain ⟨pbase, pcap, rfl, hpm⟩ := hp.pslice
  unfold maxLen at hm hpm
  have hst : ∀ wr, Below w.heap.size w wr → ∀ k s, l[k]? = some s → _ := fun wr hb k s hk => (ha.below hb).mat (k := k) (s := s) hk
  have hpt : ∀ wr, Below w.heap.size w wr → ∀ k s, ps[k]? = some s → _ := fun wr hb k s hk => (hp.below hb).pat (k := k) (s := s) hk
  have HT := Lib.hid (fun wr (hb : Below w.heap.size w wr) => ht.below hb ht.lt)
  have HE := Lib.hid (fun wr (hb : Below w.heap.size w wr) => hE.below hb (World.block_lt_of_cell? w _ hE))
  have HW : Hid (∀ wr, Below w.heap.size w wr → Calls Tryd.prog 15 #[.int .i64 20, .int .i64 0, .nilIface] wr fun en w' => ∃ q, en = .returned (.iface 132 (.pointer (some ⟨q, 0, none⟩))) ∧ IsF w' q 20 0 ∧ Below w.heap.size w w') := Lib.hid fun wr hb => (wrap_any (wr := wr) 20 0 rfl).mono fun e w' hh => ⟨_, hh.1, hh.2.1, hb.trans (hh.2.2.1.mono hb.size)⟩
  have HCF : Hid (∀ wr q e i, Below w.heap.size w wr → IsF wr q e i → Calls Tryd.prog 14 #[.iface 132 (.pointer (some ⟨q, 0, none⟩))] wr fun ev w' => ev = .returned (.int .i64 e) ∧ Below w.heap.size w w') := Lib.hid fun wr q e i hb h => (code_fault (hE.below hb (World.block_lt_of_cell? w _ hE)) h).mono fun ev w' hh => ⟨hh.1, hb.trans (hh.2.mono hb.size)⟩
  have Hst := Lib.hid hst
  have Hpt := Lib.hid hpt
  have Hf := Lib.hid hf
  have Hpb := Lib.hid hpb
  clear hst hpt ht hE ha hf hp hpb
  by_cases hlen : (20 : Int) < (l.length : Int)
  · have e1 : decide ((20 : Int) < (l.length : Int)) = true := by simpa using hlen
    have hw := HW.out w (Below.refl _ _)
    go_enter Tryd.func4, Tryd.ntmps4
    go_wp2_with fail
    refine hw.mono ?_
    rintro e w1 ⟨q, rfl, hi1, hb1⟩
    have hcf := HCF.out w1 q 20 0 hb1 hi1
    clear hw hi1 hb1
    go_wp2_with fail
    refine hcf.mono ?_
    rintro e w2 ⟨rfl, hb2⟩
    have HB2 := Lib.hid hb2
    clear hcf hb2
    go_wp2_with fail
    go_ret
    exact ⟨rfl, HB2.out⟩
  have e1 : decide ((20 : Int) < (l.length : Int)) = false := by simpa using hlen
  have hbn := bnew_any (w := w)
  go_enter Tryd.func4, Tryd.ntmps4
  go_wp2_with fail
  refine hbn.mono ?_
  rintro e w1 ⟨rfl, hbag, hbe⟩
  have hbA : Below w1.heap.size w1 (w1.alloc (.cells #[] 9)) := (Below.refl _ _).alloc (Nat.le_refl _) _
  have hown0 : (w1.alloc (.cells #[] 9)).ownsRow w1.heap.size 9 1 (.slice (some ⟨w1.heap.size, 0, none⟩) 0 0) 0 [] := World.ownsRow_lit (base := w1.heap.size) (size := 1) (e := 9) w1 #[] 0 (Nat.le_refl _) (by unfold maxLen; omega) rfl
  have hT0 : TM w (w1.alloc (.cells #[] 9)) w.heap.size (.slice (some ⟨w1.heap.size, 0, none⟩) 0 0) [] [] := by
    have hbl := hbag.has.lt w.heap.size (.inl rfl)
    refine ⟨ownsRow_base hown0 fun k hk => Nat.le_trans hbe.size (hown0.lt k hk).1, ⟨.slice none 0 0, hbag.below hbA, fun k hk => ?_⟩, hbe.trans (hbA.mono hbe.size)⟩
    rcases hk with rfl | hk
    · exact ⟨Nat.le_refl _, fun e => by have := (hown0.lt _ e).1; omega⟩
    · simp [Value.ownBlock] at hk
  have HT0 := Lib.hid hT0
  clear hbn hbag hbe hbA hown0 hT0 e1
  go_wp2_with fail
  go_loopw [8, 9, 10, 11] (fun sv i _ _ wr => ∃ (k : Nat) (LL : List Ms), k ≤ l.length ∧ i = .int .i64 (k : Int) ∧ TM w wr w.heap.size sv LL LL ∧ LL.length ≤ k ∧ ∀ m ∈ LL, m.fits ∧ m.check = 0) (fun _ i _ _ _ => l.length - (intOf i).toNat)
  case atStart => exact ⟨0, [], Nat.zero_le _, rfl, HT0.out, Nat.zero_le _, fun m hm => by simp at hm⟩
  case round =>
    clear HT0
    obtain ⟨k, LL, hk, rfl, hM, hLk, hLo⟩ := hrel
    by_cases hlt : k < l.length
    · obtain ⟨m, hmk⟩ : ∃ m, l[k]? = some m := ⟨_, List.getElem?_eq_getElem hlt⟩
      have hmf := Hf.out m (List.mem_of_getElem? hmk)
      obtain ⟨b, off, cap', hv, hbl, hc⟩ := Hst.out wr hM.bel k m hmk
      simp only [Value.slice.injEq, true_and] at hv
      obtain ⟨rfl, rfl⟩ := hv
      have q7 := hc 7 _ rfl
      by_cases hd : (100 : Int) < (m.data.size : Int)
      · have e1 : decide ((100 : Int) < (m.data.size : Int)) = true := by simpa using hd
        have hw := HW.out wr hM.bel
        clear hc hM hd
        go_wp2_with fail
        refine hw.mono ?_
        rintro e w1 ⟨q, rfl, hi1, hb1⟩
        have hcf := HCF.out w1 q 20 0 hb1 hi1
        clear hw hi1 hb1
        go_wp2_with fail
        refine hcf.mono ?_
        rintro e w2 ⟨rfl, hb2⟩
        have HB2 := Lib.hid hb2
        clear hcf hb2
        go_wp2_with fail
        go_ret
        exact ⟨rfl, HB2.out⟩
      have e1 : decide ((100 : Int) < (m.data.size : Int)) = false := by simpa using hd
      have q0 := hc 0 _ rfl
      rw [Nat.add_zero] at q0
      have q1 := hc 1 _ rfl
      have q2 := hc 2 _ rfl
      have q3 := hc 3 _ rfl
      have q4 := hc 4 _ rfl
      have q5 := hc 5 _ rfl
      have q6 := hc 6 _ rfl
      have Hq := Lib.hid (fun W (hb : Below w.heap.size w W) => (Hst.out W hb k m hmk))
      have HM := Lib.hid hM
      have HLo := Lib.hid hLo
      obtain ⟨a4, cap4, rfl⟩ := row_lens hM.row
      clear hM hLo hc hmk
      by_cases hck : m.check = 0
      · have hen := encode_ok (HT.out _ HM.out.bel) m hmf hck
        clear hd
        unfold Ms.val at hen
        go_wp2_with fail
        refine hen.mono ?_
        rintro e w2 ⟨rfl, hb2⟩
        have gT : TM w w2.drew w.heap.size (.slice a4 LL.length cap4) LL LL := HM.out.more hb2.drew
        have hS : ∀ W, Below w.heap.size w W → W.cell? ⟨b, off + k * 8, none⟩ = some (.int .i64 m.kind) ∧ W.cell? ⟨b, off + k * 8 + 1, none⟩ = some (.int .i64 m.src) ∧ W.cell? ⟨b, off + k * 8 + 2, none⟩ = some (.int .i64 m.dst) ∧ W.cell? ⟨b, off + k * 8 + 3, none⟩ = some (.int .i64 m.epoch) ∧ W.cell? ⟨b, off + k * 8 + 4, none⟩ = some (.int .i64 m.seq) ∧ W.cell? ⟨b, off + k * 8 + 5, none⟩ = some (.int .i64 m.off) ∧ W.cell? ⟨b, off + k * 8 + 6, none⟩ = some (.int .i64 m.len) ∧ W.cell? ⟨b, off + k * 8 + 7, none⟩ = some (.string m.data) := fun W hb => by
          obtain ⟨b', off', cap', hv, -, hc⟩ := Hq.out W hb
          simp only [Value.slice.injEq, Option.some.injEq, Addr.mk.injEq, and_true, true_and] at hv
          obtain ⟨⟨rfl, rfl⟩, rfl⟩ := hv
          exact ⟨hc 0 _ rfl, hc 1 _ rfl, hc 2 _ rfl, hc 3 _ rfl, hc 4 _ rfl, hc 5 _ rfl, hc 6 _ rfl, hc 7 _ rfl⟩
        have hz0 := hS w2.drew gT.bel
        have HSnd : Hid (∀ W, TM w W w.heap.size (.slice a4 LL.length cap4) LL LL → Calls Tryd.prog 18 #[.pointer (some ⟨w.heap.size, 0, none⟩), .agg #[.int .i64 m.kind, .int .i64 m.src, .int .i64 m.dst, .int .i64 m.epoch, .int .i64 m.seq, .int .i64 m.off, .int .i64 m.len, .string m.data]] W fun e w' => e = .returned (.int .i64 0) ∧ TM w w' w.heap.size (.slice a4 LL.length cap4) (LL ++ [m]) LL) := Lib.hid fun W h => by
          have h2 := h.send (by omega) m hmf
          rw [show sendE LL m = 0 by rw [sendE, if_pos hck, if_pos (by omega)], show sendS LL m = LL ++ [m] by rw [sendS, if_pos ⟨hck, by omega⟩]] at h2
          exact h2
        have HS := Lib.hid hS
        clear hen hS q0 q1 q2 q3 q4 q5 q6 q7 hb2
        go_wp2_with fail
        go_region_held3 (fun w' => w'.cell? ⟨b, off + k * 8, none⟩ = some (.int .i64 m.kind) ∧ w'.cell? ⟨b, off + k * 8 + 1, none⟩ = some (.int .i64 m.src) ∧ w'.cell? ⟨b, off + k * 8 + 2, none⟩ = some (.int .i64 m.dst) ∧ w'.cell? ⟨b, off + k * 8 + 3, none⟩ = some (.int .i64 m.epoch) ∧ w'.cell? ⟨b, off + k * 8 + 4, none⟩ = some (.int .i64 m.seq) ∧ w'.cell? ⟨b, off + k * 8 + 5, none⟩ = some (.int .i64 m.off) ∧ w'.cell? ⟨b, off + k * 8 + 6, none⟩ = some (.int .i64 m.len) ∧ w'.cell? ⟨b, off + k * 8 + 7, none⟩ = some (.string m.data)) (first | exact hz0 | exact HS.out _ gT.bel)
          ((first
            | (go_at_call 14
               refine code_nil.mono ?_
               rintro e wA ⟨rfl, rfl⟩)
            | (go_at_call 18
               refine (HSnd.out _ gT).mono ?_
               rintro e wB ⟨rfl, gT⟩)))
        all_goals
          have HG := Lib.hid gT
          have HSR := Lib.hid (show Value.string (bstr (sealB (encM m))) = .string (sealOf m) from rfl)
          clear gT hz0
          go_wp2_with fail
          refine code_nil.mono ?_
          rintro e wB ⟨rfl, rfl⟩
          have hbA : Below wB.heap.size wB (wB.alloc (.cells #[.string (bstr (sealB (encM m)))] 9)) := (Below.refl _ _).alloc (Nat.le_refl _) _
          have hTA := HG.out.more hbA
          have hml : LL.length + 1 ≤ maxLen := by unfold maxLen; omega
          have hcl := cell_one_new wB (.string (bstr (sealB (encM m)))) 9
          have O1 : ∀ x ∈ [Value.string (bstr (sealB (encM m)))], x.oneCell' = true := fun x hx => by simp at hx; subst hx; rfl
          have HTA := Lib.hid hTA
          have HCL := Lib.hid hcl
          have hbs := HG.out.bel.size
          have hll : LL.length ≤ 20 := by omega
          clear hbA hTA hcl
          go_wp2_with (refine wpList_append_own_at _ rfl (.tmp 66) (.tmp 68) 49 rfl w.heap.size 9 i0 _ 1 16 Tryd.underlying49 Hi.out Hz.out Hz1.out Hz2.out rfl (by decide) _ LL.length (srows LL) rfl HTA.out.row ⟨wB.heap.size, 0, none⟩ 1 1 [.string (bstr (sealB (encM m)))] rfl rfl HCL.out O1 hml (by omega) (by simp; omega) ?_)
          intro v5 w5 hown5 hgrow hnn hor
          have hs5 : TM w w5 w.heap.size v5 (LL ++ [m]) (LL ++ [m]) := HTA.out.grown hgrow (by rw [List.length_append, srows_app]; exact hown5) (by simpa using hor)
          have HS5 := Lib.hid hs5
          have HL5 : Hid (∀ x ∈ LL ++ [m], x.fits ∧ x.check = 0) := Lib.hid fun x hx => by
            rcases List.mem_append.1 hx with hx | hx
            · exact HLo.out x hx
            · simp at hx; subst hx; exact ⟨hmf, hck⟩
          clear hown5 hgrow hor hs5 hnn
          go_wp2_with fail
          go_roundw
          case rel => exact ⟨k + 1, _, by omega, by go_num, HS5.out, by simp; omega, HL5.out⟩
          case measure => simp [intOf]; omega
      · have hc' : (m.check == 0) = false := by simpa using hck
        have hen := encode_bad m hmf hc' (w := wr)
        have hsE : sendE LL m = m.check := by rw [sendE, if_neg hck]
        have hsS : sendS LL m = LL := by rw [sendS, if_neg (fun h => hck h.1)]
        have HSnd : Hid (∀ W, Below wr.heap.size wr W → Calls Tryd.prog 18 #[.pointer (some ⟨w.heap.size, 0, none⟩), m.val] W fun e w' => e = .returned (.int .i64 m.check) ∧ TM w w' w.heap.size (.slice a4 LL.length cap4) LL LL ∧ ∀ q, wr.heap.size ≤ q → q < W.heap.size → w'.heap[q]? = W.heap[q]?) := Lib.hid fun W h => by
          have h2 := HM.out.sendB h (by omega) m hmf
          rwa [hsE, hsS] at h2
        generalize m.check = c at hc' hen HSnd
        have hS : ∀ W, Below w.heap.size w W → W.cell? ⟨b, off + k * 8, none⟩ = some (.int .i64 m.kind) ∧ W.cell? ⟨b, off + k * 8 + 1, none⟩ = some (.int .i64 m.src) ∧ W.cell? ⟨b, off + k * 8 + 2, none⟩ = some (.int .i64 m.dst) ∧ W.cell? ⟨b, off + k * 8 + 3, none⟩ = some (.int .i64 m.epoch) ∧ W.cell? ⟨b, off + k * 8 + 4, none⟩ = some (.int .i64 m.seq) ∧ W.cell? ⟨b, off + k * 8 + 5, none⟩ = some (.int .i64 m.off) ∧ W.cell? ⟨b, off + k * 8 + 6, none⟩ = some (.int .i64 m.len) ∧ W.cell? ⟨b, off + k * 8 + 7, none⟩ = some (.string m.data) := fun W hb => by
          obtain ⟨b', off', cap', hv, -, hc⟩ := Hq.out W hb
          simp only [Value.slice.injEq, Option.some.injEq, Addr.mk.injEq, and_true, true_and] at hv
          obtain ⟨⟨rfl, rfl⟩, rfl⟩ := hv
          exact ⟨hc 0 _ rfl, hc 1 _ rfl, hc 2 _ rfl, hc 3 _ rfl, hc 4 _ rfl, hc 5 _ rfl, hc 6 _ rfl, hc 7 _ rfl⟩
        have hcc : (!(c == c)) = false := by simp
        unfold Ms.val at hen HSnd
        have HS := Lib.hid hS
        clear hS hd hck hsE hsS
        go_wp2_with fail
        refine hen.mono ?_
        rintro e w2 ⟨q, rfl, gI0, gB0, hq⟩
        have gB : Below wr.heap.size wr w2.drew := gB0.drew
        have gI : IsF w2.drew q c 0 := gI0.below (Below.refl _ _).drew
        have gT : TM w w2.drew w.heap.size (.slice a4 LL.length cap4) LL LL := HM.out.more gB
        have hz0 := HS.out w2.drew gT.bel
        have HQ := Lib.hid hq
        clear hen q0 q1 q2 q3 q4 q5 q6 q7 gI0 gB0 hq
        go_wp2_with fail
        go_region_held3 (fun w' => w'.cell? ⟨b, off + k * 8, none⟩ = some (.int .i64 m.kind) ∧ w'.cell? ⟨b, off + k * 8 + 1, none⟩ = some (.int .i64 m.src) ∧ w'.cell? ⟨b, off + k * 8 + 2, none⟩ = some (.int .i64 m.dst) ∧ w'.cell? ⟨b, off + k * 8 + 3, none⟩ = some (.int .i64 m.epoch) ∧ w'.cell? ⟨b, off + k * 8 + 4, none⟩ = some (.int .i64 m.seq) ∧ w'.cell? ⟨b, off + k * 8 + 5, none⟩ = some (.int .i64 m.off) ∧ w'.cell? ⟨b, off + k * 8 + 6, none⟩ = some (.int .i64 m.len) ∧ w'.cell? ⟨b, off + k * 8 + 7, none⟩ = some (.string m.data)) (first | exact hz0 | exact HS.out _ gT.bel)
          ((first
            | (go_at_call 14
               refine (code_fault (HE.out _ gT.bel) gI).mono ?_
               rintro e wA ⟨rfl, hbA⟩
               have gT := gT.more hbA
               have gI := gI.below hbA
               try have gB := gB.trans (hbA.mono gB.size))
            | (go_at_call 18
               refine (HSnd.out _ gB).mono ?_
               rintro e wB ⟨rfl, gT, gk⟩
               have gI := gI.keep (gk q HQ.out (World.block_lt_of_cell? _ _ gI.c0)))))
        all_goals
          have HG := Lib.hid gT
          have hcf := code_fault (HE.out _ gT.bel) gI
          clear gT gI gB hz0
          go_wp2_with fail
          refine hcf.mono ?_
          rintro e wC ⟨rfl, hbC⟩
          have HG2 := Lib.hid (HG.out.more hbC)
          clear hcf hbC
          go_wp2_with fail
          go_roundw
          case rel => exact ⟨k + 1, LL, by omega, by go_num, HG2.out, by omega, HLo.out⟩
          case measure => simp [intOf]; omega
    · have HM := Lib.hid hM
      have HLo := Lib.hid hLo
      have hl20 : LL.length ≤ 20 := by omega
      obtain ⟨a4, cap4, rfl⟩ := row_lens hM.row
      clear hM hLo hLk Hst Hf
      go_wp2_with fail
      clear hlt hk
      go_loopw [8, 12, 13, 14, 15, 16, 17, 18, 19, 20, 21] (fun sv i _ _ _ _ _ _ _ _ _ wr => ∃ (k : Nat) (LL : List Ms), k ≤ ps.length ∧ i = .int .i64 (k : Int) ∧ TM w wr w.heap.size sv LL LL ∧ LL.length ≤ 20 ∧ ∀ m ∈ LL, m.fits ∧ m.check = 0) (fun _ i _ _ _ _ _ _ _ _ _ _ => ps.length - (intOf i).toNat)
      case atStart => exact ⟨0, _, Nat.zero_le _, rfl, HM.out, hl20, HLo.out⟩
      case round =>
        clear HM HLo hl20
        obtain ⟨k, LL, hk, rfl, hM, hl20, hLo⟩ := hrel
        obtain ⟨a4, cap4, rfl⟩ := row_lens hM.row
        by_cases hgo : k < ps.length ∧ 0 < LL.length
        · obtain ⟨hkp, hL0⟩ := hgo
          have e1 : decide ((k : Int) < (ps.length : Int)) = true := by simpa using hkp
          have e2 : decide ((0 : Int) < (LL.length : Int)) = true := by simpa using hL0
          obtain ⟨p, hpk⟩ : ∃ p, ps[k]? = some p := ⟨_, List.getElem?_eq_getElem hkp⟩
          have hp256 := Hpb.out p (List.mem_of_getElem? hpk)
          obtain ⟨pb, poff, pcap', hv, hpbl, hpc⟩ := Hpt.out wr hM.bel k p hpk
          simp only [Value.slice.injEq, true_and] at hv
          obtain ⟨rfl, rfl⟩ := hv
          have hKl : p % LL.length < LL.length := Nat.mod_lt _ hL0
          have hte : Int.tmod (p : Int) (LL.length : Int) = ((p % LL.length : Nat) : Int) := (Int.ofNat_tmod p LL.length).symm
          generalize p % LL.length = K at hKl hte
          obtain ⟨m, hmK⟩ : ∃ m, LL[K]? = some m := ⟨_, List.getElem?_eq_getElem hKl⟩
          obtain ⟨hmf, hmc⟩ := hLo m (List.mem_of_getElem? hmK)
          have htk := hM.take (by omega) (K : Int)
          have hatB : atB LL (K : Int) = true := by simp [atB, hKl]
          have hatM : atM LL (K : Int) = m := by simp [atM, List.getD_eq_getElem?_getD, hmK]
          rw [hatB, hatM, if_pos rfl, if_pos rfl, Int.toNat_natCast] at htk
          unfold Ms.val at htk
          have HM := Lib.hid hM
          have HLo := Lib.hid hLo
          have hn0 : (LL.length : Int) ≠ 0 := by omega
          have HMK := Lib.hid hmK
          have hKi : (K : Int) < (LL.length : Int) := by omega
          clear hM hLo hpk hatB hatM hmK
          go_wp2_with fail
          obtain ⟨g, cap6, hv, hcap, -⟩ := HM.out.at HMK.out
          simp only [Value.slice.injEq, true_and] at hv
          obtain ⟨rfl, rfl⟩ := hv
          refine htk.mono ?_
          rintro e w2 ⟨rfl, hT2⟩
          have hbA : Below w2.heap.size w2 (w2.alloc (.cells m.cells.toArray 51)) := (Below.refl _ _).alloc (Nat.le_refl _) _
          have hTA := hT2.more hbA
          obtain ⟨g', cap7, hv, -, qT⟩ := hTA.at HMK.out
          simp only [Value.slice.injEq, Option.some.injEq, Addr.mk.injEq, and_true, true_and] at hv
          obtain ⟨rfl, rfl⟩ := hv
          have hbx := Boxed.made w2 m 51
          have hde := decode_ok (HT.out _ hTA.bel) m hmf hmc
          change Calls _ _ #[.string (sealOf m)] _ _ at hde
          have hdz := (check_in hmc).2.2.2.2.2.2.2
          have hunf : (.cells m.cells.toArray 51 : Obj) = .cells #[.int .i64 m.kind, .int .i64 m.src, .int .i64 m.dst, .int .i64 m.epoch, .int .i64 m.seq, .int .i64 m.off, .int .i64 m.len, .string m.data] 51 := rfl
          have HUNF := Lib.hid hunf
          rw [hunf] at qT hde
          clear hunf
          have hneq := run_neq_msg m
          unfold Ms.val at hde hneq
          have HTA := Lib.hid hTA
          have HBX := Lib.hid hbx
          have Hmc := Lib.hid hmc
          have Hmf := Lib.hid hmf
          clear htk hT2 hbA hTA hbx hmc hmf hpc hte
          go_wp2_with fail
          refine hde.mono ?_
          rintro e w3 ⟨rfl, hb3⟩
          have hbB : Below w3.heap.size w3 (w3.alloc (.cells m.cells.toArray 51)) := (Below.refl _ _).alloc (Nat.le_refl _) _
          have hTB := (HTA.out.more hb3).more hbB
          obtain ⟨q0, q1, q2, q3, q4, q5, q6, q7⟩ := ((HBX.out.below hb3).below hbB).all
          obtain ⟨s0, s1, s2, s3, s4, s5, s6, s7⟩ := (Boxed.made w3 m 51).all
          obtain ⟨g', cap8, hv, -, qS⟩ := hTB.at HMK.out
          simp only [Value.slice.injEq, Option.some.injEq, Addr.mk.injEq, and_true, true_and] at hv
          obtain ⟨rfl, rfl⟩ := hv
          rw [HUNF.out] at hTB q0 q1 q2 q3 q4 q5 q6 q7 s0 s1 s2 s3 s4 s5 s6 s7 qS
          have HTB := Lib.hid hTB
          clear hde hb3 hbB hTB qT
          change ∀ w, (binOp .neq 51 (.agg #[.int .i64 m.kind, .int .i64 m.src, .int .i64 m.dst, .int .i64 m.epoch, .int .i64 m.seq, .int .i64 m.off, .int .i64 m.len, .string m.data]) (.agg #[.int .i64 m.kind, .int .i64 m.src, .int .i64 m.dst, .int .i64 m.epoch, .int .i64 m.seq, .int .i64 m.off, .int .i64 m.len, .string m.data])).run Tryd.prog w = .ok (.bool false) w at hneq
          have hsz := sealOf_size m
          generalize hTx : sealOf m = T at hsz qS
          have HTX := Lib.hid hTx
          have hTs0 : 0 < T.size := by omega
          have hTs1 : T.size ≤ 2000 := by omega
          have HSZ := Lib.hid hsz
          clear hTx hsz
          go_wp2_with fail
          refine code_nil.mono ?_
          rintro e wC hwC
          obtain ⟨rfl, hwC⟩ := hwC
          subst hwC
          go_wp2_with fail
          clear q0 q1 q2 q3 q4 q5 q6 q7 s0 s1 s2 s3 s4 s5 s6 s7 HUNF HBX HTA hneq
          generalize w3.alloc (.cells #[.int .i64 m.kind, .int .i64 m.src, .int .i64 m.dst, .int .i64 m.epoch, .int .i64 m.seq, .int .i64 m.off, .int .i64 m.len, .string m.data] 51) = W at HTB qS ⊢
          obtain ⟨J, hJ, hJe, hJ1, hJ2⟩ := place_ok a T.size hTs0 hTs1
          have hw1 : IntKind.i64.wrap (Int.tmod a (T.size : Int) + (T.size : Int)) = Int.tmod a (T.size : Int) + (T.size : Int) := by rw [IntKind.wrap_i64]; omega
          have hnz : (T.size : Int) ≠ 0 := by omega
          go_quiet (fail)
          have hTC := HTB.out.more (w' := W.drewN nq) ⟨rfl, rfl, rfl, Nat.le_refl _, fun _ _ => rfl⟩
          have qC : (W.drewN nq).cell? ⟨g, K, none⟩ = some (.string T) := qS
          have HTC := Lib.hid hTC
          clear hTC qS HTB hw1 hnz hJe hJ1 hJ2
          generalize W.drewN nq = W at HTC qC ⊢
          have qD : W.drew.cell? ⟨g, K, none⟩ = some (.string T) := qC
          have hJi : (J : Int) < (T.size : Int) := by omega
          have hJle : J ≤ T.size := by omega
          have hJl1 : J + 1 ≤ T.size := by omega
          have hJl2 : (J : Int) + 1 ≤ (T.size : Int) := by omega
          have hJ3 : ((J : Int) + 1).toNat = J + 1 := by omega
          have hJ4 : (0 : Int) ≤ (J : Int) + 1 := by omega
          have e4 : decide ((J : Int) + 1 < 0) = false := by simp; omega
          have hw2 : IntKind.i64.wrap ((J : Int) + 1) = (J : Int) + 1 := by rw [IntKind.wrap_i64]; omega
          have hgl := World.block_lt_of_cell? W _ qC
          have qE : ∀ o, (W.alloc o).cell? ⟨g, K, none⟩ = some (.string T) := fun o => by rw [World.cell?_alloc_lt _ _ _ hgl]; exact qC
          have qF : ∀ o o', ((W.alloc o).alloc o').cell? ⟨g, K, none⟩ = some (.string T) := fun o o' => by rw [World.cell?_alloc_lt _ _ _ (by have : g < W.heap.size := hgl; simp; omega)]; exact qE o
          clear hgl
          obtain ⟨y, hy⟩ : ∃ y, y = T[J]'hJ ^^^ 64 := ⟨_, rfl⟩
          have hxor : ∀ h : J < T.size, bits .xor .u8 ((T[J]'h).toNat : Int) 64 = (y.toNat : Int) := fun h => by rw [hy]; exact xor_u8 _
          have HY := Lib.hid hy
          clear hy
          have hYs : (ByteArray.mk #[y]).size = 1 := rfl
          have hcv : ∀ (W' : World) (n : Nat), W'.cell? ⟨n, 0, none⟩ = some (.int .u8 (y.toNat : Int)) → (convert 42 9 (.slice (some ⟨n, 0, none⟩) 1 1)).run Tryd.prog W' = .ok (.string ⟨#[y]⟩) W' := fun W' n hc =>
            run_convert_bytes_back W' 42 9 5 ⟨n, 0, none⟩ 1 [y] Tryd.underlying42 Tryd.underlying5 Tryd.underlying9 fun j hj => by
              have : j = 0 := by simp at hj; omega
              subst this
              exact hc
          have hc1 := hcv (W.alloc (.cells #[.int .u8 (y.toNat : Int)] 5)).drew W.heap.size (by show (W.alloc _).cell? _ = _; rw [World.cell?_alloc_new]; rfl)
          have hc2 := hcv ((W.alloc (.cells #[.int .u8 (y.toNat : Int)] 5)).alloc (.cells #[.int .i64 0, .int .i64 0, .int .i64 0, .int .i64 0, .int .i64 0, .int .i64 0, .int .i64 0, .string ⟨#[]⟩] 51)).drew W.heap.size (by show ((W.alloc _).alloc _).cell? _ = _; rw [World.cell?_alloc_lt _ _ _ (by simp), World.cell?_alloc_new]; rfl)
          have hc3 := hcv ((W.alloc (.cells #[.int .i64 0, .int .i64 0, .int .i64 0, .int .i64 0, .int .i64 0, .int .i64 0, .int .i64 0, .string ⟨#[]⟩] 51)).alloc (.cells #[.int .u8 (y.toNat : Int)] 5)).drew (W.heap.size + 1) (by show ((W.alloc _).alloc _).cell? _ = _; rw [World.cell?_alloc_at _ _ _ _ (by simp)]; rfl)
          clear hcv
          generalize hYg : ByteArray.mk #[y] = Y at hYs hc1 hc2 hc3
          have HYG := Lib.hid hYg
          generalize hA : T.extract 0 J = A
          generalize hB : T.extract (J + 1) T.size = B
          have hAs : A.size = J := by rw [← hA, ByteArray.size_extract]; omega
          have hBs : B.size ≤ 2000 := by rw [← hB, ByteArray.size_extract]; omega
          have hq1 : ¬ 9223372036854775807 < A.size + Y.size := by omega
          have hq2 : ¬ 9223372036854775807 < A.size + Y.size + B.size := by omega
          have hAB : A ++ Y ++ B = bstr ((sealB (encM m)).take J ++ y :: (sealB (encM m)).drop (J + 1)) := by
            rw [← hA, ← hB, ← HYG.out, ← HTX.out, show (sealOf m).size = (sealB (encM m)).length from bstr_size _]
            exact bstr_flip _ y
          have hxJ : (sealB (encM m))[J]? = some (T[J]'hJ) := by
            have hJ' : J < (sealB (encM m)).length := by rw [← bstr_size]; show J < (sealOf m).size; rw [HTX.out]; exact hJ
            rw [List.getElem?_eq_getElem hJ']
            congr 1
            have := byte_at (sealB (encM m)) J (by rw [bstr_size]; exact hJ') _ (List.getElem?_eq_getElem hJ')
            refine this.symm.trans ?_
            have h2 := HTX.out
            subst h2
            rfl
          obtain ⟨l', s', hl1, hl2, hl3, hl4⟩ := flip_bad (encM m) hxJ
          rw [← HY.out] at hl1
          rw [hl1] at hAB
          have hdb : ∀ W', Below W.heap.size W W' → Calls Tryd.prog 20 #[.string (A ++ Y ++ B)] W' fun e w' => ∃ q, e = .returned (.tuple #[.agg #[.int .i64 0, .int .i64 0, .int .i64 0, .int .i64 0, .int .i64 0, .int .i64 0, .int .i64 0, .string ⟨#[]⟩], .iface 132 (.pointer (some ⟨q, 0, none⟩))]) ∧ IsF w' q 20 0 ∧ Below W'.heap.size W' w' ∧ W'.heap.size ≤ q ∧ Below W.heap.size W w' := fun W' hb => by
            rw [hAB]
            exact (decode_bad (HT.out _ (HTC.out.more hb).bel) l' s' (by rw [hl2, encM_len]; omega) hl3 hl4).mono fun e w' hh => by
              obtain ⟨q, h1, h2, h3, h4⟩ := hh
              exact ⟨q, h1, h2, h3, h4, hb.trans (h3.mono hb.size)⟩
          have HDB := Lib.hid hdb
          have hKc : (K : Int) ≤ (cap4 : Int) := by omega
          have hHc : (LL.length : Int) ≤ (cap4 : Int) := by omega
          have HP1 : Hid (Boxed ((W.alloc (.cells #[.int .u8 (y.toNat : Int)] 5)).alloc (.cells #[.int .i64 0, .int .i64 0, .int .i64 0, .int .i64 0, .int .i64 0, .int .i64 0, .int .i64 0, .string ⟨#[]⟩] 51)).drew (W.heap.size + 1) Ms.zero ∧ ∀ o, ((W.alloc (.cells #[.int .u8 (y.toNat : Int)] 5)).alloc (.cells #[.int .i64 0, .int .i64 0, .int .i64 0, .int .i64 0, .int .i64 0, .int .i64 0, .int .i64 0, .string ⟨#[]⟩] 51)).drew.frozen? ⟨W.heap.size + 1, o, none⟩ = false) := Lib.hid (by
            have h := Boxed.made (W.alloc (.cells #[.int .u8 (y.toNat : Int)] 5)) Ms.zero 51
            have h2 : ∀ o, ((W.alloc (.cells #[.int .u8 (y.toNat : Int)] 5)).alloc (.cells Ms.zero.cells.toArray 51)).frozen? ⟨(W.alloc (.cells #[.int .u8 (y.toNat : Int)] 5)).heap.size, o, none⟩ = false := fun o => World.frozen?_alloc_new _ _ _ _
            rw [show (W.alloc (.cells #[.int .u8 (y.toNat : Int)] 5)).heap.size = W.heap.size + 1 by simp] at h h2
            exact ⟨h, h2⟩)
          have HP2 : Hid (Boxed ((W.alloc (.cells #[.int .i64 0, .int .i64 0, .int .i64 0, .int .i64 0, .int .i64 0, .int .i64 0, .int .i64 0, .string ⟨#[]⟩] 51)).alloc (.cells #[.int .u8 (y.toNat : Int)] 5)).drew W.heap.size Ms.zero ∧ ∀ o, ((W.alloc (.cells #[.int .i64 0, .int .i64 0, .int .i64 0, .int .i64 0, .int .i64 0, .int .i64 0, .int .i64 0, .string ⟨#[]⟩] 51)).alloc (.cells #[.int .u8 (y.toNat : Int)] 5)).drew.frozen? ⟨W.heap.size, o, none⟩ = false) := Lib.hid (by
            have h := (Boxed.made W Ms.zero 51).below ((Below.refl _ _).alloc (Nat.le_refl _) (.cells #[.int .u8 (y.toNat : Int)] 5))
            refine ⟨h, fun o => ?_⟩
            show ((W.alloc (.cells Ms.zero.cells.toArray 51)).alloc (.cells #[.int .u8 (y.toNat : Int)] 5)).frozen? ⟨W.heap.size, o, none⟩ = false
            rw [World.frozen?_alloc_old _ _ _ (by simp)]
            exact World.frozen?_alloc_new _ _ _ _)
          have HCD : Hid (∀ X q, Below W.heap.size W X → IsF X q 20 0 → Calls Tryd.prog 14 #[.iface 132 (.pointer (some ⟨q, 0, none⟩))] X fun ev w' => ev = .returned (.int .i64 20) ∧ TM w w' w.heap.size (.slice (some ⟨g, 0, none⟩) LL.length cap4) (LL.eraseIdx K) LL) := Lib.hid fun X q hb h => (code_fault (HE.out _ (HTC.out.more hb).bel) h).mono fun ev w' hh => ⟨hh.1, (HTC.out.more hb).more hh.2⟩
          have HAs := Lib.hid hAs
          have HYs := Lib.hid hYs
          have hWb := HTC.out.bel
          have HWB := Lib.hid hWb
          clear hAs hBs hYs hYg hAB hxJ hl1 hl2 hl3 hl4 hdb hWb
          have HKK : Hid (∀ X, Below W.heap.size W X → X.cell? ⟨g, K, none⟩ = some (.string T)) := Lib.hid fun X hb => (World.cell?_of_block (a := ⟨g, K, none⟩) (hb.block g (World.block_lt_of_cell? W _ qC))).trans qC
          clear qC qE qF
          go_upto_region 26 with fail
          go_cut [19, 20] from 70 to 182 (fun _ er X => ∃ q : Nat, er = .iface 132 (.pointer (some ⟨q, 0, none⟩)) ∧ IsF X q 20 0 ∧ Below W.heap.size W X)
          case first =>
            refine wp_region_held_drew (S := fun X => X.cell? ⟨g, K, none⟩ = some (.string T)) (by kernel_rfl) qD ?_
            intro hHeld
            refine wpAnyH_take (i := 0) (oi := ⟨_, _, _, _, _, _⟩) (v := ?_) rfl (by kernel_rfl) (by kernel_rfl) (by kernel_rfl) (fun _ _ _ h => h) (Or.inl ⟨by rfl, ?_⟩) hHeld ?_
            rotate_left
            · intro w hSw
              try dsimp only at hSw
              go_simp
              try with_reducible rfl
            try simp only [Act.put, List.setIfInBounds_toArray, List.set_cons_zero, List.set_cons_succ]
            refine wpAnyH_take (i := 1) (oi := ⟨_, _, _, _, _, _⟩) (v := ?_) rfl (by kernel_rfl) (by kernel_rfl) (by kernel_rfl) (fun _ _ _ h => h) (Or.inl ⟨by rfl, ?_⟩) hHeld ?_
            rotate_left
            · intro w hSw
              try dsimp only at hSw
              go_simp
              try with_reducible rfl
            try simp only [Act.put, List.setIfInBounds_toArray, List.set_cons_zero, List.set_cons_succ]
            refine wpAnyH_take (i := 2) (oi := ⟨_, _, _, _, _, _⟩) (v := ?_) rfl (by kernel_rfl) (by kernel_rfl) (by kernel_rfl) (fun _ _ _ h => h) (Or.inl ⟨by rfl, ?_⟩) hHeld ?_
            rotate_left
            · intro w hSw
              try dsimp only at hSw
              go_simp
              try with_reducible rfl
            try simp only [Act.put, List.setIfInBounds_toArray, List.set_cons_zero, List.set_cons_succ]
            refine wpAnyH_take (i := 3) (oi := ⟨_, _, _, _, _, _⟩) (v := ?_) rfl (by kernel_rfl) (by kernel_rfl) (by kernel_rfl) (fun _ _ _ h => h) (Or.inl ⟨by rfl, ?_⟩) hHeld ?_
            rotate_left
            · intro w hSw
              try dsimp only at hSw
              go_simp
              try with_reducible rfl
            try simp only [Act.put, List.setIfInBounds_toArray, List.set_cons_zero, List.set_cons_succ]
            refine wpAnyH_take (i := 4) (oi := ⟨_, _, _, _, _, _⟩) (v := ?_) rfl (by kernel_rfl) (by kernel_rfl) (by kernel_rfl) (fun _ _ _ h => h) (Or.inl ⟨by rfl, ?_⟩) hHeld ?_
            rotate_left
            · intro w hSw
              try dsimp only at hSw
              go_simp
              try with_reducible rfl
            try simp only [Act.put, List.setIfInBounds_toArray, List.set_cons_zero, List.set_cons_succ]
            refine wpAnyH_take (i := 5) (oi := ⟨_, _, _, _, _, _⟩) (v := ?_) rfl (by kernel_rfl) (by kernel_rfl) (by kernel_rfl) (fun _ _ _ h => h) (Or.inl ⟨by rfl, ?_⟩) hHeld ?_
            rotate_left
            · intro w hSw
              try dsimp only at hSw
              go_simp
              try with_reducible rfl
            try simp only [Act.put, List.setIfInBounds_toArray, List.set_cons_zero, List.set_cons_succ]
            refine wpAnyH_take (i := 6) (oi := ⟨_, _, _, _, _, _⟩) (v := ?_) rfl (by kernel_rfl) (by kernel_rfl) (by kernel_rfl) (fun _ _ _ h => h) (Or.inl ⟨by rfl, ?_⟩) hHeld ?_
            rotate_left
            · intro w hSw
              try dsimp only at hSw
              go_simp
              try with_reducible rfl
            try simp only [Act.put, List.setIfInBounds_toArray, List.set_cons_zero, List.set_cons_succ]
            refine wpAnyH_take (i := 7) (oi := ⟨_, _, _, _, _, _⟩) (v := ?_) rfl (by kernel_rfl) (by kernel_rfl) (by kernel_rfl) (fun _ _ _ h => h) (Or.inl ⟨by rfl, ?_⟩) hHeld ?_
            rotate_left
            · intro w hSw
              try dsimp only at hSw
              go_simp
              try with_reducible rfl
            try simp only [Act.put, List.setIfInBounds_toArray, List.set_cons_zero, List.set_cons_succ]
            refine wpAnyH_take (i := 8) (oi := ⟨_, _, _, _, _, _⟩) (v := ?_) rfl (by kernel_rfl) (by kernel_rfl) (by kernel_rfl) (fun _ _ _ h => h) (Or.inl ⟨by rfl, ?_⟩) hHeld ?_
            rotate_left
            · intro w hSw
              try dsimp only at hSw
              go_simp
              try with_reducible rfl
            try simp only [Act.put, List.setIfInBounds_toArray, List.set_cons_zero, List.set_cons_succ]
            refine wpAnyH_take (i := 9) (oi := ⟨_, _, _, _, _, _⟩) (v := ?_) rfl (by kernel_rfl) (by kernel_rfl) (by kernel_rfl) (fun _ _ _ h => h) (Or.inl ⟨by rfl, ?_⟩) hHeld ?_
            rotate_left
            · intro w hSw
              try dsimp only at hSw
              go_simp
              try with_reducible rfl
            try simp only [Act.put, List.setIfInBounds_toArray, List.set_cons_zero, List.set_cons_succ]
            refine wpAnyH_take (i := 10) (oi := ⟨_, _, _, _, _, _⟩) (v := ?_) rfl (by kernel_rfl) (by kernel_rfl) (by kernel_rfl) (fun _ _ _ h => h) (Or.inl ⟨by rfl, ?_⟩) hHeld ?_
            rotate_left
            · intro w hSw
              try dsimp only at hSw
              go_simp
              try with_reducible rfl
            try simp only [Act.put, List.setIfInBounds_toArray, List.set_cons_zero, List.set_cons_succ]
            refine wpAnyH_take (i := 11) (oi := ⟨_, _, _, _, _, _⟩) (v := ?_) rfl (by kernel_rfl) (by kernel_rfl) (by kernel_rfl) (fun _ _ _ h => h) (Or.inl ⟨by rfl, ?_⟩) hHeld ?_
            rotate_left
            · intro w hSw
              try dsimp only at hSw
              go_simp
              try with_reducible rfl
            try simp only [Act.put, List.setIfInBounds_toArray, List.set_cons_zero, List.set_cons_succ]
            refine wpAnyH_take (i := 12) (oi := ⟨_, _, _, _, _, _⟩) (v := ?_) rfl (by kernel_rfl) (by kernel_rfl) (by kernel_rfl) (fun _ _ _ h => h) (Or.inl ⟨by rfl, ?_⟩) hHeld ?_
            rotate_left
            · intro w hSw
              try dsimp only at hSw
              go_simp
              try with_reducible rfl
            try simp only [Act.put, List.setIfInBounds_toArray, List.set_cons_zero, List.set_cons_succ]
            refine wpAnyH_take (i := 16) (oi := ⟨_, _, _, _, _, _⟩) (v := ?_) rfl (by kernel_rfl) (by kernel_rfl) (by kernel_rfl) (fun _ _ _ h => h) (Or.inl ⟨by rfl, ?_⟩) hHeld ?_
            rotate_left
            · intro w hSw
              try dsimp only at hSw
              go_simp
              try with_reducible rfl
            try simp only [Act.put, List.setIfInBounds_toArray, List.set_cons_zero, List.set_cons_succ]
            refine wpAnyH_take (i := 17) (oi := ⟨_, _, _, _, _, _⟩) (v := ?_) rfl (by kernel_rfl) (by kernel_rfl) (by kernel_rfl) (fun _ _ _ h => h) (Or.inl ⟨by rfl, ?_⟩) hHeld ?_
            rotate_left
            · intro w hSw
              try dsimp only at hSw
              go_simp
              try with_reducible rfl
            try simp only [Act.put, List.setIfInBounds_toArray, List.set_cons_zero, List.set_cons_succ]
            refine wpAnyH_take (i := 18) (oi := ⟨_, _, _, _, _, _⟩) (v := ?_) rfl (by kernel_rfl) (by kernel_rfl) (by kernel_rfl) (fun _ _ _ h => h) (Or.inl ⟨by rfl, ?_⟩) hHeld ?_
            rotate_left
            · intro w hSw
              try dsimp only at hSw
              go_simp
              try with_reducible rfl
            try simp only [Act.put, List.setIfInBounds_toArray, List.set_cons_zero, List.set_cons_succ]
            refine wpAnyH_take (i := 19) (oi := ⟨_, _, _, _, _, _⟩) (v := ?_) rfl (by kernel_rfl) (by kernel_rfl) (by kernel_rfl) (fun _ _ _ h => h) (Or.inl ⟨by rfl, ?_⟩) hHeld ?_
            rotate_left
            · intro w hSw
              try dsimp only at hSw
              go_simp
              try with_reducible rfl
            try simp only [Act.put, List.setIfInBounds_toArray, List.set_cons_zero, List.set_cons_succ]
            refine wpAnyH_take (i := 20) (oi := ⟨_, _, _, _, _, _⟩) (v := ?_) rfl (by kernel_rfl) (by kernel_rfl) (by kernel_rfl) (fun _ _ _ h => h) (Or.inl ⟨by rfl, ?_⟩) hHeld ?_
            rotate_left
            · intro w hSw
              try dsimp only at hSw
              go_simp
              try with_reducible rfl
            try simp only [Act.put, List.setIfInBounds_toArray, List.set_cons_zero, List.set_cons_succ]
            refine wpAnyH_take (i := 21) (oi := ⟨_, _, _, _, _, _⟩) (v := ?_) rfl (by kernel_rfl) (by kernel_rfl) (by kernel_rfl) (fun _ _ _ h => h) (Or.inl ⟨by rfl, ?_⟩) hHeld ?_
            rotate_left
            · intro w hSw
              try dsimp only at hSw
              go_simp
              try with_reducible rfl
            try simp only [Act.put, List.setIfInBounds_toArray, List.set_cons_zero, List.set_cons_succ]
            refine wpAnyH_take (i := 22) (oi := ⟨_, _, _, _, _, _⟩) (v := ?_) rfl (by kernel_rfl) (by kernel_rfl) (by kernel_rfl) (fun _ _ _ h => h) (Or.inl ⟨by rfl, ?_⟩) hHeld ?_
            rotate_left
            · intro w hSw
              try dsimp only at hSw
              go_simp
              try with_reducible rfl
            try simp only [Act.put, List.setIfInBounds_toArray, List.set_cons_zero, List.set_cons_succ]
            refine wpAnyH_ready (rs := [13, 28]) (by kernel_rfl) (by simp) (AllReadyH.cons (o := ⟨_, _, _, _, _, _⟩) rfl (fun K hK => ?_) (AllReadyH.cons (o := ⟨_, _, _, _, _, _⟩) rfl (fun K hK => ?_) (AllReadyH.nil)))
            · go_simp
              refine hK.out _ _ (HKK.out _ (by repeat' (first | with_reducible exact Below.refl _ _ | with_reducible exact HBW5.out | with_reducible exact HBW5.out.size | with_reducible refine Below.drew ?_ | with_reducible refine Below.alloc ?_ ?_ _ | with_reducible refine Below.setCell ?_ ?_ _ | (simp; done) | (simp; omega)))) (fun hHeld => ?_)
              clear hK K
              try simp only [Act.put, List.setIfInBounds_toArray, List.set_cons_zero, List.set_cons_succ]
              refine wpAnyH_ready (rs := [14, 28]) (by kernel_rfl) (by simp) (AllReadyH.cons (o := ⟨_, _, _, _, _, _⟩) rfl (fun K hK => ?_) (AllReadyH.cons (o := ⟨_, _, _, _, _, _⟩) rfl (fun K hK => ?_) (AllReadyH.nil)))
              · go_simp
                refine hK.out _ _ (HKK.out _ (by repeat' (first | with_reducible exact Below.refl _ _ | with_reducible exact HBW5.out | with_reducible exact HBW5.out.size | with_reducible refine Below.drew ?_ | with_reducible refine Below.alloc ?_ ?_ _ | with_reducible refine Below.setCell ?_ ?_ _ | (simp; done) | (simp; omega)))) (fun hHeld => ?_)
                clear hK K
                try simp only [Act.put, List.setIfInBounds_toArray, List.set_cons_zero, List.set_cons_succ]
                refine wpAnyH_take (i := 15) (oi := ⟨_, _, _, _, _, _⟩) (v := ?_) rfl (by kernel_rfl) (by kernel_rfl) (by kernel_rfl) (fun _ _ _ h => h) (Or.inl ⟨by rfl, ?_⟩) hHeld ?_
                rotate_left
                · intro w hSw
                  try dsimp only at hSw
                  go_simp
                  try with_reducible rfl
                try simp only [Act.put, List.setIfInBounds_toArray, List.set_cons_zero, List.set_cons_succ]
                refine wpAnyH_take (i := 23) (oi := ⟨_, _, _, _, _, _⟩) (v := ?_) rfl (by kernel_rfl) (by kernel_rfl) (by kernel_rfl) (fun _ _ _ h => h) (Or.inl ⟨by rfl, ?_⟩) hHeld ?_
                rotate_left
                · intro w hSw
                  try dsimp only at hSw
                  go_simp
                  try with_reducible rfl
                try simp only [Act.put, List.setIfInBounds_toArray, List.set_cons_zero, List.set_cons_succ]
                refine wpAnyH_ready (rs := [24, 28]) (by kernel_rfl) (by simp) (AllReadyH.cons (o := ⟨_, _, _, _, _, _⟩) rfl (fun K hK => ?_) (AllReadyH.cons (o := ⟨_, _, _, _, _, _⟩) rfl (fun K hK => ?_) (AllReadyH.nil)))
                · go_simp
                  go_at_call 20
                  refine (HDB.out _ ?_).mono ?_
                  · repeat' (first | with_reducible exact Below.refl _ _ | with_reducible refine Below.drew ?_ | with_reducible refine Below.alloc ?_ ?_ _ | (simp; done) | (simp; omega))
                  rintro e w5 ⟨q, rfl, hi5, hb5, hq5, hbw5⟩
                  have HI5 := Lib.hid hi5
                  have HBW5 := Lib.hid hbw5
                  first
                    | (with_reducible obtain ⟨⟨z0, z1, z2, z3, z4, z5, z6, z7⟩, ⟨f0, f1, f2, f3, f4, f5, f6, f7⟩, hnl⟩ := Boxed.facts HP1.out hb5
                       have HNQ := Lib.hid (Nat.lt_of_lt_of_le hnl hq5)
                       clear hb5 hq5 hi5 hbw5 hnl)
                    | (with_reducible obtain ⟨⟨z0, z1, z2, z3, z4, z5, z6, z7⟩, ⟨f0, f1, f2, f3, f4, f5, f6, f7⟩, hnl⟩ := Boxed.facts HP2.out hb5
                       have HNQ := Lib.hid (Nat.lt_of_lt_of_le hnl hq5)
                       clear hb5 hq5 hi5 hbw5 hnl)
                    | clear hb5 hq5 hi5 hbw5
                  refine hK.out _ _ (HKK.out _ (by repeat' (first | with_reducible exact Below.refl _ _ | with_reducible exact HBW5.out | with_reducible exact HBW5.out.size | with_reducible refine Below.drew ?_ | with_reducible refine Below.alloc ?_ ?_ _ | with_reducible refine Below.setCell ?_ ?_ _ | (simp; done) | (simp; omega)))) (fun hHeld => ?_)
                  clear hK K
                  try simp only [Act.put, List.setIfInBounds_toArray, List.set_cons_zero, List.set_cons_succ]
                  refine wpAnyH_take (i := 25) (oi := ⟨_, _, _, _, _, _⟩) (v := ?_) rfl (by kernel_rfl) (by kernel_rfl) (by kernel_rfl) (fun _ _ _ h => h) (Or.inl ⟨by rfl, ?_⟩) hHeld ?_
                  rotate_left
                  · intro w hSw
                    try dsimp only at hSw
                    go_simp
                    try with_reducible rfl
                  try simp only [Act.put, List.setIfInBounds_toArray, List.set_cons_zero, List.set_cons_succ]
                  refine wpAnyH_take (i := 26) (oi := ⟨_, _, _, _, _, _⟩) (v := ?_) rfl (by kernel_rfl) (by kernel_rfl) (by kernel_rfl) (fun _ _ _ h => h) (Or.inl ⟨by rfl, ?_⟩) hHeld ?_
                  rotate_left
                  · intro w hSw
                    try dsimp only at hSw
                    go_simp
                    try with_reducible rfl
                  try simp only [Act.put, List.setIfInBounds_toArray, List.set_cons_zero, List.set_cons_succ]
                  refine wpAnyH_take (i := 27) (oi := ⟨_, _, _, _, _, _⟩) (v := ?_) rfl (by kernel_rfl) (by kernel_rfl) (by kernel_rfl) (fun _ _ _ h => h) (Or.inl ⟨by rfl, ?_⟩) hHeld ?_
                  rotate_left
                  · intro w hSw
                    try dsimp only at hSw
                    go_simp
                    try with_reducible rfl
                  try simp only [Act.put, List.setIfInBounds_toArray, List.set_cons_zero, List.set_cons_succ]
                  refine wpAnyH_ready (rs := [28]) (by kernel_rfl) (by simp) (AllReadyH.cons (o := ⟨_, _, _, _, _, _⟩) rfl (fun K hK => ?_) (AllReadyH.nil))
                  · go_simp
                    refine hK.out _ _ (HKK.out _ (by repeat' (first | with_reducible exact Below.refl _ _ | with_reducible exact HBW5.out | with_reducible exact HBW5.out.size | with_reducible refine Below.drew ?_ | with_reducible refine Below.alloc ?_ ?_ _ | with_reducible refine Below.setCell ?_ ?_ _ | (simp; done) | (simp; omega)))) (fun hHeld => ?_)
                    clear hK K
                    try simp only [Act.put, List.setIfInBounds_toArray, List.set_cons_zero, List.set_cons_succ]
                    refine wpAnyH_ready (rs := [29]) (by kernel_rfl) (by simp) (AllReadyH.cons (o := ⟨_, _, _, _, _, _⟩) rfl (fun K hK => ?_) (AllReadyH.nil))
                    · go_simp
                      refine hK.out _ _ (HKK.out _ (by repeat' (first | with_reducible exact Below.refl _ _ | with_reducible exact HBW5.out | with_reducible exact HBW5.out.size | with_reducible refine Below.drew ?_ | with_reducible refine Below.alloc ?_ ?_ _ | with_reducible refine Below.setCell ?_ ?_ _ | (simp; done) | (simp; omega)))) (fun hHeld => ?_)
                      clear hK K
                      try simp only [Act.put, List.setIfInBounds_toArray, List.set_cons_zero, List.set_cons_succ]
                      refine wpAnyH_take (i := 30) (oi := ⟨_, _, _, _, _, _⟩) (v := ?_) rfl (by kernel_rfl) (by kernel_rfl) (by kernel_rfl) (fun _ _ _ h => h) (Or.inl ⟨by rfl, ?_⟩) hHeld ?_
                      rotate_left
                      · intro w hSw
                        try dsimp only at hSw
                        go_simp
                        try with_reducible rfl
                      try simp only [Act.put, List.setIfInBounds_toArray, List.set_cons_zero, List.set_cons_succ]
                      refine wpAnyH_done (by kernel_rfl) ?_ _
                      go_wp2_with fail
                      go_meet
                      refine ⟨_, rfl, ?_⟩
                      first
                        | with_reducible exact fin_alloc HI5.out HBW5.out _ HBW5.out.size
                        | with_reducible exact fin_set8 HI5.out HBW5.out (Nat.le_add_right _ _) HNQ.out
                        | with_reducible exact fin_set8 HI5.out HBW5.out (Nat.le_refl _) HNQ.out
                · go_simp
                  refine hK.out _ _ (HKK.out _ (by repeat' (first | with_reducible exact Below.refl _ _ | with_reducible exact HBW5.out | with_reducible exact HBW5.out.size | with_reducible refine Below.drew ?_ | with_reducible refine Below.alloc ?_ ?_ _ | with_reducible refine Below.setCell ?_ ?_ _ | (simp; done) | (simp; omega)))) (fun hHeld => ?_)
                  clear hK K
                  try simp only [Act.put, List.setIfInBounds_toArray, List.set_cons_zero, List.set_cons_succ]
                  refine wpAnyH_ready (rs := [24]) (by kernel_rfl) (by simp) (AllReadyH.cons (o := ⟨_, _, _, _, _, _⟩) rfl (fun K hK => ?_) (AllReadyH.nil))
                  · go_simp
                    go_at_call 20
                    refine (HDB.out _ ?_).mono ?_
                    · repeat' (first | with_reducible exact Below.refl _ _ | with_reducible refine Below.drew ?_ | with_reducible refine Below.alloc ?_ ?_ _ | (simp; done) | (simp; omega))
                    rintro e w5 ⟨q, rfl, hi5, hb5, hq5, hbw5⟩
                    have HI5 := Lib.hid hi5
                    have HBW5 := Lib.hid hbw5
                    first
                      | (with_reducible obtain ⟨⟨z0, z1, z2, z3, z4, z5, z6, z7⟩, ⟨f0, f1, f2, f3, f4, f5, f6, f7⟩, hnl⟩ := Boxed.facts HP1.out hb5
                         have HNQ := Lib.hid (Nat.lt_of_lt_of_le hnl hq5)
                         clear hb5 hq5 hi5 hbw5 hnl)
                      | (with_reducible obtain ⟨⟨z0, z1, z2, z3, z4, z5, z6, z7⟩, ⟨f0, f1, f2, f3, f4, f5, f6, f7⟩, hnl⟩ := Boxed.facts HP2.out hb5
                         have HNQ := Lib.hid (Nat.lt_of_lt_of_le hnl hq5)
                         clear hb5 hq5 hi5 hbw5 hnl)
                      | clear hb5 hq5 hi5 hbw5
                    refine hK.out _ _ (HKK.out _ (by repeat' (first | with_reducible exact Below.refl _ _ | with_reducible exact HBW5.out | with_reducible exact HBW5.out.size | with_reducible refine Below.drew ?_ | with_reducible refine Below.alloc ?_ ?_ _ | with_reducible refine Below.setCell ?_ ?_ _ | (simp; done) | (simp; omega)))) (fun hHeld => ?_)
                    clear hK K
                    try simp only [Act.put, List.setIfInBounds_toArray, List.set_cons_zero, List.set_cons_succ]
                    refine wpAnyH_take (i := 25) (oi := ⟨_, _, _, _, _, _⟩) (v := ?_) rfl (by kernel_rfl) (by kernel_rfl) (by kernel_rfl) (fun _ _ _ h => h) (Or.inl ⟨by rfl, ?_⟩) hHeld ?_
                    rotate_left
                    · intro w hSw
                      try dsimp only at hSw
                      go_simp
                      try with_reducible rfl
                    try simp only [Act.put, List.setIfInBounds_toArray, List.set_cons_zero, List.set_cons_succ]
                    refine wpAnyH_take (i := 26) (oi := ⟨_, _, _, _, _, _⟩) (v := ?_) rfl (by kernel_rfl) (by kernel_rfl) (by kernel_rfl) (fun _ _ _ h => h) (Or.inl ⟨by rfl, ?_⟩) hHeld ?_
                    rotate_left
                    · intro w hSw
                      try dsimp only at hSw
                      go_simp
                      try with_reducible rfl
                    try simp only [Act.put, List.setIfInBounds_toArray, List.set_cons_zero, List.set_cons_succ]
                    refine wpAnyH_take (i := 27) (oi := ⟨_, _, _, _, _, _⟩) (v := ?_) rfl (by kernel_rfl) (by kernel_rfl) (by kernel_rfl) (fun _ _ _ h => h) (Or.inl ⟨by rfl, ?_⟩) hHeld ?_
                    rotate_left
                    · intro w hSw
                      try dsimp only at hSw
                      go_simp
                      try with_reducible rfl
                    try simp only [Act.put, List.setIfInBounds_toArray, List.set_cons_zero, List.set_cons_succ]
                    refine wpAnyH_ready (rs := [29]) (by kernel_rfl) (by simp) (AllReadyH.cons (o := ⟨_, _, _, _, _, _⟩) rfl (fun K hK => ?_) (AllReadyH.nil))
                    · go_simp
                      refine hK.out _ _ (HKK.out _ (by repeat' (first | with_reducible exact Below.refl _ _ | with_reducible exact HBW5.out | with_reducible exact HBW5.out.size | with_reducible refine Below.drew ?_ | with_reducible refine Below.alloc ?_ ?_ _ | with_reducible refine Below.setCell ?_ ?_ _ | (simp; done) | (simp; omega)))) (fun hHeld => ?_)
                      clear hK K
                      try simp only [Act.put, List.setIfInBounds_toArray, List.set_cons_zero, List.set_cons_succ]
                      refine wpAnyH_take (i := 30) (oi := ⟨_, _, _, _, _, _⟩) (v := ?_) rfl (by kernel_rfl) (by kernel_rfl) (by kernel_rfl) (fun _ _ _ h => h) (Or.inl ⟨by rfl, ?_⟩) hHeld ?_
                      rotate_left
                      · intro w hSw
                        try dsimp only at hSw
                        go_simp
                        try with_reducible rfl
                      try simp only [Act.put, List.setIfInBounds_toArray, List.set_cons_zero, List.set_cons_succ]
                      refine wpAnyH_done (by kernel_rfl) ?_ _
                      go_wp2_with fail
                      go_meet
                      refine ⟨_, rfl, ?_⟩
                      first
                        | with_reducible exact fin_alloc HI5.out HBW5.out _ HBW5.out.size
                        | with_reducible exact fin_set8 HI5.out HBW5.out (Nat.le_add_right _ _) HNQ.out
                        | with_reducible exact fin_set8 HI5.out HBW5.out (Nat.le_refl _) HNQ.out
              · go_simp
                refine hK.out _ _ (HKK.out _ (by repeat' (first | with_reducible exact Below.refl _ _ | with_reducible exact HBW5.out | with_reducible exact HBW5.out.size | with_reducible refine Below.drew ?_ | with_reducible refine Below.alloc ?_ ?_ _ | with_reducible refine Below.setCell ?_ ?_ _ | (simp; done) | (simp; omega)))) (fun hHeld => ?_)
                clear hK K
                try simp only [Act.put, List.setIfInBounds_toArray, List.set_cons_zero, List.set_cons_succ]
                refine wpAnyH_ready (rs := [14]) (by kernel_rfl) (by simp) (AllReadyH.cons (o := ⟨_, _, _, _, _, _⟩) rfl (fun K hK => ?_) (AllReadyH.nil))
                · go_simp
                  refine hK.out _ _ (HKK.out _ (by repeat' (first | with_reducible exact Below.refl _ _ | with_reducible exact HBW5.out | with_reducible exact HBW5.out.size | with_reducible refine Below.drew ?_ | with_reducible refine Below.alloc ?_ ?_ _ | with_reducible refine Below.setCell ?_ ?_ _ | (simp; done) | (simp; omega)))) (fun hHeld => ?_)
                  clear hK K
                  try simp only [Act.put, List.setIfInBounds_toArray, List.set_cons_zero, List.set_cons_succ]
                  refine wpAnyH_take (i := 15) (oi := ⟨_, _, _, _, _, _⟩) (v := ?_) rfl (by kernel_rfl) (by kernel_rfl) (by kernel_rfl) (fun _ _ _ h => h) (Or.inl ⟨by rfl, ?_⟩) hHeld ?_
                  rotate_left
                  · intro w hSw
                    try dsimp only at hSw
                    go_simp
                    try with_reducible rfl
                  try simp only [Act.put, List.setIfInBounds_toArray, List.set_cons_zero, List.set_cons_succ]
                  refine wpAnyH_take (i := 23) (oi := ⟨_, _, _, _, _, _⟩) (v := ?_) rfl (by kernel_rfl) (by kernel_rfl) (by kernel_rfl) (fun _ _ _ h => h) (Or.inl ⟨by rfl, ?_⟩) hHeld ?_
                  rotate_left
                  · intro w hSw
                    try dsimp only at hSw
                    go_simp
                    try with_reducible rfl
                  try simp only [Act.put, List.setIfInBounds_toArray, List.set_cons_zero, List.set_cons_succ]
                  refine wpAnyH_ready (rs := [24]) (by kernel_rfl) (by simp) (AllReadyH.cons (o := ⟨_, _, _, _, _, _⟩) rfl (fun K hK => ?_) (AllReadyH.nil))
                  · go_simp
                    go_at_call 20
                    refine (HDB.out _ ?_).mono ?_
                    · repeat' (first | with_reducible exact Below.refl _ _ | with_reducible refine Below.drew ?_ | with_reducible refine Below.alloc ?_ ?_ _ | (simp; done) | (simp; omega))
                    rintro e w5 ⟨q, rfl, hi5, hb5, hq5, hbw5⟩
                    have HI5 := Lib.hid hi5
                    have HBW5 := Lib.hid hbw5
                    first
                      | (with_reducible obtain ⟨⟨z0, z1, z2, z3, z4, z5, z6, z7⟩, ⟨f0, f1, f2, f3, f4, f5, f6, f7⟩, hnl⟩ := Boxed.facts HP1.out hb5
                         have HNQ := Lib.hid (Nat.lt_of_lt_of_le hnl hq5)
                         clear hb5 hq5 hi5 hbw5 hnl)
                      | (with_reducible obtain ⟨⟨z0, z1, z2, z3, z4, z5, z6, z7⟩, ⟨f0, f1, f2, f3, f4, f5, f6, f7⟩, hnl⟩ := Boxed.facts HP2.out hb5
                         have HNQ := Lib.hid (Nat.lt_of_lt_of_le hnl hq5)
                         clear hb5 hq5 hi5 hbw5 hnl)
                      | clear hb5 hq5 hi5 hbw5
                    refine hK.out _ _ (HKK.out _ (by repeat' (first | with_reducible exact Below.refl _ _ | with_reducible exact HBW5.out | with_reducible exact HBW5.out.size | with_reducible refine Below.drew ?_ | with_reducible refine Below.alloc ?_ ?_ _ | with_reducible refine Below.setCell ?_ ?_ _ | (simp; done) | (simp; omega)))) (fun hHeld => ?_)
                    clear hK K
                    try simp only [Act.put, List.setIfInBounds_toArray, List.set_cons_zero, List.set_cons_succ]
                    refine wpAnyH_take (i := 25) (oi := ⟨_, _, _, _, _, _⟩) (v := ?_) rfl (by kernel_rfl) (by kernel_rfl) (by kernel_rfl) (fun _ _ _ h => h) (Or.inl ⟨by rfl, ?_⟩) hHeld ?_
                    rotate_left
                    · intro w hSw
                      try dsimp only at hSw
                      go_simp
                      try with_reducible rfl
                    try simp only [Act.put, List.setIfInBounds_toArray, List.set_cons_zero, List.set_cons_succ]
                    refine wpAnyH_take (i := 26) (oi := ⟨_, _, _, _, _, _⟩) (v := ?_) rfl (by kernel_rfl) (by kernel_rfl) (by kernel_rfl) (fun _ _ _ h => h) (Or.inl ⟨by rfl, ?_⟩) hHeld ?_
                    rotate_left
                    · intro w hSw
                      try dsimp only at hSw
                      go_simp
                      try with_reducible rfl
                    try simp only [Act.put, List.setIfInBounds_toArray, List.set_cons_zero, List.set_cons_succ]
                    refine wpAnyH_take (i := 27) (oi := ⟨_, _, _, _, _, _⟩) (v := ?_) rfl (by kernel_rfl) (by kernel_rfl) (by kernel_rfl) (fun _ _ _ h => h) (Or.inl ⟨by rfl, ?_⟩) hHeld ?_
                    rotate_left
                    · intro w hSw
                      try dsimp only at hSw
                      go_simp
                      try with_reducible rfl
                    try simp only [Act.put, List.setIfInBounds_toArray, List.set_cons_zero, List.set_cons_succ]
                    refine wpAnyH_ready (rs := [29]) (by kernel_rfl) (by simp) (AllReadyH.cons (o := ⟨_, _, _, _, _, _⟩) rfl (fun K hK => ?_) (AllReadyH.nil))
                    · go_simp
                      refine hK.out _ _ (HKK.out _ (by repeat' (first | with_reducible exact Below.refl _ _ | with_reducible exact HBW5.out | with_reducible exact HBW5.out.size | with_reducible refine Below.drew ?_ | with_reducible refine Below.alloc ?_ ?_ _ | with_reducible refine Below.setCell ?_ ?_ _ | (simp; done) | (simp; omega)))) (fun hHeld => ?_)
                      clear hK K
                      try simp only [Act.put, List.setIfInBounds_toArray, List.set_cons_zero, List.set_cons_succ]
                      refine wpAnyH_take (i := 30) (oi := ⟨_, _, _, _, _, _⟩) (v := ?_) rfl (by kernel_rfl) (by kernel_rfl) (by kernel_rfl) (fun _ _ _ h => h) (Or.inl ⟨by rfl, ?_⟩) hHeld ?_
                      rotate_left
                      · intro w hSw
                        try dsimp only at hSw
                        go_simp
                        try with_reducible rfl
                      try simp only [Act.put, List.setIfInBounds_toArray, List.set_cons_zero, List.set_cons_succ]
                      refine wpAnyH_done (by kernel_rfl) ?_ _
                      go_wp2_with fail
                      go_meet
                      refine ⟨_, rfl, ?_⟩
                      first
                        | with_reducible exact fin_alloc HI5.out HBW5.out _ HBW5.out.size
                        | with_reducible exact fin_set8 HI5.out HBW5.out (Nat.le_add_right _ _) HNQ.out
                        | with_reducible exact fin_set8 HI5.out HBW5.out (Nat.le_refl _) HNQ.out
            · go_simp
              refine hK.out _ _ (HKK.out _ (by repeat' (first | with_reducible exact Below.refl _ _ | with_reducible exact HBW5.out | with_reducible exact HBW5.out.size | with_reducible refine Below.drew ?_ | with_reducible refine Below.alloc ?_ ?_ _ | with_reducible refine Below.setCell ?_ ?_ _ | (simp; done) | (simp; omega)))) (fun hHeld => ?_)
              clear hK K
              try simp only [Act.put, List.setIfInBounds_toArray, List.set_cons_zero, List.set_cons_succ]
              refine wpAnyH_ready (rs := [13]) (by kernel_rfl) (by simp) (AllReadyH.cons (o := ⟨_, _, _, _, _, _⟩) rfl (fun K hK => ?_) (AllReadyH.nil))
              · go_simp
                refine hK.out _ _ (HKK.out _ (by repeat' (first | with_reducible exact Below.refl _ _ | with_reducible exact HBW5.out | with_reducible exact HBW5.out.size | with_reducible refine Below.drew ?_ | with_reducible refine Below.alloc ?_ ?_ _ | with_reducible refine Below.setCell ?_ ?_ _ | (simp; done) | (simp; omega)))) (fun hHeld => ?_)
                clear hK K
                try simp only [Act.put, List.setIfInBounds_toArray, List.set_cons_zero, List.set_cons_succ]
                refine wpAnyH_ready (rs := [14]) (by kernel_rfl) (by simp) (AllReadyH.cons (o := ⟨_, _, _, _, _, _⟩) rfl (fun K hK => ?_) (AllReadyH.nil))
                · go_simp
                  refine hK.out _ _ (HKK.out _ (by repeat' (first | with_reducible exact Below.refl _ _ | with_reducible exact HBW5.out | with_reducible exact HBW5.out.size | with_reducible refine Below.drew ?_ | with_reducible refine Below.alloc ?_ ?_ _ | with_reducible refine Below.setCell ?_ ?_ _ | (simp; done) | (simp; omega)))) (fun hHeld => ?_)
                  clear hK K
                  try simp only [Act.put, List.setIfInBounds_toArray, List.set_cons_zero, List.set_cons_succ]
                  refine wpAnyH_take (i := 15) (oi := ⟨_, _, _, _, _, _⟩) (v := ?_) rfl (by kernel_rfl) (by kernel_rfl) (by kernel_rfl) (fun _ _ _ h => h) (Or.inl ⟨by rfl, ?_⟩) hHeld ?_
                  rotate_left
                  · intro w hSw
                    try dsimp only at hSw
                    go_simp
                    try with_reducible rfl
                  try simp only [Act.put, List.setIfInBounds_toArray, List.set_cons_zero, List.set_cons_succ]
                  refine wpAnyH_take (i := 23) (oi := ⟨_, _, _, _, _, _⟩) (v := ?_) rfl (by kernel_rfl) (by kernel_rfl) (by kernel_rfl) (fun _ _ _ h => h) (Or.inl ⟨by rfl, ?_⟩) hHeld ?_
                  rotate_left
                  · intro w hSw
                    try dsimp only at hSw
                    go_simp
                    try with_reducible rfl
                  try simp only [Act.put, List.setIfInBounds_toArray, List.set_cons_zero, List.set_cons_succ]
                  refine wpAnyH_ready (rs := [24]) (by kernel_rfl) (by simp) (AllReadyH.cons (o := ⟨_, _, _, _, _, _⟩) rfl (fun K hK => ?_) (AllReadyH.nil))
                  · go_simp
                    go_at_call 20
                    refine (HDB.out _ ?_).mono ?_
                    · repeat' (first | with_reducible exact Below.refl _ _ | with_reducible refine Below.drew ?_ | with_reducible refine Below.alloc ?_ ?_ _ | (simp; done) | (simp; omega))
                    rintro e w5 ⟨q, rfl, hi5, hb5, hq5, hbw5⟩
                    have HI5 := Lib.hid hi5
                    have HBW5 := Lib.hid hbw5
                    first
                      | (with_reducible obtain ⟨⟨z0, z1, z2, z3, z4, z5, z6, z7⟩, ⟨f0, f1, f2, f3, f4, f5, f6, f7⟩, hnl⟩ := Boxed.facts HP1.out hb5
                         have HNQ := Lib.hid (Nat.lt_of_lt_of_le hnl hq5)
                         clear hb5 hq5 hi5 hbw5 hnl)
                      | (with_reducible obtain ⟨⟨z0, z1, z2, z3, z4, z5, z6, z7⟩, ⟨f0, f1, f2, f3, f4, f5, f6, f7⟩, hnl⟩ := Boxed.facts HP2.out hb5
                         have HNQ := Lib.hid (Nat.lt_of_lt_of_le hnl hq5)
                         clear hb5 hq5 hi5 hbw5 hnl)
                      | clear hb5 hq5 hi5 hbw5
                    refine hK.out _ _ (HKK.out _ (by repeat' (first | with_reducible exact Below.refl _ _ | with_reducible exact HBW5.out | with_reducible exact HBW5.out.size | with_reducible refine Below.drew ?_ | with_reducible refine Below.alloc ?_ ?_ _ | with_reducible refine Below.setCell ?_ ?_ _ | (simp; done) | (simp; omega)))) (fun hHeld => ?_)
                    clear hK K
                    try simp only [Act.put, List.setIfInBounds_toArray, List.set_cons_zero, List.set_cons_succ]
                    refine wpAnyH_take (i := 25) (oi := ⟨_, _, _, _, _, _⟩) (v := ?_) rfl (by kernel_rfl) (by kernel_rfl) (by kernel_rfl) (fun _ _ _ h => h) (Or.inl ⟨by rfl, ?_⟩) hHeld ?_
                    rotate_left
                    · intro w hSw
                      try dsimp only at hSw
                      go_simp
                      try with_reducible rfl
                    try simp only [Act.put, List.setIfInBounds_toArray, List.set_cons_zero, List.set_cons_succ]
                    refine wpAnyH_take (i := 26) (oi := ⟨_, _, _, _, _, _⟩) (v := ?_) rfl (by kernel_rfl) (by kernel_rfl) (by kernel_rfl) (fun _ _ _ h => h) (Or.inl ⟨by rfl, ?_⟩) hHeld ?_
                    rotate_left
                    · intro w hSw
                      try dsimp only at hSw
                      go_simp
                      try with_reducible rfl
                    try simp only [Act.put, List.setIfInBounds_toArray, List.set_cons_zero, List.set_cons_succ]
                    refine wpAnyH_take (i := 27) (oi := ⟨_, _, _, _, _, _⟩) (v := ?_) rfl (by kernel_rfl) (by kernel_rfl) (by kernel_rfl) (fun _ _ _ h => h) (Or.inl ⟨by rfl, ?_⟩) hHeld ?_
                    rotate_left
                    · intro w hSw
                      try dsimp only at hSw
                      go_simp
                      try with_reducible rfl
                    try simp only [Act.put, List.setIfInBounds_toArray, List.set_cons_zero, List.set_cons_succ]
                    refine wpAnyH_ready (rs := [29]) (by kernel_rfl) (by simp) (AllReadyH.cons (o := ⟨_, _, _, _, _, _⟩) rfl (fun K hK => ?_) (AllReadyH.nil))
                    · go_simp
                      refine hK.out _ _ (HKK.out _ (by repeat' (first | with_reducible exact Below.refl _ _ | with_reducible exact HBW5.out | with_reducible exact HBW5.out.size | with_reducible refine Below.drew ?_ | with_reducible refine Below.alloc ?_ ?_ _ | with_reducible refine Below.setCell ?_ ?_ _ | (simp; done) | (simp; omega)))) (fun hHeld => ?_)
                      clear hK K
                      try simp only [Act.put, List.setIfInBounds_toArray, List.set_cons_zero, List.set_cons_succ]
                      refine wpAnyH_take (i := 30) (oi := ⟨_, _, _, _, _, _⟩) (v := ?_) rfl (by kernel_rfl) (by kernel_rfl) (by kernel_rfl) (fun _ _ _ h => h) (Or.inl ⟨by rfl, ?_⟩) hHeld ?_
                      rotate_left
                      · intro w hSw
                        try dsimp only at hSw
                        go_simp
                        try with_reducible rfl
                      try simp only [Act.put, List.setIfInBounds_toArray, List.set_cons_zero, List.set_cons_succ]
                      refine wpAnyH_done (by kernel_rfl) ?_ _
                      go_wp2_with fail
                      go_meet
                      refine ⟨_, rfl, ?_⟩
                      first
                        | with_reducible exact fin_alloc HI5.out HBW5.out _ HBW5.out.size
                        | with_reducible exact fin_set8 HI5.out HBW5.out (Nat.le_add_right _ _) HNQ.out
                        | with_reducible exact fin_set8 HI5.out HBW5.out (Nat.le_refl _) HNQ.out

          case rest =>
            obtain ⟨q, rfl, hiq, hbq⟩ := hcut
            have hcd := HCD.out _ q hbq hiq
            clear hiq hbq
            go_wp2_with fail
            refine hcd.mono ?_
            rintro e w6 ⟨rfl, hT6⟩
            have hown0 : (w6.alloc (.cells #[] 9)).ownsRow w6.heap.size 9 1 (.slice (some ⟨w6.heap.size, 0, none⟩) 0 0) 0 [] := World.ownsRow_lit (base := w6.heap.size) (size := 1) (e := 9) w6 #[] 0 (Nat.le_refl _) (by unfold maxLen; omega) rfl
            have hca : ∀ X, Below w6.heap.size w6 X → ∀ j u, (srows LL)[j]? = some u → X.cell? ((⟨g, 0, none⟩ : Addr).add j) = some u := fun X hb => World.ownsRow.cells (hT6.more hb).row rfl
            have hn1 : ∀ j u, (srows (LL.take K))[j]? = some u → (w6.alloc (.cells #[] 9)).cell? ((⟨g, 0, none⟩ : Addr).add j) = some u := fun j u hj => by
              rw [srows, List.map_take, List.getElem?_take] at hj
              split at hj
              · exact hca _ ((Below.refl _ _).alloc (Nat.le_refl _) _) j u hj
              · cases hj
            have hl1 : (srows (LL.take K)).length = K * 1 := by rw [len_srows, List.length_take]; omega
            have hl2 : (srows (LL.drop (K + 1))).length = (LL.length - (K + 1)) * 1 := by rw [len_srows, List.length_drop]; omega
            have o1 := one_srows (LL.take K)
            have o2 := one_srows (LL.drop (K + 1))
            have hm1 : 0 + K ≤ maxLen := by unfold maxLen; omega
            have hm2 : K + (LL.length - (K + 1)) ≤ maxLen := by unfold maxLen; omega
            have hbs5 : w6.heap.size ≤ (w6.alloc (.cells #[] 9)).heap.size := by simp
            have hw3 : IntKind.i64.wrap ((K : Int) + 1) = (K : Int) + 1 := by rw [IntKind.wrap_i64]; omega
            have hk2 : (K : Int) + 1 ≤ (LL.length : Int) := by omega
            have hk3 : ((K : Int) + 1).toNat = K + 1 := by omega
            have hk4 : (0 : Int) ≤ (K : Int) + 1 := by omega
            have hEr : LL.take K ++ LL.drop (K + 1) = LL.eraseIdx K := (List.eraseIdx_eq_take_drop_succ LL K).symm
            have hLL : Hid ((LL.eraseIdx K).length ≤ 20 ∧ ∀ x ∈ LL.eraseIdx K, x.fits ∧ x.check = 0) := Lib.hid ⟨by rw [List.length_eraseIdx]; split <;> omega, fun x hx => HLo.out x (List.mem_of_mem_eraseIdx hx)⟩
            have HT6 := Lib.hid hT6
            have HO := Lib.hid hown0
            have Hca := Lib.hid hca
            have HN1 := Lib.hid hn1
            have HER := Lib.hid hEr
            clear hT6 hown0 hca hn1 hEr
            go_wp2_with (refine wpList_append_own_at _ rfl (.tmp 172) (.tmp 175) 49 rfl w6.heap.size 9 i0 _ 1 16 Tryd.underlying49 Hi.out Hz.out Hz1.out Hz2.out rfl (by decide) _ 0 [] rfl HO.out ⟨g, 0, none⟩ K cap4 (srows (LL.take K)) rfl hl1 HN1.out o1 hm1 (by omega) hbs5 ?_)
            intro v6 w7 hown6 hgrow hnn hor
            have hb6 : Below w6.heap.size w6 w7 := ⟨hgrow.os, hgrow.tape, hgrow.output, by have := hgrow.size; simp at this; omega, fun k hk => (hgrow.block k (by simp; omega) (by simp only [Value.ownBlock, ne_eq, Option.some.injEq]; omega)).trans (Below.heap_alloc _ _ _ hk)⟩
            have hHl : (LL.take K ++ LL.drop (K + 1)).length = K + (LL.length - (K + 1)) := by rw [List.length_append, List.length_take, List.length_drop]; omega
            have hHr : srows (LL.take K ++ LL.drop (K + 1)) = srows (LL.take K) ++ srows (LL.drop (K + 1)) := srows_app _ _
            have hbs6 : w6.heap.size ≤ w7.heap.size := hb6.size
            have HO6 := Lib.hid hown6
            have HB6 := Lib.hid hb6
            have HHl := Lib.hid hHl
            have HHr := Lib.hid hHr
            clear hown6 hgrow hnn hor hb6 hHl hHr
            by_cases hc : cap4 = K + 1
            · subst hc
              have hz0 : LL.length - (K + 1) = 0 := by omega
              have hz1 : srows (LL.drop (K + 1)) = [] := by rw [List.drop_eq_nil_of_le (by omega)]; rfl
              have HZ0 := Lib.hid hz0
              have HZ1 := Lib.hid hz1
              rw [hz0] at hm2
              have HNN := Lib.hid (fun j u (hj : ([] : List Value)[j]? = some u) => (show w7.cell? ((⟨g, 0, none⟩ : Addr).add j) = some u by simp at hj))
              clear hz0 hz1 hl2 o2
              go_wp2_with (refine wpList_append_own_at _ rfl (.tmp 177) (.tmp 181) 49 rfl w6.heap.size 9 i0 _ 1 16 Tryd.underlying49 Hi.out Hz.out Hz1.out Hz2.out rfl (by decide) v6 K (srows (LL.take K)) rfl HO6.out ⟨g, 0, none⟩ 0 0 [] rfl rfl HNN.out (fun _ h => by simp at h) hm2 (by omega) hbs6 ?_)
              intro v7 w8 hown7 hgrow hnn hor
              have hb7 : Below w6.heap.size w6 w8 := HB6.out.trans ⟨hgrow.os, hgrow.tape, hgrow.output, hgrow.size, fun k hk => hgrow.block k (by omega) (fun e => by have := (HO6.out.lt k e.symm).1; omega)⟩
              have hs7 := HT6.out.renew (LS' := LL.take K ++ LL.drop (K + 1)) hb7 (by rw [HHl.out, HHr.out, HZ0.out, HZ1.out]; simpa using hown7)
              rw [HER.out] at hs7
              have HS7 := Lib.hid hs7
              clear hown7 hgrow hnn hor hb7 hs7
              go_wp2_with fail
              go_roundw
              case rel => exact ⟨k + 1, _, by omega, by go_num, HS7.out, hLL.out.1, hLL.out.2⟩
              case measure => simp [intOf]; omega
            · have HNN := Lib.hid (fun j u (hj : (srows (LL.drop (K + 1)))[j]? = some u) => (show w7.cell? ((⟨g, K + 1, none⟩ : Addr).add j) = some u by
                rw [Addr.add_mid]
                rw [srows, List.map_drop, List.getElem?_drop] at hj
                have := Hca.out _ HB6.out _ u hj
                rwa [Addr.add_mid, Nat.zero_add] at this))
              go_wp2_with (refine wpList_append_own_at _ rfl (.tmp 177) (.tmp 181) 49 rfl w6.heap.size 9 i0 _ 1 16 Tryd.underlying49 Hi.out Hz.out Hz1.out Hz2.out rfl (by decide) v6 K (srows (LL.take K)) rfl HO6.out ⟨g, K + 1, none⟩ (LL.length - (K + 1)) (cap4 - (K + 1)) (srows (LL.drop (K + 1))) rfl hl2 HNN.out o2 hm2 (by omega) hbs6 ?_)
              intro v7 w8 hown7 hgrow hnn hor
              have hb7 : Below w6.heap.size w6 w8 := HB6.out.trans ⟨hgrow.os, hgrow.tape, hgrow.output, hgrow.size, fun k hk => hgrow.block k (by omega) (fun e => by have := (HO6.out.lt k e.symm).1; omega)⟩
              have hs7 := HT6.out.renew (LS' := LL.take K ++ LL.drop (K + 1)) hb7 (by rw [HHl.out, HHr.out]; exact hown7)
              rw [HER.out] at hs7
              have HS7 := Lib.hid hs7
              clear hown7 hgrow hnn hor hb7 hs7
              go_wp2_with fail
              go_roundw
              case rel => exact ⟨k + 1, _, by omega, by go_num, HS7.out, hLL.out.1, hLL.out.2⟩
              case measure => simp [intOf]; omega
        · have hex : (¬ k < ps.length) ∨ (k < ps.length ∧ LL.length = 0) := by
            by_cases h : k < ps.length
            · exact .inr ⟨h, by omega⟩
            · exact .inl h
          obtain ⟨vb, hbag, -⟩ := hM.bag
          have hli := list_any hbag.has (by omega)
          have HWX : Hid (∀ X, Below wr.heap.size wr X → Calls Tryd.prog 15 #[.int .i64 20, .int .i64 0, .nilIface] X fun en w' => ∃ q, en = .returned (.iface 132 (.pointer (some ⟨q, 0, none⟩))) ∧ IsF w' q 20 0 ∧ Below w.heap.size w w') := Lib.hid fun X hb => HW.out X (hM.more hb).bel
          clear hM hLo hbag
          rcases hex with n1 | ⟨n1, n2⟩
          all_goals
            clear hgo hk
            go_wp2_with fail
            refine hli.mono ?_
            rintro e w2 ⟨v', rfl, hr2, hb2⟩
            obtain ⟨a9, cap9, rfl⟩ := row_lens hr2
            have hwr := HWX.out w2 hb2
            clear hli hr2 hb2
            go_wp2_with fail
            refine hwr.mono ?_
            rintro e w3 ⟨q, rfl, hi3, hb3⟩
            have hcf := HCF.out w3 q 20 0 hb3 hi3
            clear hwr hi3 hb3
            go_wp2_with fail
            refine hcf.mono ?_
            rintro e w4 ⟨rfl, hb4⟩
            have HB4 := Lib.hid hb4
            clear hcf hb4
            go_wp2_with fail
            go_ret
            exact ⟨rfl, HB4.out⟩
end
end Go.Proofs.YtkbncbkmaakpkaaDoor
