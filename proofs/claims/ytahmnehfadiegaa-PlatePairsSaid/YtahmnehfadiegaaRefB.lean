/- The reference's Crash. -/
import Derived.Test.YtahmnehfadiegaaRefA
import Derived.StillTailTactics
namespace Go.Proofs.Ytahmnehfadiegaa
open Go.RowKit
/-- The number of the bits, as the text reckons it. -/
theorem tOf_go (keep j : Nat) : wrap64 (((keep : Int) / 2 ^ (4 * (j % 16))).tmod 16) = (tOf keep j : Int) := by
  have h := tOf_lt keep j
  have e : ((keep : Int) / 2 ^ (4 * (j % 16))) = ((keep / 2 ^ (j % 16 * 4) : Nat) : Int) := by rw [Nat.mul_comm]; simp
  have e2 : (((keep / 2 ^ (j % 16 * 4) : Nat) : Int)).tmod 16 = ((keep / 2 ^ (j % 16 * 4) % 16 : Nat) : Int) := by
    rw [Int.tmod_eq_emod_of_nonneg (Int.natCast_nonneg _)]; omega
  rw [e, e2]
  unfold tOf at h ⊢
  unfold wrap64
  omega
theorem str_cut (a b : List UInt8) (c : Nat) (_ha : a.length = 32) (hb : b.length = 32) (hc : c ≤ 32) :
    Value.string ((⟨a.toArray⟩ : ByteArray).extract 0 c ++ (⟨b.toArray⟩ : ByteArray).extract c 32) = str (a.take c ++ b.drop c) := by
  unfold str
  congr 1
  apply ByteArray.ext
  rw [ByteArray.data_append, ByteArray.data_extract, ByteArray.data_extract]
  apply Array.toList_inj.1
  simp
  rw [List.take_of_length_le (by simp; omega)]
set_option maxRecDepth 100000 in
set_option maxHeartbeats 1000000 in
theorem rcrash_on {b : Nat} {vi vw : Value} {st : PS} {w : World} (h : IsRef w b vi vw st) (ho : st.off = false) (hn : st.wait.length < 1000000000) (keep : Nat) (_hkeep : keep < 18446744073709551616) :
    Calls Try.prog 24 #[.pointer (some ⟨b, 0, none⟩), .int .u64 (keep : Int)] w fun e w' => e = .returned (.tuple #[]) ∧ IsRef w' b vi (.slice none 0 0) (st.crashOn keep) ∧ Moves (rfp b vi vw) w w' := by
  have h1 := h.off
  rw [ho] at h1
  clear ho
  have hw2 := h.cvw
  obtain ⟨⟨ai, ci, rfl⟩, aw, cw, rfl⟩ := h.lens
  go_enter Try.func24, Try.ntmps24
  go_wp2_with fail
  go_loopw [4] (fun c wr => ∃ k : Nat, k ≤ st.wait.length ∧ c = .int .i64 (k : Int) ∧ IsRef wr b (.slice ai st.is.length ci) (.slice aw st.wait.length cw) { st with is := settle (cutOf keep) 0 (st.wait.take k) st.is } ∧ Moves (rfp b (.slice ai st.is.length ci) (.slice aw st.wait.length cw)) w wr)
    (fun c _ => st.wait.length - (intOf c).toNat)
  case atStart => exact ⟨0, Nat.zero_le _, rfl, h, Moves.refl _ _⟩
  case round =>
    obtain ⟨k, hk, rfl, hp, hm⟩ := hrel
    have h1' := hp.cvi
    have h2' := hp.cvw
    by_cases hlt : k < st.wait.length
    · obtain ⟨x, hx⟩ : ∃ x, st.wait[k]? = some x := ⟨_, List.getElem?_eq_getElem hlt⟩
      obtain ⟨g, c, hv, hc1, hc2, hg⟩ := hp.waiting hx
      simp only [Value.slice.injEq] at hv
      obtain ⟨rfl, -, rfl⟩ := hv
      have hwt := h.ok.wt x (List.mem_of_getElem? hx)
      have hxi := hwt.1
      have hsl := hp.ok.len
      have ht16 := tOf_lt keep k
      have hb : wrap64 (((keep : Int) / 2 ^ (4 * (k % 16))).tmod 16) = (tOf keep k : Int) := tOf_go keep k
      generalize ht : tOf keep k = t at hb ht16
      have Ht := Lib.hid ht
      have hil : x.1 < (settle (cutOf keep) 0 (st.wait.take k) st.is).length := by rw [hsl]; exact hxi
      obtain ⟨y, hy⟩ : ∃ y, (settle (cutOf keep) 0 (st.wait.take k) st.is)[x.1]? = some y := ⟨_, List.getElem?_eq_getElem hil⟩
      obtain ⟨gi, ci', hvi, hcy, hgi, hfy⟩ := hp.sector hy
      simp only [Value.slice.injEq] at hvi
      obtain ⟨rfl, hls, rfl⟩ := hvi
      have hyl : y.length = 32 := hp.ok.sec y (List.mem_of_getElem? hy)
      obtain ⟨X, HX⟩ : ∃ X : ByteArray, Hid (X = ⟨x.2.toArray⟩) := ⟨_, rfl⟩
      obtain ⟨Y, HY⟩ : ∃ Y : ByteArray, Hid (Y = ⟨y.toArray⟩) := ⟨_, rfl⟩
      have hcX : wr.cell? ⟨g, k * 2 + 1, none⟩ = some (.string X) := by rw [HX.out]; exact hc2
      have hcY : wr.cell? ⟨gi, x.1, none⟩ = some (.string Y) := by rw [HY.out]; exact hcy
      have hXs : X.size = 32 := by rw [HX.out]; exact hwt.2
      have hYs : Y.size = 32 := by rw [HY.out]; exact hyl
      have hil2 : (x.1 : Int) < (st.is.length : Int) := by have := h.ok.len; omega
      have hbl := World.block_lt_of_cell? wr _ h1'
      have Hrest : ∀ c : Nat, c ≤ 32 → cutOf keep k = c → Hid (IsRef ((wr.alloc (.cells #[.int .i64 (x.1 : Int), .string X] 64)).drew.setCell ⟨gi, x.1, none⟩ (.string (X.extract 0 c ++ Y.extract c 32))) b (.slice (some ⟨gi, 0, none⟩) st.is.length ci) (.slice (some ⟨g, 0, none⟩) st.wait.length cw)
          { st with is := settle (cutOf keep) 0 (st.wait.take (k + 1)) st.is }) := by
        intro c hc hcut
        have e : st.wait.take (k + 1) = st.wait.take k ++ [x] := by rw [List.take_add_one, hx]; rfl
        have hp2 := (hp.alloc (.cells #[.int .i64 (x.1 : Int), .string X] 64)).drew
        have e2 : settle (cutOf keep) 0 (st.wait.take (k + 1)) st.is = (settle (cutOf keep) 0 (st.wait.take k) st.is).set x.1 (x.2.take c ++ y.drop c) := by
          rw [e, settle_snoc, show 0 + (st.wait.take k).length = k by simp; omega, hcut, put1, List.getD_eq_getElem?_getD, hy]; rfl
        have e3 : Value.string (X.extract 0 c ++ Y.extract c 32) = str (x.2.take c ++ y.drop c) := by rw [HX.out, HY.out]; exact str_cut x.2 y c hwt.2 hyl hc
        have hlen : (x.2.take c ++ y.drop c).length = 32 := by simp [hwt.2, hyl]; omega
        rw [e2, e3]
        have h3 : st.is.length = (settle (cutOf keep) 0 (st.wait.take k) st.is).length := by rw [length_settle]
        rw [h3] at hp2 ⊢
        exact IsRef.setSec (st := { st with is := settle (cutOf keep) 0 (st.wait.take k) st.is }) hp2 x.1 _ hlen
      have hmv : ∀ u : Value, Moves (rfp b (.slice (some ⟨gi, 0, none⟩) st.is.length ci) (.slice (some ⟨g, 0, none⟩) st.wait.length cw)) w ((wr.alloc (.cells #[.int .i64 (x.1 : Int), .string X] 64)).drew.setCell ⟨gi, x.1, none⟩ u) :=
        fun u => (hm.alloc _).drew.setCell _ _ (.inl (.inr (.inl rfl)))
      have Hmv := Lib.hid hmv
      have HW0 := Lib.hid (show (wr.alloc (.cells #[.int .i64 (x.1 : Int), .string X] 64)).cell? ⟨wr.heap.size, 0, none⟩ = some (.int .i64 (x.1 : Int)) by rw [World.cell?_alloc_new]; rfl)
      have HW1 := Lib.hid (show (wr.alloc (.cells #[.int .i64 (x.1 : Int), .string X] 64)).cell? ⟨wr.heap.size, 1, none⟩ = some (.string X) by rw [World.cell?_alloc_new]; rfl)
      have HWb := Lib.hid (show (wr.alloc (.cells #[.int .i64 (x.1 : Int), .string X] 64)).cell? ⟨b, 0, none⟩ = some (.slice (some ⟨gi, 0, none⟩) st.is.length ci) from (World.cell?_alloc_lt _ _ _ hbl).trans h1')
      have HWY := Lib.hid (show (wr.alloc (.cells #[.int .i64 (x.1 : Int), .string X] 64)).cell? ⟨gi, x.1, none⟩ = some (.string Y) from (World.cell?_alloc_lt _ _ _ hgi).trans hcY)
      have HWf := Lib.hid (show (wr.alloc (.cells #[.int .i64 (x.1 : Int), .string X] 64)).frozen? ⟨gi, x.1, none⟩ = false from (World.frozen?_alloc_past _ _ _ hgi).trans hfy)
      clear ht hx hc2 hcy hy hyl hls hmv hil hsl h hwt
      by_cases h15 : t < 15
      · have Hfin := Hrest (2 * t) (by omega) (by unfold cutOf; rw [Ht.out, if_pos h15])
        clear Hrest
        have hne15 : ((t : Int) == 15) = false := by simp; omega
        go_wp2_with fail
        generalize hW : wr.alloc (.cells #[.int .i64 (x.1 : Int), .string X] 64) = W at Hfin HW0 HW1 HWb HWY HWf Hmv ⊢
        have HWe := Lib.hid hW
        clear hW
        have c0 := HW0.out
        have c1 := HW1.out
        have c2 := HWb.out
        have c3 := HWY.out
        have c4 := HWf.out
        have i1 : (0 : Int) ≤ 2 * (t : Int) := by omega
        have i2 : 2 * (t : Int) ≤ 32 := by omega
        have i3 : (2 * (t : Int)).toNat = 2 * t := by omega
        have i4 : ¬ 9223372036854775807 < min (2 * t) 32 + (32 - 2 * t) := by omega
        refine wp_region_still_tail 22 (by kernel_rfl) (by kernel_rfl) ?_
        simp only [List.take_succ_cons, List.take_zero, List.drop_succ_cons, List.drop_zero]
        iterate 22 still_step
        refine wpStill_nil ?_
        go_wp2_with fail
        go_roundw
        case rel => exact ⟨k + 1, by omega, by go_num, Hfin.out, Hmv.out _⟩
        case measure => simp [intOf]; omega
      · have Hfin := Hrest 32 (by omega) (by unfold cutOf; rw [Ht.out, if_neg h15])
        clear Hrest
        have ee : X.extract 0 32 ++ Y.extract 32 32 = X.extract 0 32 := by simp
        rw [ee] at Hfin
        clear ee
        have hne15 : ((t : Int) == 15) = true := by simp; omega
        go_wp2_with fail
        generalize hW : wr.alloc (.cells #[.int .i64 (x.1 : Int), .string X] 64) = W at Hfin HW0 HW1 HWb HWY HWf Hmv ⊢
        have HWe := Lib.hid hW
        clear hW
        have c0 := HW0.out
        have c1 := HW1.out
        have c2 := HWb.out
        have c3 := HWY.out
        have c4 := HWf.out
        refine wp_region_still_tail 22 (by kernel_rfl) (by kernel_rfl) ?_
        simp only [List.take_succ_cons, List.take_zero, List.drop_succ_cons, List.drop_zero]
        iterate 22 still_step
        refine wpStill_nil ?_
        go_wp2_with fail
        go_roundw
        case rel => exact ⟨k + 1, by omega, by go_num, Hfin.out, Hmv.out _⟩
        case measure => simp [intOf]; omega
    · have hfin := hp.setNil
      have e : settle (cutOf keep) 0 (st.wait.take k) st.is = settle (cutOf keep) 0 st.wait st.is := by rw [List.take_of_length_le (by omega)]
      rw [e] at hfin
      have hfin2 := (hfin.setOff true).setLeft 0 (by omega)
      have Hfin := Lib.hid hfin2
      have hm2 := ((hm.setCell ⟨b, 1, none⟩ (.slice none 0 0) (.inl (.inl rfl))).setCell ⟨b, 2, none⟩ (.bool true) (.inl (.inl rfl))).setCell ⟨b, 3, none⟩ (.int .i64 0) (.inl (.inl rfl))
      have c1 := hp.fro 1
      have c2 := hp.fro 2
      have c3 := hp.fro 3
      have c4 := hp.off
      have c5 := hp.left
      clear hfin hfin2 e hp h
      go_wp2_with fail
      go_end0
      exact ⟨rfl, Hfin.out, hm2⟩
end Go.Proofs.Ytahmnehfadiegaa
