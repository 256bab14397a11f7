/- wire.columns and wire.Encode. -/
import Derived.Test.YtkbncbkmaakpkaaDoorCode
import Derived.Test.YtkbncbkmaakpkaaDoorBagB
import Derived.Test.YtkbncbkmaakpkaaDoorSeal
import Derived.BigRegion
namespace Go.Proofs.YtkbncbkmaakpkaaDoor
open Go.RowKit
def colW : List Nat := [1, 1, 1, 8, 8, 2, 2]
def cols (u : Nat) : List Value := [.pointer (some ⟨u, 0, none⟩), .int .i64 1, .pointer (some ⟨u, 1, none⟩), .int .i64 1, .pointer (some ⟨u, 2, none⟩), .int .i64 1, .pointer (some ⟨u, 3, none⟩), .int .i64 8, .pointer (some ⟨u, 4, none⟩), .int .i64 8, .pointer (some ⟨u, 5, none⟩), .int .i64 2, .pointer (some ⟨u, 6, none⟩), .int .i64 2]
section
variable {w : World}
set_option maxRecDepth 100000 in
set_option maxHeartbeats 4000000 in
theorem columns_any (u : Nat) : Calls Tryd.prog 54 #[.pointer (some ⟨u, 0, none⟩)] w fun e w' => ∃ g, e = .returned (.slice (some ⟨g, 0, none⟩) 7 7) ∧ (∀ i c, (cols u)[i]? = some c → w'.cell? ⟨g, i, none⟩ = some c) ∧ Below w.heap.size w w' ∧ w.heap.size ≤ g := by
  go_enter Tryd.func54, Tryd.ntmps54
  go_wp2_with fail
  go_region
  all_goals
    go_wp2_with fail
    go_ret
    refine ⟨w.heap.size, rfl, fun i c hc => ?_, ((Below.refl _ _).alloc (Nat.le_refl _) _).drew, Nat.le_refl _⟩
    have hx := news_last w (cols u) 144 i c hc
    rw [Addr.add_mid, Nat.zero_add] at hx
    exact hx
end
/-- The message's numbers, and how wide each lies. -/
def numL (m : Ms) : List (Nat × Nat) := [(m.kind.toNat, 1), (m.src.toNat, 1), (m.dst.toNat, 1), (m.epoch.toNat, 8), (m.seq.toNat, 8), (m.off.toNat, 2), (m.len.toNat, 2)]
def encN (l : List (Nat × Nat)) : List UInt8 := l.flatMap fun p => leN p.1 p.2
def encM (m : Ms) : List UInt8 := encN (numL m) ++ (leN m.data.size 2 ++ m.data.data.toList)
theorem inB_iff {x most : Int} (h : Ms.inB x most = true) : 0 ≤ x ∧ x ≤ most := by
  simpa [Ms.inB] using h
theorem check_in {m : Ms} (h : m.check = 0) : (0 ≤ m.kind ∧ m.kind ≤ 255) ∧ (0 ≤ m.src ∧ m.src ≤ 7) ∧ (0 ≤ m.dst ∧ m.dst ≤ 7) ∧ (0 ≤ m.epoch ∧ m.epoch ≤ 1099511627776) ∧ (0 ≤ m.seq ∧ m.seq ≤ 1099511627776) ∧ (0 ≤ m.off ∧ m.off ≤ 256) ∧ (0 ≤ m.len ∧ m.len ≤ 256) ∧ m.data.size ≤ 1024 := by
  unfold Ms.check at h
  split at h
  · rename_i hn
    split at h
    · omega
    · unfold Ms.nums at hn
      simp only [Bool.and_eq_true] at hn
      obtain ⟨⟨⟨h0, h1, h2⟩, h3, h4⟩, h5, h6⟩ := hn
      exact ⟨inB_iff h0, inB_iff h1, inB_iff h2, inB_iff h3, inB_iff h4, inB_iff h5, inB_iff h6, by omega⟩
  · omega
theorem numL_ok {m : Ms} (h : m.check = 0) (u : Nat) {k n d : Nat} (hk : (numL m)[k]? = some (n, d)) : (d = 1 ∨ d = 2 ∨ d = 4 ∨ d = 8) ∧ n < 256 ^ d ∧ n < 9223372036854775808 ∧ m.cells[k]? = some (.int .i64 (n : Int)) ∧ (cols u)[k * 2]? = some (.pointer (some ⟨u, k, none⟩)) ∧ (cols u)[k * 2 + 1]? = some (.int .i64 (d : Int)) ∧ d ≤ 8 := by
  obtain ⟨h0, h1, h2, h3, h4, h5, h6, h7⟩ := check_in h
  match k, hk with
  | 0, hk => obtain ⟨rfl, rfl⟩ : m.kind.toNat = n ∧ 1 = d := by simpa [numL] using hk
             exact ⟨.inl rfl, by omega, by omega, by rw [Int.toNat_of_nonneg h0.1]; rfl, rfl, rfl, by omega⟩
  | 1, hk => obtain ⟨rfl, rfl⟩ : m.src.toNat = n ∧ 1 = d := by simpa [numL] using hk
             exact ⟨.inl rfl, by omega, by omega, by rw [Int.toNat_of_nonneg h1.1]; rfl, rfl, rfl, by omega⟩
  | 2, hk => obtain ⟨rfl, rfl⟩ : m.dst.toNat = n ∧ 1 = d := by simpa [numL] using hk
             exact ⟨.inl rfl, by omega, by omega, by rw [Int.toNat_of_nonneg h2.1]; rfl, rfl, rfl, by omega⟩
  | 3, hk => obtain ⟨rfl, rfl⟩ : m.epoch.toNat = n ∧ 8 = d := by simpa [numL] using hk
             exact ⟨.inr (.inr (.inr rfl)), by omega, by omega, by rw [Int.toNat_of_nonneg h3.1]; rfl, rfl, rfl, by omega⟩
  | 4, hk => obtain ⟨rfl, rfl⟩ : m.seq.toNat = n ∧ 8 = d := by simpa [numL] using hk
             exact ⟨.inr (.inr (.inr rfl)), by omega, by omega, by rw [Int.toNat_of_nonneg h4.1]; rfl, rfl, rfl, by omega⟩
  | 5, hk => obtain ⟨rfl, rfl⟩ : m.off.toNat = n ∧ 2 = d := by simpa [numL] using hk
             exact ⟨.inr (.inl rfl), by omega, by omega, by rw [Int.toNat_of_nonneg h5.1]; rfl, rfl, rfl, by omega⟩
  | 6, hk => obtain ⟨rfl, rfl⟩ : m.len.toNat = n ∧ 2 = d := by simpa [numL] using hk
             exact ⟨.inr (.inl rfl), by omega, by omega, by rw [Int.toNat_of_nonneg h6.1]; rfl, rfl, rfl, by omega⟩
  | k + 7, hk => simp [numL] at hk
theorem encN_len (m : Ms) (k : Nat) : (encN ((numL m).take k)).length ≤ 23 := by
  match k with
  | 0 => simp [encN]
  | 1 => simp [encN, numL, length_leN]
  | 2 => simp [encN, numL, length_leN]
  | 3 => simp [encN, numL, length_leN]
  | 4 => simp [encN, numL, length_leN]
  | 5 => simp [encN, numL, length_leN]
  | 6 => simp [encN, numL, length_leN]
  | k + 7 => simp [encN, numL, length_leN]
theorem encM_len (m : Ms) : (encM m).length = 25 + m.data.size := by
  have : m.data.data.toList.length = m.data.size := rfl
  simp only [encM, encN, numL, List.flatMap_cons, List.flatMap_nil, List.length_append, length_leN, List.length_nil, this]
  omega
section
variable {w : World}
set_option maxRecDepth 100000 in
set_option maxHeartbeats 4000000 in
theorem encode_bad (m : Ms) (hf : m.fits) (hc : (m.check == 0) = false) : Calls Tryd.prog 17 #[m.val] w fun e w' => ∃ q, e = .returned (.tuple #[.string ⟨#[]⟩, .iface 132 (.pointer (some ⟨q, 0, none⟩))]) ∧ IsF w' q m.check 0 ∧ Below w.heap.size w w' ∧ w.heap.size ≤ q := by
  have hbA : Below w.heap.size w (w.alloc (.cells m.cells.toArray 51)) := (Below.refl _ _).alloc (Nat.le_refl _) _
  have hbxA := Boxed.made w m 51
  have HbA := Lib.hid hbA
  have hck := check_any m hf (w := w.alloc (.cells m.cells.toArray 51))
  clear hbA hbxA
  generalize m.check = c at hc hck ⊢
  go_enter Tryd.func17, Tryd.ntmps17
  unfold Ms.val at hck ⊢
  go_wp2_with fail
  refine hck.mono ?_
  rintro e w1 ⟨rfl, hb1⟩
  have hbb : Below w.heap.size w w1 := HbA.out.trans (hb1.mono (by simp))
  have hw := wrap_any (wr := w1) c 0 hc
  have HBB := Lib.hid hbb
  clear hck hb1 hbb
  go_wp2_with fail
  refine hw.mono ?_
  rintro e w2 ⟨rfl, hi2, hb2, -⟩
  have HI := Lib.hid hi2
  have HB := Lib.hid (HBB.out.trans (hb2.mono HBB.out.size))
  clear hw hi2 hb2
  go_wp2_with fail
  go_ret2
  exact ⟨_, rfl, HI.out, HB.out, HBB.out.size⟩
set_option maxRecDepth 100000 in
set_option maxHeartbeats 4000000 in
theorem encode_ok (ht : Tabs w) (m : Ms) (hf : m.fits) (hc : m.check = 0) : Calls Tryd.prog 17 #[m.val] w fun e w' => e = .returned (.tuple #[.string (bstr (sealB (encM m))), .nilIface]) ∧ Below w.heap.size w w' := by
  have hbA : Below w.heap.size w (w.alloc (.cells m.cells.toArray 51)) := (Below.refl _ _).alloc (Nat.le_refl _) _
  have hbxA := Boxed.made w m 51
  have HbA := Lib.hid hbA
  have HbxA := Lib.hid hbxA
  have HT := Lib.hid ht
  have hck := check_any m hf (w := w.alloc (.cells m.cells.toArray 51))
  have HC := Lib.hid hc
  rw [hc] at hck
  clear hbA hbxA ht hc
  go_enter Tryd.func17, Tryd.ntmps17
  unfold Ms.val
  unfold Ms.val at hck
  go_wp2_with fail
  refine hck.mono ?_
  rintro e w1 ⟨rfl, hb1⟩
  have hbx := HbxA.out.below hb1
  have hbb : Below w.heap.size w w1 := HbA.out.trans (hb1.mono (by simp))
  have hnw := WS.new (wr := w1) w (fun q => q = w.heap.size) hbb (fun q hq => by subst hq; exact hbx.1)
  have HBX := Lib.hid hbx
  have HBB := Lib.hid hbb
  clear hck hb1 hbx hbb
  go_wp2_with fail
  refine hnw.mono ?_
  rintro e w2 ⟨rfl, hs2, hb2⟩
  have hcl := columns_any (w := w2) w.heap.size
  have HS2 := Lib.hid hs2
  have HBX2 := Lib.hid (HBX.out.below hb2)
  clear hnw hs2 hb2
  go_wp2_with fail
  refine hcl.mono ?_
  rintro e w3 ⟨g, rfl, hg, hb3, hgl⟩
  have hg0 : g < w3.heap.size := World.block_lt_of_cell? w3 _ (hg 0 _ rfl)
  have hs3 := HS2.out.also (G := fun q => q = w.heap.size ∨ q = g) hb3 fun q hq => by
    rcases hq with rfl | rfl
    · exact ⟨.inl rfl, Nat.lt_of_lt_of_le HBX2.out.1 hb3.size⟩
    · exact ⟨.inr hgl, hg0⟩
  have HBX3 := Lib.hid (HBX2.out.below hb3)
  have HS3 := Lib.hid hs3
  have HG := Lib.hid hg
  clear hcl hg hb3 hs3 HS2 HBX2 HBX hg0 hgl HbA HbxA HBB
  go_wp2_with fail
  generalize w1.heap.size = bw at HS3 ⊢
  go_loopw [7, 17] (fun _ c wr => ∃ k : Nat, k ≤ 7 ∧ c = .int .i64 (k : Int) ∧ WS w (fun q => q = w.heap.size ∨ q = g) bw wr (encN ((numL m).take k)) ∧ Boxed wr w.heap.size m ∧ ∀ (i : Nat) (c : Value), (cols w.heap.size)[i]? = some c → wr.cell? ⟨g, i, none⟩ = some c) (fun _ c _ => 7 - (intOf c).toNat)
  case atStart => exact ⟨0, Nat.zero_le _, rfl, HS3.out, HBX3.out, HG.out⟩
  case round =>
    clear HS3 HBX3 HG
    obtain ⟨k, hk, rfl, hs, hbx, hg⟩ := hrel
    by_cases hlt : k < 7
    · obtain ⟨⟨n, d⟩, hx⟩ : ∃ x, (numL m)[k]? = some x := ⟨_, List.getElem?_eq_getElem (show k < (numL m).length from hlt)⟩
      obtain ⟨hd, hn1, hn2, hcm, hg0, hg1, hd8⟩ := numL_ok HC.out w.heap.size hx
      have q0 := hg _ _ hg0
      have q1 := hg _ _ hg1
      have q2 := hbx.2 _ _ hcm
      have htk : encN ((numL m).take (k + 1)) = encN ((numL m).take k) ++ leN n d := by
        rw [List.take_add_one, hx]
        simp [encN]
      have hfl := encN_len m k
      generalize encN ((numL m).take k) = P at hs htk hfl ⊢
      have hcm' : m.cells[k]? = some (.int .i64 (n : Int)) := hcm
      clear hx hd8 hcm hg0 hg1
      have H := Lib.hid hs
      have HBX := Lib.hid hbx
      have HG := Lib.hid hg
      have HTK := Lib.hid htk
      have HD := Lib.hid hd
      clear hs hbx hg htk hd
      go_wp2_with fail
      generalize hW : wr.alloc (.cells #[.pointer (some ⟨w.heap.size, k, none⟩), .int .i64 (d : Int)] 144) = W
      have hbW : Below wr.heap.size wr W.drew := by rw [← hW]; exact ((Below.refl _ _).alloc (Nat.le_refl _) _).drew
      have p0 : W.drew.cell? ⟨wr.heap.size, 0, none⟩ = some (.pointer (some ⟨w.heap.size, k, none⟩)) := by rw [← hW]; show (wr.alloc _).cell? _ = _; rw [World.cell?_alloc_new]; rfl
      have p1 : W.drew.cell? ⟨wr.heap.size, 1, none⟩ = some (.int .i64 (d : Int)) := by rw [← hW]; show (wr.alloc _).cell? _ = _; rw [World.cell?_alloc_new]; rfl
      have hsW := H.out.more hbW
      have hbxW := HBX.out.below hbW
      have p2 := hbxW.2 _ _ hcm'
      have hgW : ∀ (i : Nat) (c : Value), (cols w.heap.size)[i]? = some c → W.drew.cell? ⟨g, i, none⟩ = some c := fun i c hc => (World.cell?_of_block (a := ⟨g, i, none⟩) (hbW.block g (H.out.fl (.inr rfl)))).trans (HG.out i c hc)
      have hnum := hsW.num (by omega) n d HD.out hn1 hn2
      have HBXW := Lib.hid hbxW
      have HGW := Lib.hid hgW
      have HSW := Lib.hid hsW
      clear q0 q1 q2 hW hbW hsW hbxW hgW hcm'
      go_region_law (first
        | (go_simp
           go_at_call 48
           refine hnum.mono ?_
           rintro e w5 ⟨rfl, hs5, hf5⟩))
      all_goals
        have hbx5 : Boxed w5 w.heap.size m := ⟨hs5.fl (.inl rfl), fun j x hj => (World.cell?_of_block (a := ⟨w.heap.size, j, none⟩) (hf5 _ (.inl rfl))).trans (HBXW.out.2 j x hj)⟩
        have hg5 : ∀ (i : Nat) (c : Value), (cols w.heap.size)[i]? = some c → w5.cell? ⟨g, i, none⟩ = some c := fun i c hc => (World.cell?_of_block (a := ⟨g, i, none⟩) (hf5 _ (.inr rfl))).trans (HGW.out i c hc)
        have HS5 := Lib.hid hs5
        have HBX5 := Lib.hid hbx5
        have HG5 := Lib.hid hg5
        clear hs5 hbx5 hg5 hf5 hnum p0 p1 p2
        go_wp2_with fail
        go_roundw
        case rel => exact ⟨k + 1, by omega, by go_num, by rw [HTK.out]; exact HS5.out, HBX5.out, HG5.out⟩
        case measure => simp [intOf]; omega
    · have ek : k = 7 := by omega
      have e7 : encN ((numL m).take k) = encN (numL m) := by rw [ek]; rfl
      have h7 := encN_len m k
      rw [e7] at hs h7
      have q7 := hbx.2 7 _ rfl
      have hsz := (check_in HC.out).2.2.2.2.2.2.2
      have htx := hs.text (by omega) m.data hsz
      have eM : encN (numL m) ++ (leN m.data.size 2 ++ m.data.data.toList) = encM m := rfl
      rw [eM] at htx
      have hlm := encM_len m
      clear hg hbx hs e7 eM
      generalize hEM : encM m = EM at htx hlm
      have HEM := Lib.hid hEM
      clear hEM
      have HLM := Lib.hid (show EM.length ≤ 1000000 by omega)
      clear hlm h7 hsz
      go_wp2_with fail
      refine htx.mono ?_
      rintro e w8 ⟨rfl, hs8, hf8⟩
      have hby := hs8.bytes
      have hse : Calls Tryd.prog 50 #[.string ⟨EM.toArray⟩] w8 fun e w' => e = .returned (.string (bstr (sealB EM))) ∧ Below w8.heap.size w8 w' := seal_any (HT.out.below hs8.below HT.out.lt) EM HLM.out
      have HB8 := Lib.hid hs8.below
      clear htx hs8 hf8 q7 ek hlt hk
      go_wp2_with fail
      refine hby.mono ?_
      rintro e w9 ⟨rfl, rfl⟩
      clear hby
      go_wp2_with fail
      refine hse.mono ?_
      rintro e w9 ⟨rfl, hb9⟩
      have HB9 := Lib.hid (HB8.out.trans (hb9.mono HB8.out.size))
      clear hse hb9
      go_wp2_with fail
      go_ret2
      rw [HEM.out]
      exact ⟨rfl, HB9.out⟩
end
end Go.Proofs.YtkbncbkmaakpkaaDoor
