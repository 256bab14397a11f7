/- The reference's commands: numbers, Decode. -/
import Derived.Test.YtfjfkmoofmncnaaDoorRs
import Derived.Test.YtfjfkmoofmncnaaDoorGc
import Derived.StillTailTactics
namespace Go.Proofs.YtfjfkmoofmncnaaDoor
open Go.RowKit
def widths : List Value := [.int .i64 1, .int .i64 1, .int .i64 8, .int .i64 8, .int .i64 8, .int .i64 2, .int .i64 2, .int .i64 1, .int .i64 1]
theorem widths_at (x : CI) {k : Nat} {n : Int} {d : Nat} (hk : x.nums[k]? = some (n, d)) : widths[k]? = some (.int .i64 (d : Int)) ∧ x.cells[k]? = some (.int .i64 n) := by
  match k, hk with
  | 0, hk => obtain ⟨rfl, rfl⟩ : x.x0 = n ∧ 1 = d := by simpa [CI.nums] using hk
             exact ⟨rfl, rfl⟩
  | 1, hk => obtain ⟨rfl, rfl⟩ : x.x1 = n ∧ 1 = d := by simpa [CI.nums] using hk
             exact ⟨rfl, rfl⟩
  | 2, hk => obtain ⟨rfl, rfl⟩ : x.x2 = n ∧ 8 = d := by simpa [CI.nums] using hk
             exact ⟨rfl, rfl⟩
  | 3, hk => obtain ⟨rfl, rfl⟩ : x.x3 = n ∧ 8 = d := by simpa [CI.nums] using hk
             exact ⟨rfl, rfl⟩
  | 4, hk => obtain ⟨rfl, rfl⟩ : x.x4 = n ∧ 8 = d := by simpa [CI.nums] using hk
             exact ⟨rfl, rfl⟩
  | 5, hk => obtain ⟨rfl, rfl⟩ : x.x5 = n ∧ 2 = d := by simpa [CI.nums] using hk
             exact ⟨rfl, rfl⟩
  | 6, hk => obtain ⟨rfl, rfl⟩ : x.x6 = n ∧ 2 = d := by simpa [CI.nums] using hk
             exact ⟨rfl, rfl⟩
  | 7, hk => obtain ⟨rfl, rfl⟩ : x.x7 = n ∧ 1 = d := by simpa [CI.nums] using hk
             exact ⟨rfl, rfl⟩
  | 8, hk => obtain ⟨rfl, rfl⟩ : x.x8 = n ∧ 1 = d := by simpa [CI.nums] using hk
             exact ⟨rfl, rfl⟩
  | k + 9, hk => simp [CI.nums] at hk
section
variable {w w' : World}
set_option maxRecDepth 100000 in
set_option maxHeartbeats 4000000 in
theorem rnumbers_any : Calls Tryd.prog 53 #[.agg #[.int .i64 0, .int .i64 0, .int .i64 0, .int .i64 0, .int .i64 0, .int .i64 0, .int .i64 0, .int .i64 0, .int .i64 0]] w fun e w' => ∃ gn gw, e = .returned (.tuple #[.slice (some ⟨gn, 0, none⟩) 9 9, .slice (some ⟨gw, 0, none⟩) 9 9]) ∧ (∀ k v, widths[k]? = some v → w'.cell? ⟨gw, k, none⟩ = some v) ∧ Below w.heap.size w w' ∧ w.heap.size ≤ gw := by
  go_enter Tryd.func53, Tryd.ntmps53
  go_wp2_with fail
  go_ret2
  refine ⟨_, _, rfl, fun k v hk => ?_, (((Below.refl _ _).alloc (Nat.le_refl _) _).alloc (by simp) _).alloc (by simp; omega) _, by omega⟩
  have h := World.cell?_alloc_new ((w.alloc (.cells #[.int .i64 0, .int .i64 0, .int .i64 0, .int .i64 0, .int .i64 0, .int .i64 0, .int .i64 0, .int .i64 0, .int .i64 0] 114)).alloc (.cells #[.int .i64 0, .int .i64 0, .int .i64 0, .int .i64 0, .int .i64 0, .int .i64 0, .int .i64 0, .int .i64 0, .int .i64 0] 3)) widths.toArray 3 k
  rw [List.getElem?_toArray, hk, World.size_alloc, World.size_alloc] at h
  exact h
set_option maxRecDepth 100000 in
set_option maxHeartbeats 8000000 in
theorem rdecode_any (c : Cm) (hc : c.Fits) : Calls Tryd.prog 39 #[.string (bstr (encC c))] w fun e w' => Below w.heap.size w w' ∧ e = .returned (.tuple #[c.val, .int .i64 0]) := by
  obtain ⟨i0, hi0, hz0, hz1, hz2⟩ := info_parts Tryd.infoI
  have Hi := Lib.hid hi0
  have Hz := Lib.hid hz0
  have Hz1 := Lib.hid hz1
  have Hz2 := Lib.hid hz2
  clear hi0 hz0 hz1 hz2
  obtain ⟨W1, hW1⟩ : ∃ W1, W1 = (w.alloc (.cells #[.int .i64 0, .int .i64 0, .int .i64 0, .int .i64 0, .int .i64 0, .int .i64 0, .int .i64 0, .int .i64 0, .int .i64 0] 114)).alloc (.cells #[.string (bstr (encC c)), .int .i64 0] 158) := ⟨_, rfl⟩
  have hb1 : Below w.heap.size w W1 := by rw [hW1]; exact ((Below.refl _ _).alloc (Nat.le_refl _) _).alloc (by simp) _
  have hs1 : W1.heap.size = w.heap.size + 1 + 1 := by rw [hW1]; simp
  have hrs : CX W1 w.heap.size ⟨0, 0, 0, 0, 0, 0, 0, 0, 0⟩ := by rw [hW1]; exact (CX.made w _ _).below ((Below.refl _ _).alloc (Nat.le_refl _) _)
  have hfs : ∀ o, W1.frozen? ⟨w.heap.size, o, none⟩ = false := fun o => by
    rw [hW1]
    exact made_fro ((Below.refl _ _).alloc (Nat.le_refl _) _) o
  have hrd : IsR W1 (w.heap.size + 1) (encC c) 0 := by
    rw [hW1]
    have h0 := World.cell?_alloc_new (w.alloc (.cells #[.int .i64 0, .int .i64 0, .int .i64 0, .int .i64 0, .int .i64 0, .int .i64 0, .int .i64 0, .int .i64 0, .int .i64 0] 114)) #[.string (bstr (encC c)), .int .i64 0] 158
    have h1 := World.frozen?_alloc_new (w.alloc (.cells #[.int .i64 0, .int .i64 0, .int .i64 0, .int .i64 0, .int .i64 0, .int .i64 0, .int .i64 0, .int .i64 0, .int .i64 0] 114)) #[.string (bstr (encC c)), .int .i64 0] 158
    rw [World.size_alloc] at h0 h1
    exact ⟨(h0 0).trans rfl, (h0 1).trans rfl, h1⟩
  have HB1 := Lib.hid hb1
  have HS1 := Lib.hid hs1
  have HRS := Lib.hid hrs
  have HFS := Lib.hid hfs
  have HRD := Lib.hid hrd
  have HW1 := Lib.hid hW1
  have HC := Lib.hid hc
  have hnu := rnumbers_any (w := W1)
  clear hb1 hs1 hrs hfs hrd hc hW1
  go_enter Tryd.func39, Tryd.ntmps39
  go_upto_region 2 with (fail)
  rw [← HW1.out]
  clear HW1
  go_upto_region 3 with (go_at_call 53
                         refine hnu.mono ?_
                         clear hnu
                         rintro e w2 ⟨gn, gw, rfl, hgw, hb2, hgl⟩
                         have HB2 := Lib.hid hb2
                         have HGW := Lib.hid hgw
                         have HGL := Lib.hid hgl
                         clear hb2 hgw hgl)
  obtain ⟨G, hG⟩ : ∃ G, G = w2.heap.size := ⟨_, rfl⟩
  obtain ⟨W3, hW3⟩ : ∃ W3, W3 = w2.alloc (.cells #[] 3) := ⟨_, rfl⟩
  have hgwl : gw < w2.heap.size := World.block_lt_of_cell? w2 _ (HGW.out 0 _ rfl)
  have hb3 : Below w2.heap.size w2 W3 := by rw [hW3]; exact (Below.refl _ _).alloc (Nat.le_refl _) _
  have hrow3 : W3.ownsRow G 3 1 (.slice (some ⟨G, 0, none⟩) 0 0) 0 [] := by
    rw [hW3, hG]
    exact World.ownsRow_made (base := w2.heap.size) (e := 3) (size := 1) w2 #[] 0 (by simp) (Nat.zero_le _) rfl
  have hGs : G < W3.heap.size := (hrow3.lt G rfl).2
  have hb13 : Below W1.heap.size W1 W3 := HB2.out.trans (hb3.mono HB2.out.size)
  have hg2 : w.heap.size + 1 + 1 ≤ G := by rw [hG, ← HS1.out]; exact HB2.out.size
  have hgw3 : ∀ k v, widths[k]? = some v → W3.cell? ⟨gw, k, none⟩ = some v := fun k v hk => (World.cell?_of_block (a := ⟨gw, k, none⟩) (hb3.block gw hgwl)).trans (HGW.out k v hk)
  have HRD3 := Lib.hid (HRD.out.below hb13)
  have HRS3 := Lib.hid (HRS.out.below hb13)
  have HFS3 := Lib.hid (show ∀ o, W3.frozen? ⟨w.heap.size, o, none⟩ = false from fun o => (World.frozen?_of_block (a := ⟨w.heap.size, o, none⟩) (hb13.block _ HRS.out.1)).trans (HFS.out o))
  have HB3 := Lib.hid (HB1.out.trans (hb13.mono HB1.out.size))
  have HGW3 := Lib.hid hgw3
  have HGN : Hid (gw ≠ w.heap.size + 1 ∧ gw < W3.heap.size ∧ gw < G) := Lib.hid (by have h1 := HGL.out; rw [HS1.out] at h1; have h2 := hb3.size; omega)
  have HROW3 := Lib.hid hrow3
  have HGS := Lib.hid hGs
  have HG2 := Lib.hid hg2
  have HW3 := Lib.hid hW3
  have HG := Lib.hid hG
  clear hG hW3 hb3 hrow3 hGs hb13 hg2 hgw3 HB1 HRS HFS HRD HB2 HGW HGL hgwl
  go_wp2_with fail
  rw [← HG.out, ← HW3.out]
  clear HG HW3
  go_loopw [7, 8, 9, 10] (fun nv iv _ _ wr => ∃ k : Nat, k ≤ 9 ∧ iv = .int .i64 (k : Int) ∧ IsR wr (w.heap.size + 1) (encC c) (posC c k) ∧ wr.ownsRow G 3 1 nv k (c.ci.cells.take k) ∧ Moves (fun q => q = w.heap.size + 1 ∨ G ≤ q) W3 wr) (fun _ iv _ _ _ => 9 - (intOf iv).toNat)
  case atStart => exact ⟨0, Nat.zero_le _, rfl, HRD3.out, HROW3.out, Moves.refl _ _⟩
  case round =>
    clear HRD3 HROW3
    obtain ⟨k, hk, rfl, hr, hrow, hm⟩ := hrel
    by_cases hlt : k < 9
    · obtain ⟨⟨n, d⟩, hq⟩ : ∃ y, c.ci.nums[k]? = some y := ⟨_, List.getElem?_eq_getElem (show k < c.ci.nums.length from hlt)⟩
      obtain ⟨m, rfl, hm1, hm2, hd⟩ := Cm.fits_at HC.out hq
      obtain ⟨hwk, hck⟩ := widths_at c.ci hq
      obtain ⟨hp1, hp2, hp3⟩ := posC_col hq hm1
      have hgk : wr.heap[gw]? = W3.heap[gw]? := hm.block gw HGN.out.2.1 (by have := HGN.out; omega)
      have q0 : wr.cell? ⟨gw, k, none⟩ = _ := (World.cell?_of_block (a := ⟨gw, k, none⟩) hgk).trans (HGW3.out _ _ hwk)
      have e0 : decide ((k : Int) < 9) = true := by simp; omega
      have hkz : (k : Int) < 9 := by omega
      have hnum := r1num_any hr (by rw [encC_len]; omega) hd hp2 (by rw [hp3]; exact hm2)
      rw [hp3, ← hp1] at hnum
      obtain ⟨na, nc, rfl⟩ := row_lens hrow
      have hst : (c.ci.cells.take (k + 1)) = c.ci.cells.take k ++ [.int .i64 (m : Int)] := by rw [List.take_add_one, hck]; rfl
      have HROW := Lib.hid hrow
      have HM := Lib.hid hm
      have HST := Lib.hid hst
      have hsz : G ≤ wr.heap.size := by have := hm.size; have := HGS.out; omega
      have hcode := fun W => r1code (w := W)
      unfold flt0 at hnum hcode
      have hrl : w.heap.size + 1 < wr.heap.size := hr.lt
      clear hr hrow hm hwk hck hp1 hp2 hp3 hgk hst hq hm1 hm2 hd
      go_upto_region 8 with (go_at_call 54
                             refine hnum.mono ?_
                             clear hnum
                             rintro e w5 ⟨rfl, hr5, hm5⟩
                             have HR5 := Lib.hid hr5
                             have HM5 := Lib.hid (HM.out.trans hm5 fun i hi => .inl (.inl hi))
                             have HROW5 := Lib.hid (ownsRow_keep HROW.out fun q hq => hm5.block q (HROW.out.lt q hq).2 (fun e => by have := (HROW.out.lt q hq).1; have := HG2.out; omega))
                             have hsz5 : G ≤ w5.heap.size := Nat.le_trans hsz hm5.size
                             clear hr5 hm5)
      have hb6 : Below w5.heap.size w5 (w5.alloc (.cells #[.slice none 0 0, .int .i64 0] 163)) := (Below.refl _ _).alloc (Nat.le_refl _) _
      have y0 : (w5.alloc (.cells #[.slice none 0 0, .int .i64 0] 163)).cell? ⟨w5.heap.size, 0, none⟩ = some (.slice none 0 0) := by rw [World.cell?_alloc_new]; rfl
      have y1 : (w5.alloc (.cells #[.slice none 0 0, .int .i64 0] 163)).cell? ⟨w5.heap.size, 1, none⟩ = some (.int .i64 0) := by rw [World.cell?_alloc_new]; rfl
      have HR6 := Lib.hid (HR5.out.below hb6)
      have HM6 := Lib.hid (HM5.out.trans (Moves.of_below (F := fun _ => False) hb6) fun _ h => h.elim)
      have HROW6 := Lib.hid (ownsRow_keep HROW5.out fun q hq => hb6.block q (HROW5.out.lt q hq).2)
      have hsz6 : G ≤ (w5.alloc (.cells #[.slice none 0 0, .int .i64 0] 163)).heap.size := Nat.le_trans hsz5 hb6.size
      generalize w5.alloc (.cells #[.slice none 0 0, .int .i64 0] 163) = W6 at y0 y1 HR6 HM6 HROW6 hsz6 ⊢
      have HSZ6 := Lib.hid hsz6
      clear hb6 HR5 HM5 HROW5 HROW HM hsz hsz5 hsz6 q0 hrl
      go_upto_region 10 with (go_at_call 55
                              refine (hcode _).mono ?_
                              clear hcode
                              rintro e w7 ⟨rfl, hb7⟩
                              have HR7 := Lib.hid (HR6.out.below hb7)
                              have HM7 := Lib.hid (HM6.out.trans (Moves.of_below (F := fun _ => False) hb7) fun _ h => h.elim)
                              have HROW7 := Lib.hid (ownsRow_keep HROW6.out fun q hq => hb7.block q (HROW6.out.lt q hq).2)
                              have HSZ7 := Lib.hid (Nat.le_trans HSZ6.out hb7.size)
                              clear hb7)
      clear y0 y1 HR6 HM6 HROW6 HSZ6
      have hb8 : Below w7.heap.size w7 (w7.alloc (.cells #[.int .i64 (m : Int)] 3)) := (Below.refl _ _).alloc (Nat.le_refl _) _
      have hr8 := World.ownsRow.alloc HROW7.out (.cells #[.int .i64 (m : Int)] 3)
      have hcl : ∀ j u, [Value.int .i64 (m : Int)][j]? = some u → (w7.alloc (.cells #[.int .i64 (m : Int)] 3)).cell? ((⟨w7.heap.size, 0, none⟩ : Addr).add j) = some u := fun j u hj => by
        rw [Addr.add_mid, Nat.zero_add, World.cell?_alloc_new]
        simpa using hj
      have hbs : G ≤ (w7.alloc (.cells #[.int .i64 (m : Int)] 3)).heap.size := Nat.le_trans HSZ7.out hb8.size
      have HR8 := Lib.hid (HR7.out.below hb8)
      have HM8 := Lib.hid (HM7.out.trans (Moves.of_below (F := fun _ => False) hb8) fun _ h => h.elim)
      have HROW8 := Lib.hid hr8
      have Hcl := Lib.hid hcl
      have HBS := Lib.hid hbs
      clear hb8 hr8 hcl hbs HR7 HM7 HROW7 HSZ7
      obtain ⟨TK, hTK⟩ : ∃ TK, TK = c.ci.cells.take k := ⟨_, rfl⟩
      have HTK := Lib.hid hTK
      rw [← hTK] at HROW8
      clear hTK
      go_wp2_with (refine wpList_append_own_at _ rfl (.tmp 39) (.tmp 41) 53 rfl G 3 i0 _ 1 8 Tryd.underlying53 Hi.out Hz.out Hz1.out Hz2.out rfl (by decide) _ k TK rfl HROW8.out ⟨w7.heap.size, 0, none⟩ 1 1 [.int .i64 (m : Int)] rfl rfl Hcl.out (by simp [Value.oneCell']) (by unfold maxLen; omega) (by omega) HBS.out ?_)
      intro v9 w9 hown9 hgrow _ _
      have HR9 := Lib.hid (HR8.out.keep (hgrow.block _ HR8.out.lt (fun e => by have := (HROW8.out.lt _ e.symm).1; have := HG2.out; omega)))
      have HM9 := Lib.hid (HM8.out.grown hgrow fun q hq => .inl (.inr (HROW8.out.lt q hq).1))
      have HROW9 := Lib.hid hown9
      clear hown9 hgrow HR8 HM8 HROW8
      go_wp2_with fail
      go_roundw
      case rel => exact ⟨k + 1, by omega, by go_num, HR9.out, by rw [HST.out, ← HTK.out]; exact HROW9.out, HM9.out⟩
      case measure => simp [intOf]; omega
    · have ek : k = 9 := by omega
      subst ek
      rw [posC_end] at hr
      rw [show c.ci.cells.take 9 = c.ci.cells from rfl] at hrow
      obtain ⟨g9, cap9, rfl, hcs⟩ : ∃ g cap, u7 = .slice (some ⟨g, 0, none⟩) 9 cap ∧ ∀ j v, c.ci.cells[j]? = some v → wr.cell? ⟨g, j, none⟩ = some v := by
        rcases ownsRow_form hrow with ⟨-, h1⟩ | ⟨g, cap, h1, _⟩
        · have := h1.1; omega
        · refine ⟨g, cap, h1, fun j v hj => ?_⟩
          rw [h1] at hrow
          have hj9 := (List.getElem?_eq_some_iff.1 hj).1
          rw [World.ownsRow.cellAt hrow j (by have h9 : c.ci.cells.length = 9 := rfl; omega)]
          exact hj
      have hen := r1end_any hr rfl
      have hcode := fun W => r1code (w := W)
      have hne : w.heap.size < W3.heap.size := HRS3.out.1
      have hrs : CX wr w.heap.size ⟨0, 0, 0, 0, 0, 0, 0, 0, 0⟩ := HRS3.out.keep (hm.block _ hne (by have := HG2.out; omega))
      have hfs : ∀ o, wr.frozen? ⟨w.heap.size, o, none⟩ = false := fun o => (World.frozen?_of_block (a := ⟨w.heap.size, o, none⟩) (hm.block w.heap.size hne (by have := HG2.out; omega))).trans (HFS3.out o)
      have hbw : Below w.heap.size w wr := HB3.out.trans ⟨hm.os, hm.tape, hm.output, hm.size, fun q hq => hm.block q (Nat.lt_of_lt_of_le hq HB3.out.size) (fun hf => by have := HG2.out; rcases hf with h1 | h1 <;> omega)⟩
      have hg9 : g9 < wr.heap.size := (hrow.lt g9 rfl).2
      have HBW := Lib.hid hbw
      have HRS9 := Lib.hid hrs
      have HFS9 := Lib.hid hfs
      have HCS := Lib.hid hcs
      clear hr hrow hm hrs hfs hbw hcs hne HRS3 HFS3 HB3 HGW3 HGN HGS HG2
      unfold flt0 at hen hcode
      go_upto_region 13 with (first
                              | (go_at_call 56
                                 refine hen.mono ?_
                                 clear hen
                                 rintro e w6 ⟨rfl, hb6⟩
                                 have HB6 := Lib.hid hb6
                                 clear hb6)
                              | (go_at_call 55
                                 refine (hcode _).mono ?_
                                 clear hcode
                                 rintro e w7 ⟨rfl, hb7⟩
                                 have HB7 := Lib.hid (HB6.out.trans (hb7.mono HB6.out.size))
                                 clear hb7))
      have hcs7 : ∀ j v, c.ci.cells[j]? = some v → w7.cell? ⟨g9, j, none⟩ = some v := fun j v hj => (World.cell?_of_block (a := ⟨g9, j, none⟩) (HB7.out.block g9 hg9)).trans (HCS.out j v hj)
      have hrs7 := HRS9.out.below HB7.out
      have hfs7 : ∀ o, w7.frozen? ⟨w.heap.size, o, none⟩ = false := fun o => (World.frozen?_of_block (a := ⟨w.heap.size, o, none⟩) (HB7.out.block _ HRS9.out.1)).trans (HFS9.out o)
      have HBF := Lib.hid (HBW.out.trans (HB7.out.mono HBW.out.size))
      have y0 := hcs7 0 _ rfl
      have y1 := hcs7 1 _ rfl
      have y2 := hcs7 2 _ rfl
      have y3 := hcs7 3 _ rfl
      have y4 := hcs7 4 _ rfl
      have y5 := hcs7 5 _ rfl
      have y6 := hcs7 6 _ rfl
      have y7 := hcs7 7 _ rfl
      have y8 := hcs7 8 _ rfl
      have z0 := hrs7.2 0 _ rfl
      have z1 := hrs7.2 1 _ rfl
      have z2 := hrs7.2 2 _ rfl
      have z3 := hrs7.2 3 _ rfl
      have z4 := hrs7.2 4 _ rfl
      have z5 := hrs7.2 5 _ rfl
      have z6 := hrs7.2 6 _ rfl
      have z7 := hrs7.2 7 _ rfl
      have z8 := hrs7.2 8 _ rfl
      have f0 := hfs7 0
      have f1 := hfs7 1
      have f2 := hfs7 2
      have f3 := hfs7 3
      have f4 := hfs7 4
      have f5 := hfs7 5
      have f6 := hfs7 6
      have f7 := hfs7 7
      have f8 := hfs7 8
      have HRS7 := Lib.hid hrs7
      dsimp only [Cm.ci] at y0 y1 y2 y3 y4 y5 y6 y7 y8
      clear hcs7 hrs7 hfs7 HBW HRS9 HFS9 HCS HB6 HB7
      refine wp_region_still_tail 29 (by kernel_rfl) (by kernel_rfl) ?_
      simp only [List.take_succ_cons, List.take_zero, List.drop_succ_cons, List.drop_zero]
      iterate 29 still_step
      refine wpStill_nil ?_
      go_wp2_with fail
      have hcell := setFrom_cell w.heap.size c.ci.cells w7 0 (fun o _ ho => ⟨_, HRS7.out.2 o _ (List.getElem?_eq_getElem (by simpa [CI.len_cells] using ho))⟩)
      have hmv := setFrom_moves w.heap.size c.ci.cells w7 0
      obtain ⟨W9, hW9⟩ : ∃ W9, W9 = setFrom w7 w.heap.size 0 c.ci.cells := ⟨_, rfl⟩
      rw [← hW9] at hcell hmv
      have hcd : ∀ j v, c.ci.cells[j]? = some v → W9.drew.cell? ⟨w.heap.size, j, none⟩ = some v := fun j v hj => by
        have h9 := hcell j v hj
        rw [Nat.zero_add] at h9
        exact h9
      have s0 : W9.drew.cell? ⟨w.heap.size, 0, none⟩ = some (.int .i64 (c.kind : Int)) := hcd 0 _ rfl
      have s1 : W9.drew.cell? ⟨w.heap.size, 1, none⟩ = some (.int .i64 (c.client : Int)) := hcd 1 _ rfl
      have s2 : W9.drew.cell? ⟨w.heap.size, 2, none⟩ = some (.int .i64 (c.seq : Int)) := hcd 2 _ rfl
      have s3 : W9.drew.cell? ⟨w.heap.size, 3, none⟩ = some (.int .i64 (c.now : Int)) := hcd 3 _ rfl
      have s4 : W9.drew.cell? ⟨w.heap.size, 4, none⟩ = some (.int .i64 (c.len : Int)) := hcd 4 _ rfl
      have s5 : W9.drew.cell? ⟨w.heap.size, 5, none⟩ = some (.int .i64 (c.a : Int)) := hcd 5 _ rfl
      have s6 : W9.drew.cell? ⟨w.heap.size, 6, none⟩ = some (.int .i64 (c.b : Int)) := hcd 6 _ rfl
      have s7 : W9.drew.cell? ⟨w.heap.size, 7, none⟩ = some (.int .i64 (c.mode : Int)) := hcd 7 _ rfl
      have s8 : W9.drew.cell? ⟨w.heap.size, 8, none⟩ = some (.int .i64 (c.other : Int)) := hcd 8 _ rfl
      clear hcell hcd y0 z0 f0 y1 z1 f1 y2 z2 f2 y3 z3 f3 y4 z4 f4 y5 z5 f5 y6 z6 f6 y7 z7 f7 y8 z8 f8
      change bodyPost _ _ _ _ _ (setFrom w7 w.heap.size 0 c.ci.cells).drew
      rw [← hW9]
      clear hW9
      refine bodyPost_ret (v := .tuple #[c.val, .int .i64 0]) (by unfold Cm.val; simp [results, Tryd.results39, go_sem, s0, s1, s2, s3, s4, s5, s6, s7, s8]) rfl ?_
      exact ⟨⟨hmv.os.trans HBF.out.os, hmv.tape.trans HBF.out.tape, hmv.output.trans HBF.out.output, Nat.le_trans HBF.out.size hmv.size, fun q hq => (hmv.block q (Nat.lt_of_lt_of_le hq HBF.out.size) (by omega)).trans (HBF.out.block q hq)⟩, rfl⟩
end
end Go.Proofs.YtfjfkmoofmncnaaDoor
