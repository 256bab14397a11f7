/- shelf.Parse. -/
import Derived.Test.YtkbncbkmaakpkaaDoorRec
import Derived.Test.YtkbncbkmaakpkaaDoorFr
import Derived.BigRegion
namespace Go.Proofs.YtkbncbkmaakpkaaDoor
open Go.RowKit
/-- A block that Parse hands back where there is none. -/
def blkZ : Value := .agg #[.int .i64 0, .int .i64 0, .string ⟨#[]⟩]
section
variable {w : World}
set_option maxRecDepth 100000 in
set_option maxHeartbeats 2000000 in
theorem parse_any (hT : Tabs w) (L : List UInt8) (hl : L.length = 32) (xi xn : UInt8) (ver : Nat) (h1 : L[1]? = some xi) (h10 : L[10]? = some xn) (hv : leV ((L.drop 2).take 8) = ver) :
    Calls Tryd.prog 155 #[.string (bstr L)] w fun e w' => e = .returned (if xn.toNat ≤ 16 ∧ ver ≤ 1099511627776 ∧ 1 ≤ ver ∧ recB xi.toNat ver ((L.drop 12).take xn.toNat) 1 = L then .tuple #[blkV xi.toNat ver (bstr ((L.drop 12).take xn.toNat)), .bool true] else .tuple #[blkZ, .bool false]) ∧ Below w.heap.size w w' := by
  have hs := bstr_size L
  have hn256 := xn.toNat_lt
  have hi256 := xi.toNat_lt
  rw [hl] at hs
  have hsi : ((bstr L).size : Int) = 32 := by omega
  have hg10 : ∀ h, (bstr L)[10]'h = xn := fun h => byte_at L _ h _ h10
  have hg1 : ∀ h, (bstr L)[1]'h = xi := fun h => byte_at L _ h _ h1
  have hgj : ∀ (j : Nat) (x : UInt8), L[2 + j]? = some x → ∀ h, (bstr L)[2 + j]'h = x := fun j x hx h => byte_at L _ h _ hx
  have hex : (bstr L).extract 12 (12 + xn.toNat) = bstr ((L.drop 12).take xn.toNat) := by rw [bstr_extract]; congr 2; omega
  have HG1 := Lib.hid hg1
  have HGJ := Lib.hid hgj
  have HEX := Lib.hid hex
  have HT := Lib.hid hT
  generalize hSS : bstr L = S at hs hsi hg10 HG1 HGJ HEX ⊢
  have HS := Lib.hid hSS
  generalize hRR : (if xn.toNat ≤ 16 ∧ ver ≤ 1099511627776 ∧ 1 ≤ ver ∧ recB xi.toNat ver ((L.drop 12).take xn.toNat) 1 = L then Value.tuple #[blkV xi.toNat ver (bstr ((L.drop 12).take xn.toNat)), .bool true] else .tuple #[blkZ, .bool false]) = R
  have HR := Lib.hid hRR
  clear hRR hSS h1 h10 hg1 hgj hex hT
  have HB := Lib.hid ((Below.refl _ w).alloc (Nat.le_refl _) (.cells #[.int .i64 0, .int .i64 0, .string ⟨#[]⟩] 107))
  go_enter Tryd.func155, Tryd.ntmps155
  go_wp2_with fail
  go_loopw [5, 6, 17] (fun v _ c wr => ∃ j : Nat, j ≤ 8 ∧ c = .int .i64 (j : Int) ∧ v = .int .u64 (leV ((L.drop 2).take j) : Int) ∧ wr = w.alloc (.cells #[.int .i64 0, .int .i64 0, .string ⟨#[]⟩] 107)) (fun _ _ c _ => 8 - (intOf c).toNat)
  case atStart => exact ⟨0, Nat.zero_le _, rfl, rfl, rfl⟩
  case round =>
    obtain ⟨j, hj, rfl, rfl, rfl⟩ := hrel
    by_cases hlt : j < 8
    · obtain ⟨x, hx⟩ : ∃ x, L[2 + j]? = some x := ⟨_, List.getElem?_eq_getElem (by omega)⟩
      have hts : (L.drop 2).take (j + 1) = (L.drop 2).take j ++ [x] := by
        rw [List.take_add_one, List.getElem?_drop, hx]; rfl
      have hvl := leV_lt ((L.drop 2).take j)
      have hln : ((L.drop 2).take j).length = j := by rw [List.length_take, List.length_drop]; omega
      have hp : (256 : Nat) ^ j = 2 ^ (8 * j) := by rw [Nat.pow_mul]
      have hsn : leV ((L.drop 2).take (j + 1)) = leV ((L.drop 2).take j) + x.toNat * 2 ^ (8 * j) := by rw [hts, leV_snoc, hln, hp]
      rw [hln, hp] at hvl
      generalize leV ((L.drop 2).take j) = v at hvl hsn ⊢
      have hxl := x.toNat_lt
      have hor := or_sum (8 * j) (by omega) v x.toNat hvl (Nat.lt_of_lt_of_le hxl (by
        have : (2:Nat) ^ 8 ≤ 2 ^ (64 - 8 * j) := Nat.pow_le_pow_right (by decide) (by omega)
        exact this))
      have hbx := HGJ.out j x hx
      have HSN := Lib.hid hsn
      have HOR := Lib.hid hor
      have hw5 : (2 : Int) + (j : Int) < (S.size : Int) := by omega
      clear hts hsn hor hx
      have hwr : IntKind.u64.wrap (IntKind.u64.wrap (x.toNat : Int) * 2 ^ (8 * j)) = ((x.toNat * 2 ^ (8 * j) : Nat) : Int) := by
        have h8 : 2 ^ (8 * j) * 2 ^ 8 ≤ 2 ^ 64 := by rw [← Nat.pow_add]; exact Nat.pow_le_pow_right (by decide) (by omega)
        have h9 : x.toNat * 2 ^ (8 * j) < 18446744073709551616 := by
          refine Nat.lt_of_lt_of_le (Nat.mul_lt_mul_of_pos_right hxl (Nat.two_pow_pos _)) ?_
          rw [Nat.mul_comm]; exact h8
        rw [show IntKind.u64.wrap (x.toNat : Int) = (x.toNat : Int) by rw [IntKind.wrap_u64]; omega, IntKind.wrap_u64]
        have h10 : ((x.toNat : Int) * 2 ^ (8 * j)) = ((x.toNat * 2 ^ (8 * j) : Nat) : Int) := by simp
        rw [h10]; omega
      have HWR := Lib.hid hwr
      clear hwr hvl hxl hp hln
      go_wp2_with fail
      go_roundw
      case rel => exact ⟨j + 1, by omega, by go_num, by rw [HWR.out, HOR.out, HSN.out], trivial⟩
      case measure => simp [intOf]; omega
    · have ej : j = 8 := by omega
      subst ej
      clear HGJ hlt hj
      rw [show leV ((L.drop 2).take 8) = ver from hv]
      have hz : ∀ (W : World) (n : Nat), (W.alloc (.cells #[.int .i64 0, .int .i64 0, .string ⟨#[]⟩] 107)).heap.size = n → True := fun _ _ _ => trivial
      clear hz
      by_cases hn : 16 < xn.toNat
      · have e1 : decide ((16 : Int) < (xn.toNat : Int)) = true := by simp; omega
        have HR2 := Lib.hid (show R = .tuple #[blkZ, .bool false] by rw [← HR.out, if_neg (by omega)])
        clear HR
        go_wp2_with fail
        refine bodyPost_ret (v := .tuple #[blkZ, .bool false]) (by simp [results, Tryd.results155, go_sem, blkZ]) rfl ?_
        exact ⟨by rw [HR2.out], HB.out⟩
      have e1 : decide ((16 : Int) < (xn.toNat : Int)) = false := by simp; omega
      by_cases hvm : 1099511627776 < ver
      · have e2 : decide ((1099511627776 : Int) < (ver : Int)) = true := by simp; omega
        have HR2 := Lib.hid (show R = .tuple #[blkZ, .bool false] by rw [← HR.out, if_neg (by omega)])
        clear HR
        go_wp2_with fail
        refine bodyPost_ret (v := .tuple #[blkZ, .bool false]) (by simp [results, Tryd.results155, go_sem, blkZ]) rfl ?_
        exact ⟨by rw [HR2.out], HB.out⟩
      have e2 : decide ((1099511627776 : Int) < (ver : Int)) = false := by simp; omega
      have hw12 : IntKind.i64.wrap (12 + (xn.toNat : Int)) = 12 + (xn.toNat : Int) := by rw [IntKind.wrap_i64]; omega
      have b1 : (1 : Int) < (S.size : Int) := by omega
      have b2 : (12 : Int) + (xn.toNat : Int) ≤ (S.size : Int) := by omega
      have b3 : (0 : Int) ≤ 12 + (xn.toNat : Int) := by omega
      have b4 : (12 : Int) ≤ 12 + (xn.toNat : Int) := by omega
      have b5 : (12 + (xn.toNat : Int)).toNat = 12 + xn.toNat := by omega
      have b6 : (12 : Int) + (xn.toNat : Int) ≤ 32 := by omega
      have hwi : IntKind.i64.wrap (xi.toNat : Int) = (xi.toNat : Int) := by rw [IntKind.wrap_i64]; omega
      have hwv : IntKind.i64.wrap (ver : Int) = (ver : Int) := by rw [IntKind.wrap_i64]; omega
      have hg1 := HG1.out
      have hex := HEX.out
      go_wp2_with fail
      go_region_both
      have hds : (bstr ((L.drop 12).take xn.toNat)).size ≤ 16 := by rw [bstr_size, List.length_take]; omega
      have hdl : (bstr ((L.drop 12).take xn.toNat)).data.toList = (L.drop 12).take xn.toNat := bstr_list _
      generalize hW : ((w.alloc (.cells #[.int .i64 0, .int .i64 0, .string ⟨#[]⟩] 107)).alloc (.cells #[.int .i64 (xi.toNat : Int), .int .i64 (ver : Int), .string (bstr ((L.drop 12).take xn.toNat))] 107)).drew = W
      have hbW : Below w.heap.size w W := by rw [← hW]; exact (((Below.refl _ _).alloc (Nat.le_refl _) _).alloc (by simp) _).drew
      have hlt0 : w.heap.size + 1 < W.heap.size := by rw [← hW]; simp
      obtain ⟨y0, y1, y2⟩ : W.cell? ⟨w.heap.size + 1, 0, none⟩ = some (.int .i64 (xi.toNat : Int)) ∧ W.cell? ⟨w.heap.size + 1, 1, none⟩ = some (.int .i64 (ver : Int)) ∧ W.cell? ⟨w.heap.size + 1, 2, none⟩ = some (.string (bstr ((L.drop 12).take xn.toNat))) := by rw [← hW]; exact ⟨by simp, by simp, by simp⟩
      obtain ⟨z0, z1, z2⟩ : W.cell? ⟨w.heap.size, 0, none⟩ = some (.int .i64 0) ∧ W.cell? ⟨w.heap.size, 1, none⟩ = some (.int .i64 0) ∧ W.cell? ⟨w.heap.size, 2, none⟩ = some (.string ⟨#[]⟩) := by rw [← hW]; exact ⟨by simp, by simp, by simp⟩
      have hfz : ∀ o, W.frozen? ⟨w.heap.size, o, none⟩ = false := fun o => by rw [← hW]; simp
      clear hW
      have hlt1 : w.heap.size < W.heap.size := by omega
      have hk1 : ∀ {w' : World} (o : Nat), Below W.heap.size W w' → w'.cell? ⟨w.heap.size + 1, o, none⟩ = W.cell? ⟨w.heap.size + 1, o, none⟩ := fun o hb => World.cell?_of_block (a := ⟨w.heap.size + 1, o, none⟩) (hb.block _ hlt0)
      have hk0 : ∀ {w' : World} (o : Nat), Below W.heap.size W w' → w'.cell? ⟨w.heap.size, o, none⟩ = W.cell? ⟨w.heap.size, o, none⟩ := fun o hb => World.cell?_of_block (a := ⟨w.heap.size, o, none⟩) (hb.block _ hlt1)
      have hf0 : ∀ {w' : World} (o : Nat), Below W.heap.size W w' → w'.frozen? ⟨w.heap.size, o, none⟩ = false := fun o hb => (World.frozen?_of_block (a := ⟨w.heap.size, o, none⟩) (hb.block _ hlt1)).trans (hfz o)
      by_cases hv0 : ver = 0
      · subst hv0
        have hrec := record_zero (w := W) xi.toNat (bstr ((L.drop 12).take xn.toNat)) 1 (by omega) hds
        have HR2 := Lib.hid (show R = .tuple #[blkZ, .bool false] by rw [← HR.out, if_neg (by omega)])
        unfold blkV at hrec
        generalize bstr ((L.drop 12).take xn.toNat) = D at hrec y2 hds hex ⊢
        clear hdl HEX HR
        go_wp2_with fail
        refine hrec.mono ?_
        rintro e w2 ⟨rfl, hb2⟩
        have q0 := (hk0 0 hb2).trans z0
        have q1 := (hk0 1 hb2).trans z1
        have q2 := (hk0 2 hb2).trans z2
        have g0 := hf0 0 hb2
        have g1 := hf0 1 hb2
        have g2 := hf0 2 hb2
        have HBE := Lib.hid (hbW.trans (hb2.mono hbW.size))
        clear hrec hb2 hk1 hk0 hf0 hbW
        go_wp2_with fail
        refine bodyPost_ret (v := .tuple #[blkZ, .bool false]) (by simp [results, Tryd.results155, go_sem, blkZ, q0, q1, q2]) rfl ?_
        exact ⟨by rw [HR2.out], ((HBE.out.setCell (Nat.le_refl _) _).setCell (Nat.le_refl _) _).setCell (Nat.le_refl _) _⟩
      have hrec := record_ok (w := W) (HT.out.below hbW HT.out.lt) xi.toNat ver (bstr ((L.drop 12).take xn.toNat)) 1 (by omega) (by omega) (by omega) hds (by omega)
      rw [hdl] at hrec
      by_cases heq : recB xi.toNat ver ((L.drop 12).take xn.toNat) 1 = L
      · have HR2 := Lib.hid (show R = .tuple #[blkV xi.toNat ver (bstr ((L.drop 12).take xn.toNat)), .bool true] by rw [← HR.out, if_pos ⟨by omega, by omega, by omega, heq⟩])
        rw [heq, HS.out] at hrec
        unfold blkV at hrec HR2
        generalize bstr ((L.drop 12).take xn.toNat) = D at hrec y2 hds hex HR2 ⊢
        clear hdl HEX HR heq
        go_wp2_with fail
        refine hrec.mono ?_
        rintro e w2 ⟨rfl, hb2⟩
        have q0 := (hk0 0 hb2).trans z0
        have q1 := (hk0 1 hb2).trans z1
        have q2 := (hk0 2 hb2).trans z2
        have g0 := hf0 0 hb2
        have g1 := hf0 1 hb2
        have g2 := hf0 2 hb2
        have p0 := (hk1 0 hb2).trans y0
        have p1 := (hk1 1 hb2).trans y1
        have p2 := (hk1 2 hb2).trans y2
        have HBE := Lib.hid (hbW.trans (hb2.mono hbW.size))
        clear hrec hb2 hk1 hk0 hf0 hbW y0 y1 y2 z0 z1 z2
        go_wp2_with fail
        refine bodyPost_ret (v := .tuple #[.agg #[.int .i64 (xi.toNat : Int), .int .i64 (ver : Int), .string D], .bool true]) (by simp [results, Tryd.results155, go_sem, q0, q1, q2]) rfl ?_
        exact ⟨by rw [HR2.out], ((HBE.out.setCell (Nat.le_refl _) _).setCell (Nat.le_refl _) _).setCell (Nat.le_refl _) _⟩
      · have HR2 := Lib.hid (show R = .tuple #[blkZ, .bool false] by rw [← HR.out, if_neg (fun h => heq h.2.2.2)])
        have hqq : (!((bstr (recB xi.toNat ver ((L.drop 12).take xn.toNat) 1)).toList == S.toList)) = true := by
          rw [← HS.out, toList_data, toList_data, bstr_list, bstr_list]
          simpa using heq
        have HQ := Lib.hid hqq
        generalize bstr (recB xi.toNat ver ((L.drop 12).take xn.toNat) 1) = U at hrec HQ
        unfold blkV at hrec
        generalize bstr ((L.drop 12).take xn.toNat) = D at hrec y2 hds hex ⊢
        clear hdl HEX HR heq hqq
        go_wp2_with fail
        refine hrec.mono ?_
        rintro e w2 ⟨rfl, hb2⟩
        have q0 := (hk0 0 hb2).trans z0
        have q1 := (hk0 1 hb2).trans z1
        have q2 := (hk0 2 hb2).trans z2
        have g0 := hf0 0 hb2
        have g1 := hf0 1 hb2
        have g2 := hf0 2 hb2
        have HBE := Lib.hid (hbW.trans (hb2.mono hbW.size))
        have hqq := HQ.out
        clear hrec hb2 hk1 hk0 hf0 hbW y0 y1 y2 z0 z1 z2
        go_wp2_with fail
        refine bodyPost_ret (v := .tuple #[blkZ, .bool false]) (by simp [results, Tryd.results155, go_sem, blkZ, q0, q1, q2]) rfl ?_
        exact ⟨by rw [HR2.out], ((HBE.out.setCell (Nat.le_refl _) _).setCell (Nat.le_refl _) _).setCell (Nat.le_refl _) _⟩
/-- What is a record; what is none: its first byte is another one. -/
theorem parse_rec (hT : Tabs w) (id ver : Nat) (d : List UInt8) (hi : id < 256) (hv0 : 1 ≤ ver) (hv : ver ≤ 1099511627776) (hd : d.length ≤ 16) :
    Calls Tryd.prog 155 #[.string (bstr (recB id ver d 1))] w fun e w' => e = .returned (.tuple #[blkV id ver (bstr d), .bool true]) ∧ Below w.heap.size w w' := by
  have e1 : (UInt8.ofNat id).toNat = id := by simp; omega
  have e2 : (UInt8.ofNat d.length).toNat = d.length := by simp; omega
  have hl8 := length_leN ver 8
  have hrec : recB id ver d 1 = UInt8.ofNat 1 :: UInt8.ofNat id :: (leN ver 8 ++ (UInt8.ofNat d.length :: 0 :: (d ++ (List.replicate (16 - d.length) 0 ++ lastB (recT id ver d))))) := by
    simp [recB, sealB, recT, List.append_assoc]
  have h1 : (recB id ver d 1)[1]? = some (UInt8.ofNat id) := by rw [hrec]; rfl
  have h10 : (recB id ver d 1)[10]? = some (UInt8.ofNat d.length) := by
    rw [hrec, List.getElem?_cons_succ, List.getElem?_cons_succ, List.getElem?_append_right (by omega), hl8]; rfl
  have h2 : ((recB id ver d 1).drop 2).take 8 = leN ver 8 := by rw [hrec]; simp [hl8]
  have h12 : ((recB id ver d 1).drop 12).take d.length = d := by
    rw [hrec, show (12 : Nat) = 2 + 8 + 2 by rfl, ← List.drop_drop, ← List.drop_drop]
    simp only [List.drop_succ_cons, List.drop_zero]
    rw [List.drop_left' hl8]
    simp
  have := parse_any hT (recB id ver d 1) (length_recB id ver d 1 hd) (UInt8.ofNat id) (UInt8.ofNat d.length) ver h1 h10 (by rw [h2]; exact leV_of (by omega))
  rw [e1, e2, h12, if_pos ⟨hd, hv, hv0, rfl⟩] at this
  exact this
theorem parse_bad (hT : Tabs w) (L : List UInt8) (hl : L.length = 32) (h0 : L[0]? ≠ some 1) :
    Calls Tryd.prog 155 #[.string (bstr L)] w fun e w' => e = .returned (.tuple #[blkZ, .bool false]) ∧ Below w.heap.size w w' := by
  obtain ⟨xi, h1⟩ : ∃ x, L[1]? = some x := ⟨_, List.getElem?_eq_getElem (by omega)⟩
  obtain ⟨xn, h10⟩ : ∃ x, L[10]? = some x := ⟨_, List.getElem?_eq_getElem (by omega)⟩
  have := parse_any hT L hl xi xn _ h1 h10 rfl
  rw [if_neg] at this
  · exact this
  · rintro ⟨_, _, _, h⟩
    rw [← h] at h0
    exact h0 rfl
end
end Go.Proofs.YtkbncbkmaakpkaaDoor
