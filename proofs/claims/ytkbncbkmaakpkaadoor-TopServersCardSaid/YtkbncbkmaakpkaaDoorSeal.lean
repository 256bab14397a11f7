/- The program's Seal and Open. -/
import Derived.Test.YtkbncbkmaakpkaaDoorCrc
namespace Go.Proofs.YtkbncbkmaakpkaaDoor
open Go.RowKit
/-- Bytes as a string. -/
def bstr (l : List UInt8) : ByteArray := ⟨l.toArray⟩
theorem bstr_size (l : List UInt8) : (bstr l).size = l.length := by simp [bstr, ByteArray.size]
theorem bstr_app (a b : List UInt8) : bstr a ++ bstr b = bstr (a ++ b) := by
  apply ByteArray.ext
  rw [ByteArray.data_append]
  simp [bstr]
theorem bstr_list (l : List UInt8) : (bstr l).data.toList = l := by simp [bstr]
theorem bstr_of (s : ByteArray) : bstr s.data.toList = s := by cases s; simp [bstr]
theorem bstr_extract (l : List UInt8) (i j : Nat) : (bstr l).extract i j = bstr ((l.drop i).take (j - i)) := by
  apply ByteArray.ext
  rw [ByteArray.data_extract]
  apply Array.toList_inj.1
  simp [bstr, List.extract_eq_take_drop]
section
variable {w : World}
set_option maxRecDepth 100000 in
theorem seal_any (ht : Tabs w) (l : List UInt8) (hl : l.length ≤ 1000000) :
    Calls Tryd.prog 50 #[.string (bstr l)] w fun e w' => e = .returned (.string (bstr (sealB l))) ∧ Below w.heap.size w w' := by
  have hs := bstr_size l
  have hla := last_any ht (bstr l) (by unfold maxLen; omega)
  rw [bstr_list] at hla
  have h1 := bstr_size (lastB l)
  rw [length_last] at h1
  have hap := bstr_app l (lastB l)
  change Calls _ _ _ _ (fun e w' => e = .returned (.string (bstr (lastB l))) ∧ Below w.heap.size w w') at hla
  have HA := Lib.hid hap
  generalize bstr (lastB l) = t at hla h1 HA
  generalize bstr l = s at hla hs HA ⊢
  have hc : ¬ 9223372036854775807 < s.size + t.size := by omega
  clear hap ht
  go_enter Tryd.func50, Tryd.ntmps50
  go_wp2_with fail
  refine hla.mono ?_
  rintro e w2 ⟨rfl, hb⟩
  have HB := Lib.hid hb
  clear hla hb
  go_wp2_with fail
  go_ret
  exact ⟨by rw [HA.out]; rfl, HB.out⟩
set_option maxRecDepth 100000 in
theorem open_ok (ht : Tabs w) (l : List UInt8) (hl : l.length ≤ 1000000) :
    Calls Tryd.prog 43 #[.string (bstr (sealB l))] w fun e w' => e = .returned (.tuple #[.string (bstr l), .bool true]) ∧ Below w.heap.size w w' := by
  have hs := bstr_size (sealB l)
  rw [length_seal] at hs
  have hx1 : (bstr (sealB l)).extract 0 l.length = bstr l := by rw [bstr_extract]; simp [sealB]
  have hx2 : (bstr (sealB l)).extract l.length (l.length + 4) = bstr (lastB l) := by rw [bstr_extract]; congr 1; simp [sealB]; exact List.take_of_length_le (by rw [length_last]; omega)
  have hla : ∀ W, Below w.heap.size w W → Calls Tryd.prog 94 #[.string (bstr l)] W fun e w' => e = .returned (.string (bstr (lastB l))) ∧ Below w.heap.size w w' := fun W hW => by
    have := last_any (ht.below hW ht.lt) (bstr l) (by rw [bstr_size]; unfold maxLen; omega)
    rw [bstr_list] at this
    exact this.mono fun e w' ⟨h1, h2⟩ => ⟨h1, hW.trans (h2.mono hW.size)⟩
  have HX1 := Lib.hid hx1
  have HX2 := Lib.hid hx2
  have HLA := Lib.hid hla
  generalize bstr (sealB l) = s at hs HX1 HX2 ⊢
  generalize bstr l = p at HX1 HLA ⊢
  generalize bstr (lastB l) = q at HX2 HLA
  have e1 : decide (((l.length + 4 : Nat) : Int) - 4 < 0) = false := by simp
  have hb0 : Below w.heap.size w w.drew := (Below.refl _ _).drew
  have hn1 : (l.length : Int) ≤ (l.length : Int) + 4 := by omega
  have hn2 : (0 : Int) ≤ (l.length : Int) := by omega
  have e2 : decide ((l.length : Int) < 0) = false := by simp
  clear hx1 hx2 hla ht
  go_enter Tryd.func43, Tryd.ntmps43
  go_wp2_with fail
  go_region_held3 (fun _ => True) (trivial) ((go_at_call 94; rw [HX1.out]; refine (HLA.out _ hb0).mono ?_; rintro e w2 ⟨rfl, hb2⟩))
  rw [HX2.out, show (!(q.toList == q.toList)) = false by simp]
  have HB2 := Lib.hid hb2
  clear hb2
  go_wp2_with fail
  go_ret2
  rw [HX1.out]
  exact ⟨rfl, HB2.out⟩
/-- A text that is no seal. -/
theorem toList_loop (bs : ByteArray) : ∀ (n i : Nat) (r : List UInt8), bs.size - i = n → ByteArray.toList.loop bs i r = r.reverse ++ bs.data.toList.drop i := by
  intro n
  induction n with
  | zero =>
    intro i r h
    unfold ByteArray.toList.loop
    rw [if_neg (by omega)]
    rw [List.drop_eq_nil_of_le (by have : bs.data.toList.length = bs.size := rfl; omega), List.append_nil]
  | succ n ih =>
    intro i r h
    unfold ByteArray.toList.loop
    have hi : i < bs.size := by omega
    rw [if_pos hi, ih (i + 1) _ (by omega)]
    have hl : i < bs.data.toList.length := hi
    rw [List.drop_eq_getElem_cons hl]
    have hg : bs.get! i = bs.data.toList[i] := by
      show bs.data[i]! = _
      rw [getElem!_pos bs.data i hi]
      rfl
    simp [hg]
theorem toList_data (bs : ByteArray) : bs.toList = bs.data.toList := by
  have := toList_loop bs bs.size 0 [] rfl
  simpa [ByteArray.toList] using this
set_option maxRecDepth 100000 in
theorem open_bad (ht : Tabs w) (l s : List UInt8) (hl : l.length ≤ 1000000) (hs4 : s.length = 4) (hne : s ≠ lastB l) :
    Calls Tryd.prog 43 #[.string (bstr (l ++ s))] w fun e w' => e = .returned (.tuple #[.string ⟨#[]⟩, .bool false]) ∧ Below w.heap.size w w' := by
  have hs := bstr_size (l ++ s)
  rw [List.length_append, hs4] at hs
  have hx1 : (bstr (l ++ s)).extract 0 l.length = bstr l := by rw [bstr_extract]; simp
  have hx2 : (bstr (l ++ s)).extract l.length (l.length + 4) = bstr s := by rw [bstr_extract]; congr 1; simp; exact List.take_of_length_le (by omega)
  have hla : ∀ W, Below w.heap.size w W → Calls Tryd.prog 94 #[.string (bstr l)] W fun e w' => e = .returned (.string (bstr (lastB l))) ∧ Below w.heap.size w w' := fun W hW => by
    have := last_any (ht.below hW ht.lt) (bstr l) (by rw [bstr_size]; unfold maxLen; omega)
    rw [bstr_list] at this
    exact this.mono fun e w' ⟨h1, h2⟩ => ⟨h1, hW.trans (h2.mono hW.size)⟩
  have hqq : ((bstr s).toList == (bstr (lastB l)).toList) = false := by
    rw [toList_data, toList_data, bstr_list, bstr_list]
    simpa using hne
  have HX1 := Lib.hid hx1
  have HX2 := Lib.hid hx2
  have HLA := Lib.hid hla
  generalize bstr (l ++ s) = x at hs HX1 HX2 ⊢
  generalize bstr l = p at HX1 HLA
  generalize bstr (lastB l) = q at hqq HLA
  generalize bstr s = q' at hqq HX2
  have HQ := Lib.hid (show (!(q'.toList == q.toList)) = true by rw [hqq]; rfl)
  have hb0 : Below w.heap.size w w.drew := (Below.refl _ _).drew
  have hn1 : (l.length : Int) ≤ (l.length : Int) + 4 := by omega
  have hn2 : (0 : Int) ≤ (l.length : Int) := by omega
  have e2 : decide ((l.length : Int) < 0) = false := by simp
  clear hx1 hx2 hla ht hqq
  go_enter Tryd.func43, Tryd.ntmps43
  go_wp2_with fail
  go_region_held3 (fun _ => True) (trivial) ((go_at_call 94; rw [HX1.out]; refine (HLA.out _ hb0).mono ?_; rintro e w2 ⟨rfl, hb2⟩))
  rw [HX2.out, HQ.out]
  have HB2 := Lib.hid hb2
  clear hb2
  go_wp2_with fail
  go_ret2
  exact ⟨rfl, HB2.out⟩
end
end Go.Proofs.YtkbncbkmaakpkaaDoor
