/- store.Value, store.Parse; clock.Margin; wire.Reply. -/
import Derived.Test.YtkbncbkmaakpkaaDoorFr
import Derived.Test.YtkbncbkmaakpkaaDoorChk
import Derived.Lib.MinMax
namespace Go.Proofs.YtkbncbkmaakpkaaDoor
open Go.RowKit
/-- A version and its data. -/
def encB (ver : Nat) (d : ByteArray) : List UInt8 := leN ver 8 ++ (leN d.size 2 ++ d.data.toList)
theorem encB_len (ver : Nat) (d : ByteArray) : (encB ver d).length = 10 + d.size := by
  have : d.data.toList.length = d.size := rfl
  simp only [encB, List.length_append, length_leN, this]; omega
section
variable {w : World}
set_option maxRecDepth 100000 in
set_option maxHeartbeats 1000000 in
theorem value_any (ver : Nat) (d : ByteArray) (hv : ver ≤ 1099511627776) (hd : d.size ≤ 16) :
    Calls Tryd.prog 34 #[.int .i64 (ver : Int), .string d] w fun e w' => e = .returned (.tuple #[.string (bstr (encB ver d)), .int .i64 0]) ∧ Below w.heap.size w w' := by
  have hnw := WS.new (wr := w) w (fun _ => False) (Below.refl _ _) (fun _ h => h.elim)
  have e1 : decide ((ver : Int) < 0) = false := by simp
  have e2 : decide ((1099511627776 : Int) < (ver : Int)) = false := by simp; omega
  have e3 : decide ((16 : Int) < (d.size : Int)) = false := by simp; omega
  go_enter Tryd.func34, Tryd.ntmps34
  go_wp2_with fail
  refine hnw.mono ?_
  rintro e w1 ⟨rfl, hs1, hb1⟩
  have hn := hs1.num (by simp) ver 8 (by omega) (by omega) (by omega)
  clear hnw hs1 hb1
  go_wp2_with fail
  refine hn.mono ?_
  rintro e w2 ⟨rfl, hs2, -⟩
  have ht := hs2.text (by simp [length_leN]) d (by omega)
  clear hn hs2
  go_wp2_with fail
  refine ht.mono ?_
  rintro e w3 ⟨rfl, hs3, -⟩
  have hby := hs3.bytes
  have HB := Lib.hid hs3.below
  rw [List.nil_append] at hby
  change Calls _ _ _ _ (fun e w' => e = .returned (.string (bstr (encB ver d))) ∧ w3 = w') at hby
  clear ht hs3
  go_wp2_with fail
  refine hby.mono ?_
  rintro e w4 ⟨rfl, rfl⟩
  clear hby
  go_wp2_with fail
  go_ret2
  exact ⟨rfl, HB.out⟩
set_option maxRecDepth 100000 in
set_option maxHeartbeats 1000000 in
theorem parseV_any (ver : Nat) (d : ByteArray) (hv : ver ≤ 1099511627776) (hd : d.size ≤ 16) :
    Calls Tryd.prog 157 #[.string (bstr (encB ver d))] w fun e w' => e = .returned (.tuple #[.int .i64 (ver : Int), .string d, .int .i64 0]) ∧ Below w.heap.size w w' := by
  have hnr := newreader_any (w := w) (encB ver d)
  have hl := encB_len ver d
  have h8 : leV (((encB ver d).drop 0).take 8) = ver := by
    rw [List.drop_zero]
    unfold encB
    rw [List.take_left' (length_leN _ _)]
    exact leV_of (by omega)
  have h2 : leV (((encB ver d).drop 8).take 2) = d.size := by
    unfold encB
    rw [List.drop_left' (length_leN _ _), List.take_left' (length_leN _ _)]
    exact leV_of (by omega)
  have h3 : ((encB ver d).drop (8 + 2)).take d.size = d.data.toList := by
    unfold encB
    rw [← List.drop_drop, List.drop_left' (length_leN _ _), List.drop_left' (length_leN _ _)]
    exact List.take_of_length_le (Nat.le_refl _)
  have e2 : decide ((1099511627776 : Int) < (ver : Int)) = false := by simp; omega
  have e3 : decide ((16 : Int) < (d.size : Int)) = false := by simp; omega
  go_enter Tryd.func157, Tryd.ntmps157
  go_wp2_with fail
  refine hnr.mono ?_
  rintro e w1 ⟨rfl, hr1, hb1⟩
  have hn := rnum8 hr1 (by omega) (by omega) (by rw [h8]; omega)
  rw [h8] at hn
  have HB1 := Lib.hid hb1
  clear hnr hr1 hb1 h8
  go_wp2_with fail
  refine hn.mono ?_
  rintro e w2 ⟨rfl, hr2, hm2⟩
  have ht := rtext hr2 (by omega) (by omega) d.size h2 (by omega) (by omega)
  rw [h3, bstr_of] at ht
  have hb2 := HB1.out.trans (hm2.below HB1.out.size fun k hk => by subst hk; exact Nat.le_refl _)
  have HB2 := Lib.hid hb2
  clear hn hr2 hm2 h2 h3 hb2
  go_wp2_with fail
  refine ht.mono ?_
  rintro e w3 ⟨rfl, hr3, hm3⟩
  have he := rend hr3 (by omega)
  have HB3 := Lib.hid (HB2.out.trans (hm3.below HB2.out.size fun k hk => by subst hk; exact Nat.le_refl _))
  clear ht hr3 hm3
  go_wp2_with fail
  refine he.mono ?_
  rintro e w4 ⟨rfl, hb4⟩
  have HB4 := Lib.hid (HB3.out.trans (hb4.mono HB3.out.size))
  clear he hb4
  go_wp2_with fail
  go_ret3
  exact ⟨rfl, HB4.out⟩
set_option maxRecDepth 100000 in
set_option maxHeartbeats 1000000 in
theorem clamp_any (n most : Int) : Calls Tryd.prog 93 #[.int .i64 n, .int .i64 most] w fun e w' => e = .returned (.int .i64 (max 0 (min n most))) ∧ w' = w := by
  go_enter Tryd.func93, Tryd.ntmps93
  go_wp2
  go_ret
  exact ⟨rfl, rfl⟩
set_option maxRecDepth 100000 in
set_option maxHeartbeats 1000000 in
theorem margin_any (a b : Nat) (ha : a < 256) (hb : b < 256) : Calls Tryd.prog 40 #[.int .i64 (a : Int), .int .i64 0, .int .i64 (b : Int)] w fun e w' => e = .returned (.int .i64 (max 0 ((a : Int) - (b : Int)))) ∧ w' = w := by
  have h1 := clamp_any (w := w) (a : Int) 1099511627776
  rw [show max 0 (min (a : Int) 1099511627776) = (a : Int) by omega] at h1
  have h2 := clamp_any (w := w) (b : Int) 1048576
  rw [show max 0 (min (b : Int) 1048576) = (b : Int) by omega] at h2
  have h3 := clamp_any (w := w) 0 1000
  rw [show max 0 (min (0 : Int) 1000) = 0 by omega] at h3
  have hd : (100 * ((a : Int) - (b : Int))).tdiv 100 = (a : Int) - (b : Int) := by rw [Int.mul_comm]; exact Int.mul_tdiv_cancel _ (by decide)
  go_enter Tryd.func40, Tryd.ntmps40
  go_wp2_with fail
  refine h1.mono ?_
  rintro e w1 ⟨rfl, rfl⟩
  clear h1
  go_wp2_with fail
  refine h2.mono ?_
  rintro e w1 ⟨rfl, rfl⟩
  clear h2
  go_wp2_with fail
  refine h3.mono ?_
  rintro e w1 ⟨rfl, rfl⟩
  clear h3
  go_wp2_with fail
  go_ret
  exact ⟨rfl, rfl⟩
set_option maxRecDepth 100000 in
set_option maxHeartbeats 1000000 in
theorem reply_any (m : Ms) (k : Int) : Calls Tryd.prog 86 #[m.val, .int .i64 k] w fun e w' => e = .returned (.agg #[.int .i64 k, .int .i64 m.dst, .int .i64 m.src, .int .i64 m.epoch, .int .i64 m.seq, .int .i64 0, .int .i64 0, .string ⟨#[]⟩]) ∧ Below w.heap.size w w' := by
  go_enter Tryd.func86, Tryd.ntmps86
  unfold Ms.val
  go_wp2_with fail
  refine bodyPost_ret (v := .agg #[.int .i64 k, .int .i64 m.dst, .int .i64 m.src, .int .i64 m.epoch, .int .i64 m.seq, .int .i64 0, .int .i64 0, .string ⟨#[]⟩]) (by simp [results, Tryd.results86, go_sem]) rfl ?_
  refine ⟨rfl, ?_⟩
  repeat' (first | exact Below.refl _ _ | refine Below.setCell ?_ (by simp; done) _ | refine Below.alloc ?_ (by simp; done) _)
end
end Go.Proofs.YtkbncbkmaakpkaaDoor
