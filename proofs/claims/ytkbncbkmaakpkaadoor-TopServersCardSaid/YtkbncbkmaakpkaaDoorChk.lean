/- Check, the program's and the reference's. Printed by gen_chk.py. -/
import Derived.Test.YtkbncbkmaakpkaaDoorMs
namespace Go.Proofs.YtkbncbkmaakpkaaDoor
open Go.RowKit
section
variable {w : World}
theorem check_nums {m : Ms} {c : Bool} (h : m.nums = c) : m.check = if c then (if 1024 < m.data.size then 11 else 0) else 1 := by rw [Ms.check, h]
theorem nums_of {m : Ms} {a b c d e f g : Bool} (ha : Ms.inB m.kind 255 = a) (hb : Ms.inB m.src 7 = b) (hc : Ms.inB m.dst 7 = c) (hd : Ms.inB m.epoch 1099511627776 = d) (he : Ms.inB m.seq 1099511627776 = e) (hf : Ms.inB m.off 256 = f) (hg : Ms.inB m.len 256 = g) :
    m.nums = (a && (b && c) && (d && e) && (f && g)) := by rw [Ms.nums, ha, hb, hc, hd, he, hf, hg]
set_option maxRecDepth 100000 in
set_option maxHeartbeats 1000000 in
theorem check_any (m : Ms) (hf : m.fits) : Calls Tryd.prog 53 #[m.val] w fun e w' => e = .returned (.int .i64 m.check) ∧ Below w.heap.size w w' := by
  have W1 : ∀ (w : World) (most a : Int) (b : Nat), w.cell? ⟨b, 0, none⟩ = some (.int .i64 a) → Calls Tryd.prog 102 #[.int .i64 most, .slice (some ⟨b, 0, none⟩) 1 1] w fun e w' => e = .returned (.bool (Ms.inB a most)) ∧ w = w' := fun w most a b h => by
    have := within_any most [a] b 1 (w := w) (fun i z hz => by
      match i with
      | 0 => simp at hz; subst hz; exact h
      | i + 1 => simp at hz) (Nat.le_add_left 1 999)
    simpa using this
  have W2 : ∀ (w : World) (most a c : Int) (b : Nat), w.cell? ⟨b, 0, none⟩ = some (.int .i64 a) → w.cell? ⟨b, 1, none⟩ = some (.int .i64 c) → Calls Tryd.prog 102 #[.int .i64 most, .slice (some ⟨b, 0, none⟩) 2 2] w fun e w' => e = .returned (.bool (Ms.inB a most && Ms.inB c most)) ∧ w = w' := fun w most a c b h h2 => by
    have := within_any most [a, c] b 2 (w := w) (fun i z hz => by
      match i with
      | 0 => simp at hz; subst hz; exact h
      | 1 => simp at hz; subst hz; exact h2
      | i + 2 => simp at hz) (Nat.le_add_left 2 998)
    simpa using this
  have H1 := Lib.hid W1
  have H2 := Lib.hid W2
  have hds := hf.2.2.2.2.2.2.2
  unfold maxLen at hds
  clear W1 W2 hf
  have hch : ∀ c, m.nums = c → m.check = if c then (if 1024 < m.data.size then 11 else 0) else 1 := fun c h => check_nums h
  have Hch := Lib.hid hch
  clear hch
  go_enter Tryd.func53, Tryd.ntmps53
  unfold Ms.val
  go_wp2_with fail
  refine (H1.out _ 255 m.kind _ (by go_simp)).mono ?_
  rintro e w1 ⟨rfl, rfl⟩
  cases h0 : (Ms.inB m.kind 255)
  · have G0 := Lib.hid h0
    have hc : Hid (m.check = 1) := Hch.out false (by simp only [Ms.nums, G0.out]; simp)
    clear h0
    go_wp2_with fail
    go_ret
    rw [hc.out]
    exact ⟨rfl, (by repeat (first | exact Below.refl _ _ | (refine Below.alloc ?_ (by simp <;> omega) _)))⟩
  · have G0 := Lib.hid h0
    clear h0
    go_wp2_with fail
    refine (H2.out _ 7 m.src m.dst _ (by go_simp) (by go_simp)).mono ?_
    rintro e w1 ⟨rfl, rfl⟩
    cases h1 : (Ms.inB m.src 7 && Ms.inB m.dst 7)
    · have G1 := Lib.hid h1
      have hc : Hid (m.check = 1) := Hch.out false (by simp only [Ms.nums, G0.out, G1.out]; simp)
      clear h1
      go_wp2_with fail
      go_ret
      rw [hc.out]
      exact ⟨rfl, (by repeat (first | exact Below.refl _ _ | (refine Below.alloc ?_ (by simp <;> omega) _)))⟩
    · have G1 := Lib.hid h1
      clear h1
      go_wp2_with fail
      refine (H2.out _ 1099511627776 m.epoch m.seq _ (by go_simp) (by go_simp)).mono ?_
      rintro e w1 ⟨rfl, rfl⟩
      cases h2 : (Ms.inB m.epoch 1099511627776 && Ms.inB m.seq 1099511627776)
      · have G2 := Lib.hid h2
        have hc : Hid (m.check = 1) := Hch.out false (by simp only [Ms.nums, G0.out, G1.out, G2.out]; simp)
        clear h2
        go_wp2_with fail
        go_ret
        rw [hc.out]
        exact ⟨rfl, (by repeat (first | exact Below.refl _ _ | (refine Below.alloc ?_ (by simp <;> omega) _)))⟩
      · have G2 := Lib.hid h2
        clear h2
        go_wp2_with fail
        refine (H2.out _ 256 m.off m.len _ (by go_simp) (by go_simp)).mono ?_
        rintro e w1 ⟨rfl, rfl⟩
        cases h3 : (Ms.inB m.off 256 && Ms.inB m.len 256)
        · have G3 := Lib.hid h3
          have hc : Hid (m.check = 1) := Hch.out false (by simp only [Ms.nums, G0.out, G1.out, G2.out, G3.out]; simp)
          clear h3
          go_wp2_with fail
          go_ret
          rw [hc.out]
          exact ⟨rfl, (by repeat (first | exact Below.refl _ _ | (refine Below.alloc ?_ (by simp <;> omega) _)))⟩
        · have G3 := Lib.hid h3
          clear h3
          have hn : Hid (m.nums = true) := by show _ = _; simp only [Ms.nums, G0.out, G1.out, G2.out, G3.out]; rfl
          by_cases hl : 1024 < m.data.size
          · have hl2 : (1024 : Int) < (m.data.size : Int) := by omega
            have hc : Hid (m.check = 11) := by show _ = _; rw [Hch.out true hn.out, if_pos rfl, if_pos hl]
            go_wp2_with fail
            go_ret
            rw [hc.out]
            exact ⟨rfl, (by repeat (first | exact Below.refl _ _ | (refine Below.alloc ?_ (by simp <;> omega) _)))⟩
          · have hl2 : ¬ (1024 : Int) < (m.data.size : Int) := by omega
            have hc : Hid (m.check = 0) := by show _ = _; rw [Hch.out true hn.out, if_pos rfl, if_neg hl]
            go_wp2_with fail
            go_ret
            rw [hc.out]
            exact ⟨rfl, (by repeat (first | exact Below.refl _ _ | (refine Below.alloc ?_ (by simp <;> omega) _)))⟩
end
end Go.Proofs.YtkbncbkmaakpkaaDoor
