/- The map's at (a binary search), New, Is, Free, List, may. -/
import Derived.Test.YtajbodfdohhhoaaExtMem
namespace Go.Proofs.Ytajbodfdohhhoaa
open Go.RowKit
def cmpI (x y : Int) : Int := if x < y then -1 else if y < x then 1 else 0
theorem Rises.mono {n : Int} : ∀ {L : List Rg} {c : Int} {i j : Nat} {x y : Rg}, Rises n c L → i ≤ j → L[i]? = some x → L[j]? = some y → x.hi ≤ y.hi ∧ c < x.hi
  | [], _, i, _, x, _, _, _, h, _ => by simp at h
  | r :: L, c, 0, 0, x, y, h, _, hx, hy => by
    simp at hx hy; subst hx; subst hy
    exact ⟨Int.le_refl _, by have := h.1; have := h.2.1; omega⟩
  | r :: L, c, 0, j + 1, x, y, h, _, hx, hy => by
    simp at hx; subst hx
    have := (Rises.mono (i := j) (j := j) h.2.2.2 (Nat.le_refl _) (by simpa using hy) (by simpa using hy)).2
    exact ⟨by omega, by have := h.1; have := h.2.1; omega⟩
  | r :: L, c, i + 1, 0, x, y, h, hij, hx, hy => by omega
  | r :: L, c, i + 1, j + 1, x, y, h, hij, hx, hy => by
    have := Rises.mono (i := i) (j := j) h.2.2.2 (by omega) (by simpa using hx) (by simpa using hy)
    exact ⟨this.1, by have := h.1; have := h.2.1; omega⟩
theorem atR_eq (t : Int) : ∀ (L : List Rg) (i : Nat), i ≤ L.length → (∀ j x, j < i → L[j]? = some x → x.hi ≤ t) → (∀ x, L[i]? = some x → t < x.hi) → atR t L = i
  | [], i, hi, _, _ => by simp at hi; subst hi; rfl
  | r :: L, 0, _, _, h2 => by
    have := h2 r rfl
    rw [atR, if_neg (by omega)]
  | r :: L, i + 1, hi, h1, h2 => by
    have h0 := h1 0 r (by omega) rfl
    rw [atR, if_pos h0, atR_eq t L i (by simpa using hi) (fun j x hj hx => h1 (j + 1) x (by omega) (by simpa using hx)) (fun x hx => h2 x (by simpa using hx))]
section
variable {w : World}
set_option maxRecDepth 100000 in
theorem nan_any (x : Int) : Calls Try.prog 44 #[.int .i64 x] w fun e w' => e = .returned (.bool false) ∧ w = w' := by
  go_enter Try.func44, Try.ntmps44
  go_wp2_with fail
  go_ret
  exact ⟨rfl, rfl⟩
set_option maxRecDepth 100000 in
theorem cmp_any (x y : Int) : Calls Try.prog 38 #[.int .i64 x, .int .i64 y] w fun e w' => e = .returned (.int .i64 (cmpI x y)) ∧ w = w' := by
  by_cases h1 : x < y
  · have e : Hid (cmpI x y = -1) := if_pos h1
    go_enter Try.func38, Try.ntmps38
    go_wp2_with (go_at_call 44; refine (nan_any _).mono ?_; rintro e w' ⟨rfl, rfl⟩)
    go_ret
    rw [e.out]
    exact ⟨rfl, rfl⟩
  · by_cases h2 : y < x
    · have e : Hid (cmpI x y = 1) := by show _ = _; rw [cmpI, if_neg h1, if_pos h2]
      go_enter Try.func38, Try.ntmps38
      go_wp2_with (go_at_call 44; refine (nan_any _).mono ?_; rintro e w' ⟨rfl, rfl⟩)
      go_ret
      rw [e.out]
      exact ⟨rfl, rfl⟩
    · have e : Hid (cmpI x y = 0) := by show _ = _; rw [cmpI, if_neg h1, if_neg h2]
      go_enter Try.func38, Try.ntmps38
      go_wp2_with (go_at_call 44; refine (nan_any _).mono ?_; rintro e w' ⟨rfl, rfl⟩)
      go_ret
      rw [e.out]
      exact ⟨rfl, rfl⟩
set_option maxRecDepth 100000 in
theorem at1_any (r : Rg) (t : Int) : Calls Try.prog 37 #[r.val, .int .i64 t] w fun e w' => e = .returned (.int .i64 (cmpI r.hi t)) ∧ Below w.heap.size w w' := by
  go_enter Try.func37, Try.ntmps37
  unfold Rg.val
  go_wp2_with fail
  refine (cmp_any _ _).mono ?_
  rintro e w' ⟨rfl, rfl⟩
  go_wp2_with fail
  go_ret
  exact ⟨rfl, (Below.refl _ _).alloc (Nat.le_refl _) _⟩
/-- What the search tells of where it stands. -/
def Found (L : List Rg) (t : Int) (w : World) (e : Ending) (w' : World) : Prop := ∃ B : Bool, e = .returned (.tuple #[.int .i64 (atR (t - 1) L : Int), .bool B]) ∧ Below w.heap.size w w'
set_option maxRecDepth 100000 in
set_option maxHeartbeats 2000000 in
theorem bsearch_any {v : Value} {L : List Rg} {n : Int} (h : RowR w v L) (hr : Rises n (-1) L) (hl : L.length ≤ 5000) (t : Int) :
    Calls Try.prog 36 #[v, .int .i64 t, .func (.func 37) #[] #[]] w (Found L t w) := by
  have hro : ∀ wr, Below w.heap.size w wr → RowR wr v L := fun wr hb => h.below hb
  obtain ⟨a, cap, rfl⟩ := h.lens
  have Hro := Lib.hid hro
  have Hr := Lib.hid hr
  clear h hro hr
  go_enter Try.func36, Try.ntmps36
  go_wp2_with fail
  go_loopw [9, 10] (fun i j wr => ∃ (x y : Nat), x ≤ y ∧ y ≤ L.length ∧ i = .int .i64 (x : Int) ∧ j = .int .i64 (y : Int) ∧ Below w.heap.size w wr ∧ Hid (∀ k r, k < x → L[k]? = some r → r.hi ≤ t - 1) ∧ Hid (∀ k r, y ≤ k → L[k]? = some r → t - 1 < r.hi)) (fun i j _ => (intOf j - intOf i).toNat)
  case atStart => exact ⟨0, L.length, Nat.zero_le _, Nat.le_refl _, rfl, rfl, Below.refl _ _, Lib.hid (fun k r h => by omega), Lib.hid (fun k r h h2 => by have := (List.getElem?_eq_some_iff.1 h2).1; omega)⟩
  case round =>
    obtain ⟨x, y, hxy, hyl, rfl, rfl, hb, H1, H2⟩ := hrel
    by_cases hlt : x < y
    · obtain ⟨z, hz⟩ : ∃ z : Nat, z = (x + y) / 2 := ⟨_, rfl⟩
      have hmid : ((x : Int) + (y : Int)) / 2 = (z : Int) := by omega
      have hxz : x ≤ z := by omega
      have hzy : z < y := by omega
      obtain ⟨r, hzr⟩ : ∃ r, L[z]? = some r := ⟨_, List.getElem?_eq_getElem (by omega)⟩
      obtain ⟨g, cap', hv, hg, -, hc⟩ := (Hro.out _ hb).at hzr
      simp only [Value.slice.injEq, true_and] at hv
      obtain ⟨rfl, rfl⟩ := hv
      have q0 := hc 0 _ rfl
      rw [Nat.add_zero] at q0
      have q1 := hc 1 _ rfl
      have hca := at1_any (w := wr) r t
      unfold Rg.val at hca
      by_cases hlo : r.hi < t
      · rw [show cmpI r.hi t = -1 from if_pos hlo] at hca
        have H1' := Lib.hid (show ∀ k s, k < z + 1 → L[k]? = some s → s.hi ≤ t - 1 from fun k s hk hs => by have := (Hr.out.mono (by omega : k ≤ z) hs hzr).1; omega)
        have HB := Lib.hid hb
        clear hz hc hzr hlo hb H1
        go_wp2_with fail
        refine hca.mono ?_
        rintro e w2 ⟨rfl, hb2⟩
        have HB2 := Lib.hid (HB.out.trans (hb2.mono HB.out.size))
        clear hca hb2 q0 q1
        go_wp2_with fail
        go_roundw
        case rel => exact ⟨z + 1, y, by omega, hyl, by go_num, rfl, HB2.out, H1', H2⟩
        case measure => simp [intOf]; omega
      · have hcs : cmpI r.hi t = 0 ∨ cmpI r.hi t = 1 := by unfold cmpI; rw [if_neg hlo]; split <;> simp
        have hcb : decide (cmpI r.hi t < 0) = false := by rcases hcs with h | h <;> rw [h] <;> rfl
        have H2' := Lib.hid (show ∀ k s, z ≤ k → L[k]? = some s → t - 1 < s.hi from fun k s hk hs => by have := (Hr.out.mono hk hzr hs).1; omega)
        have HB := Lib.hid hb
        generalize cmpI r.hi t = cc at hca hcb
        clear hz hc hzr hlo hb H2 hcs
        go_wp2_with fail
        refine hca.mono ?_
        rintro e w2 ⟨rfl, hb2⟩
        have HB2 := Lib.hid (HB.out.trans (hb2.mono HB.out.size))
        clear hca hb2 q0 q1
        go_wp2_with fail
        go_roundw
        case rel => exact ⟨x, z, by omega, by omega, rfl, rfl, HB2.out, H1, H2'⟩
        case measure => simp [intOf]; omega
    · obtain rfl : x = y := by omega
      have hat : atR (t - 1) L = x := atR_eq (t - 1) L x hyl H1.out (fun r hr => H2.out x r (Nat.le_refl _) hr)
      have Hat := Lib.hid hat
      clear hat H1 H2
      by_cases hxl : x < L.length
      · have e1 : decide ((x : Int) < (L.length : Int)) = true := by simpa using hxl
        obtain ⟨r, hzr⟩ : ∃ r, L[x]? = some r := ⟨_, List.getElem?_eq_getElem hxl⟩
        obtain ⟨g, cap', hv, hg, -, hc⟩ := (Hro.out _ hb).at hzr
        simp only [Value.slice.injEq, true_and] at hv
        obtain ⟨rfl, rfl⟩ := hv
        have q0 := hc 0 _ rfl
        rw [Nat.add_zero] at q0
        have q1 := hc 1 _ rfl
        have hca := at1_any (w := wr) r t
        unfold Rg.val at hca
        generalize cmpI r.hi t = cc at hca
        have HB := Lib.hid hb
        clear hc hzr hb
        go_wp2_with fail
        refine hca.mono ?_
        rintro e w2 ⟨rfl, hb2⟩
        have HB2 := Lib.hid (HB.out.trans (hb2.mono HB.out.size))
        clear hca hb2 q0 q1
        go_wp2_with fail
        go_ret2
        exact ⟨(cc == 0), by rw [Hat.out]; rfl, HB2.out⟩
      · have e1 : decide ((x : Int) < (L.length : Int)) = false := by simpa using hxl
        have HB := Lib.hid hb
        clear hb
        go_wp2_with fail
        go_ret2
        exact ⟨false, by rw [Hat.out]; rfl, HB.out⟩
set_option maxRecDepth 100000 in
set_option maxHeartbeats 1000000 in
theorem mat_any {b : Nat} {n : Int} {v : Value} {L : List Rg} (h : IsMap w b n v L) (i : Int) (h0 : 0 ≤ i) (h1 : i ≤ 5000) :
    Calls Try.prog 28 #[.pointer (some ⟨b, 0, none⟩), .int .i64 i] w fun e w' => e = .returned (.int .i64 (atR i L : Int)) ∧ Below w.heap.size w w' := by
  have c1 := h.c1
  have hbs := bsearch_any h.row h.rise h.len (i + 1)
  unfold Found at hbs
  rw [show i + 1 - 1 = i by omega] at hbs
  clear h
  go_enter Try.func28, Try.ntmps28
  go_wp2_with fail
  refine hbs.mono ?_
  rintro e w2 ⟨B, rfl, hb2⟩
  clear hbs
  go_wp2_with fail
  go_ret
  exact ⟨rfl, hb2⟩
end
end Go.Proofs.Ytajbodfdohhhoaa
