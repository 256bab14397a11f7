/- The reference's Same, of equal rows; what is taken and given back, and what Alloc takes: the plain law of ExtentBack. -/
import Derived.Test.YtajbodfdohhhoaaExtS
namespace Go.Proofs.Ytajbodfdohhhoaa
open Go.RowKit
section
variable {w : World} {L : List Rg}
set_option maxRecDepth 100000 in
set_option maxHeartbeats 4000000 in
theorem same_any {v1 v2 : Value} (h1 : RowR w v1 L) (h2 : RowR w v2 L) (hl : L.length ≤ 10000) :
    Calls Try.prog 17 #[v1, v2] w fun e w' => e = .returned (.bool true) ∧ Below w.heap.size w w' := by
  have hr1 : ∀ wr, Below w.heap.size w wr → RowR wr v1 L := fun wr hb => h1.below hb
  have hr2 : ∀ wr, Below w.heap.size w wr → RowR wr v2 L := fun wr hb => h2.below hb
  obtain ⟨a1, cap1, rfl⟩ := h1.lens
  obtain ⟨a2, cap2, rfl⟩ := h2.lens
  have H1 := Lib.hid hr1
  have H2 := Lib.hid hr2
  clear hr1 hr2 h1 h2
  go_enter Try.func17, Try.ntmps17
  go_wp2_with fail
  go_loopw [5] (fun i wr => ∃ k : Nat, k ≤ L.length ∧ i = .int .i64 (k : Int) ∧ Below w.heap.size w wr) (fun i _ => L.length - (intOf i).toNat)
  case atStart => exact ⟨0, Nat.zero_le _, rfl, Below.refl _ _⟩
  case round =>
    obtain ⟨k, hk, rfl, hb⟩ := hrel
    by_cases hlt : k < L.length
    · obtain ⟨m, hm⟩ : ∃ m, L[k]? = some m := ⟨_, List.getElem?_eq_getElem hlt⟩
      obtain ⟨g1, c1, hv1, -, -, hc1⟩ := (H1.out wr hb).at hm
      obtain ⟨g2, c2, hv2, -, -, hc2⟩ := (H2.out wr hb).at hm
      simp only [Value.slice.injEq] at hv1 hv2
      obtain ⟨rfl, -, -⟩ := hv1
      obtain ⟨rfl, -, -⟩ := hv2
      have q0 := hc1 0 _ rfl
      have q1 := hc1 1 _ rfl
      have r0 := hc2 0 _ rfl
      have r1 := hc2 1 _ rfl
      rw [Nat.add_zero] at q0 r0
      have HB := Lib.hid hb
      clear hm hc1 hc2 hb
      go_wp2_with fail
      go_quiet (fail)
      have hb2 : Below w.heap.size w (wr.drewN nq) := HB.out.trans ⟨rfl, rfl, rfl, Nat.le_refl _, fun _ _ => rfl⟩
      clear q0 q1 r0 r1 HB
      go_wp2_with fail
      go_roundw
      case rel => exact ⟨k + 1, by omega, by go_num, hb2⟩
      case measure => simp [intOf]; omega
    · go_wp2_with fail
      go_ret
      exact ⟨rfl, hb⟩
end
section
variable {n : Int} {L : List Rg} {r : Rg}
theorem takeE_zero (h : Rises n (-1) L) (h0 : takeE n L r = 0) : mayE n r = 0 ∧ okT L r = true ∧ allIn L r.lo r.hi ∧ takeS n L r = takeR L r.lo r.hi := by
  by_cases hm : mayE n r = 0
  · obtain ⟨r0, r1, r2⟩ := mayE_zero hm
    by_cases ho : okT L r = true
    · exact ⟨hm, ho, (okT_iff h r0 r1).1 ho, by simp [takeS, hm, ho]⟩
    · simp [takeE, hm, ho] at h0
  · simp [takeE, hm] at h0
theorem takeE_more (h0 : takeE n L r ≠ 0) : takeS n L r = L := by
  by_cases hm : mayE n r = 0
  · by_cases ho : okT L r = true
    · exact absurd (by simp [takeE, hm, ho]) h0
    · simp [takeS, ho]
  · simp [takeS, hm]
theorem back_take (h : Rises n (-1) L) (h0 : takeE n L r = 0) :
    takeE n (takeS n L r) r = 4 ∧ takeS n (takeS n L r) r = takeS n L r ∧ giveE n (takeS n L r) r = 0 ∧ giveS n (takeS n L r) r = L ∧ giveE n L r = 3 ∧ giveS n L r = L := by
  obtain ⟨hm, ho, hall, hs⟩ := takeE_zero h h0
  obtain ⟨r0, r1, r2⟩ := mayE_zero hm
  obtain ⟨t1, t2⟩ := takeR_ok h r0 r1 hall
  have hno : noneIn (takeR L r.lo r.hi) r.lo r.hi := fun i hi1 hi2 => by rw [t2, decide_eq_true hi1, decide_eq_true hi2]; simp
  have k1 : okT (takeR L r.lo r.hi) r = false := by
    rw [Bool.eq_false_iff]
    intro hk
    have := (okT_iff t1 r0 r1).1 hk r.lo (by omega) r1
    rw [hno r.lo (by omega) r1] at this; cases this
  have k2 : okG (takeR L r.lo r.hi) r = true := (okG_iff t1 r0 r1).2 hno
  have k3 : okG L r = false := by
    rw [Bool.eq_false_iff]
    intro hk
    have := (okG_iff h r0 r1).1 hk r.lo (by omega) r1
    rw [hall r.lo (by omega) r1] at this; cases this
  rw [hs]
  refine ⟨by simp [takeE, hm, k1], by simp [takeS, k1], by simp [giveE, hm, k2], ?_, by simp [giveE, hm, k3], by simp [giveS, k3]⟩
  rw [giveS, if_pos ⟨hm, k2⟩, give_take h r0 r1 r2 hall]
theorem alloc_take {k : Int} (h : Rises n (-1) L) (h0 : allocE k L = 0) : takeE n L (allocR k L) = 0 ∧ allocL k L = takeS n L (allocR k L) ∧ (allocR k L).hi - (allocR k L).lo = k ∧ 0 ≤ (allocR k L).lo ∧ (allocR k L).hi ≤ n := by
  have hk : ¬ k < 1 := fun hk => by simp [allocE, hk] at h0
  cases hx : L[fitR k L]? with
  | none => simp [allocE, hk, hx] at h0
  | some x =>
    have hkx := fitR_at k L x hx
    have hxm := h.one (List.mem_of_getElem? hx)
    have e2 : allocR k L = ⟨x.lo, x.lo + k⟩ := by simp [allocR, hk, hx]
    have e3 : allocL k L = takeR L x.lo (x.lo + k) := by simp [allocL, hk, hx]
    have hall : allIn L x.lo (x.lo + k) := fun i h1 h2 => isIn_one (List.mem_of_getElem? hx) h1 (by omega)
    have hmz : mayE n ⟨x.lo, x.lo + k⟩ = 0 := by
      unfold mayE
      rw [if_neg (by show ¬ x.lo + k ≤ x.lo; omega), if_neg (by show ¬ (x.lo < 0 ∨ n < x.lo + k); omega)]
    have hok := (okT_iff (r := ⟨x.lo, x.lo + k⟩) h (by show 0 ≤ x.lo; omega) (by show x.lo < x.lo + k; omega)).2 hall
    rw [e2, e3]
    refine ⟨by simp [takeE, hmz, hok], by simp [takeS, hmz, hok], by show x.lo + k - x.lo = k; omega, by show 0 ≤ x.lo; omega, by show x.lo + k ≤ n; omega⟩
theorem alloc_more {k : Int} (h0 : allocE k L ≠ 0) : allocL k L = L := by
  by_cases hk : k < 1
  · simp [allocL, hk]
  · cases hx : L[fitR k L]? with
    | none => simp [allocL, hk, hx]
    | some x => exact absurd (by simp [allocE, hk, hx]) h0
end
section
variable {w0 wr w2 : World} {F G : Nat → Prop} {b : Nat} {n : Int} {L : List Rg}
theorem MS.fl (h : MS w0 F b n wr L) {k : Nat} (hk : F k) : k < wr.heap.size := h.choose_spec.2.2.2 k hk
theorem MS.also (h : MS w0 F b n wr L) (hb : Below wr.heap.size wr w2) (hG : ∀ k, G k → (F k ∨ wr.heap.size ≤ k) ∧ k < w2.heap.size) : MS w0 G b n w2 L := by
  obtain ⟨v, h1, h2, h3, h4⟩ := h
  refine ⟨v, h1.below hb, h2.trans (hb.mono h2.size), fun k hk => ⟨(h3 k hk).1, fun hg => ?_⟩, fun k hk => (hG k hk).2⟩
  rcases (hG k hg).1 with h5 | h5
  · exact (h3 k hk).2 h5
  · have := h1.lt k hk; omega
end
end Go.Proofs.Ytajbodfdohhhoaa
