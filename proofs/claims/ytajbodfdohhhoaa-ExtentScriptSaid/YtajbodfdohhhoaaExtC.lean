/- IndexFunc at the map's closures; DeleteFunc of two ranges. -/
import Derived.Test.YtajbodfdohhhoaaExtBlk
namespace Go.Proofs.Ytajbodfdohhhoaa
open Go.RowKit
def empR (r : Rg) : Bool := decide (r.hi ≤ r.lo)
def fitsR (k : Int) (r : Rg) : Bool := decide (k ≤ r.hi - r.lo)
/-- The place of the first one as wished. -/
def idxF (p : Rg → Bool) : List Rg → Nat
  | [] => 0
  | r :: L => if p r then 0 else idxF p L + 1
theorem idxF_eq (p : Rg → Bool) : ∀ (L : List Rg) (i : Nat), i ≤ L.length → (∀ j x, j < i → L[j]? = some x → p x = false) → (∀ x, L[i]? = some x → p x = true) → idxF p L = i
  | [], i, hi, _, _ => by simp at hi; subst hi; rfl
  | r :: L, 0, _, _, h2 => by rw [idxF, if_pos (h2 r rfl)]
  | r :: L, i + 1, hi, h1, h2 => by
    rw [idxF, h1 0 r (by omega) rfl, if_neg (by simp), idxF_eq p L i (by simpa using hi) (fun j x hj hx => h1 (j + 1) x (by omega) (by simpa using hx)) (fun x hx => h2 x (by simpa using hx))]
theorem idxF_fit (k : Int) : ∀ L, idxF (fitsR k) L = fitR k L
  | [] => rfl
  | r :: L => by
    rw [idxF, fitR, idxF_fit k L, fitsR]
    by_cases h : k ≤ r.hi - r.lo
    · rw [decide_eq_true h, if_pos rfl, if_pos h]
    · rw [decide_eq_false h, if_neg (by simp), if_neg h]
def idxI (i : Nat) (n : Nat) : Int := if i < n then (i : Int) else -1
section
variable {w : World}
set_option maxRecDepth 100000 in
theorem put1_any (r : Rg) : Calls Try.prog 42 #[r.val] w fun e w' => e = .returned (.bool (empR r)) ∧ Below w.heap.size w w' := by
  go_enter Try.func42, Try.ntmps42
  unfold Rg.val
  go_wp2_with fail
  go_ret
  exact ⟨rfl, (Below.refl _ _).alloc (Nat.le_refl _) _⟩
set_option maxRecDepth 100000 in
theorem alloc1_any (W : World) (kb : Nat) (k : Int) (r : Rg) (hr : 0 ≤ r.lo ∧ r.lo < r.hi ∧ r.hi ≤ 4096) (hk : W.cell? ⟨kb, 0, none⟩ = some (.int .i64 k)) :
    Calls Try.prog 26 #[r.val, .pointer (some ⟨kb, 0, none⟩)] W fun e w' => e = .returned (.bool (fitsR k r)) ∧ Below W.heap.size W w' := by
  have hkl := World.block_lt_of_cell? W _ hk
  obtain ⟨h1, h2, h3⟩ := hr
  go_enter Try.func26, Try.ntmps26
  unfold Rg.val
  go_wp2_with fail
  go_ret
  exact ⟨rfl, (Below.refl _ _).alloc (Nat.le_refl _) _⟩
end
--IDX
section
variable {w : World}
set_option maxRecDepth 100000 in
set_option maxHeartbeats 2000000 in
theorem idx_emp {v : Value} {L : List Rg} (h : RowR w v L) (hl : L.length ≤ 10000)  :
    Calls Try.prog 25 #[v, .func (.func 42) #[] #[]] w fun e w' => e = .returned (.int .i64 (idxI (idxF empR L) L.length)) ∧ Below w.heap.size w w' := by
  have hro : ∀ wr, Below w.heap.size w wr → RowR wr v L := fun wr hb => h.below hb
  obtain ⟨a, cap, rfl⟩ := h.lens
  have Hro := Lib.hid hro
  clear h hro
  go_enter Try.func25, Try.ntmps25
  go_wp2_with fail
  go_loopw [8] (fun i wr => ∃ k : Nat, k ≤ L.length ∧ i = .int .i64 (k : Int) ∧ Below w.heap.size w wr ∧ Hid (∀ j x, j < k → L[j]? = some x → empR x = false)) (fun i _ => L.length - (intOf i).toNat)
  case atStart => exact ⟨0, Nat.zero_le _, rfl, Below.refl _ _, Lib.hid (fun j x h => by omega)⟩
  case round =>
    obtain ⟨k, hk, rfl, hb, H1⟩ := hrel
    by_cases hlt : k < L.length
    · obtain ⟨r, hr⟩ : ∃ r, L[k]? = some r := ⟨_, List.getElem?_eq_getElem hlt⟩
      obtain ⟨g, cap', hv, hg, -, hc⟩ := (Hro.out _ hb).at hr
      simp only [Value.slice.injEq, true_and] at hv
      obtain ⟨rfl, rfl⟩ := hv
      have q0 := hc 0 _ rfl
      rw [Nat.add_zero] at q0
      have q1 := hc 1 _ rfl
      have hca := put1_any (w := wr) r
      unfold Rg.val at hca
      have HB := Lib.hid hb
      cases hp : empR r
      · rw [hp] at hca
        have H2 : Hid (∀ j x, j < k + 1 → L[j]? = some x → empR x = false) := Lib.hid (fun j x hj hx => by
          rcases Nat.lt_or_ge j k with h | h
          · exact H1.out j x h hx
          · obtain rfl : j = k := by omega
            rw [hr] at hx; cases hx; exact hp)
        clear hr hc hb H1 hp
        go_wp2_with fail
        refine hca.mono ?_
        rintro e w2 ⟨rfl, hb2⟩
        have HB2 := Lib.hid (HB.out.trans (hb2.mono HB.out.size))
        clear hca hb2 q0 q1
        go_wp2_with fail
        go_roundw
        case rel => exact ⟨k + 1, by omega, by go_num, HB2.out, H2⟩
        case measure => simp [intOf]; omega
      · rw [hp] at hca
        have hix : idxI (idxF empR L) L.length = (k : Int) := by
          rw [idxF_eq empR L k hk H1.out (fun x hx => by rw [hr] at hx; cases hx; exact hp)]; exact if_pos hlt
        have Hix := Lib.hid hix
        clear hr hc hb H1 hp hix
        go_wp2_with fail
        refine hca.mono ?_
        rintro e w2 ⟨rfl, hb2⟩
        have HB2 := Lib.hid (HB.out.trans (hb2.mono HB.out.size))
        clear hca hb2 q0 q1
        go_wp2_with fail
        go_ret
        rw [Hix.out]
        exact ⟨rfl, HB2.out⟩
    · have hix : idxI (idxF empR L) L.length = -1 := by
        rw [idxF_eq empR L k hk H1.out (fun x hx => by have := (List.getElem?_eq_some_iff.1 hx).1; omega)]; exact if_neg hlt
      have Hix := Lib.hid hix
      have HB := Lib.hid hb
      clear hix hb H1
      go_wp2_with fail
      go_ret
      rw [Hix.out]
      exact ⟨rfl, HB.out⟩
end
section
variable {w : World}
set_option maxRecDepth 100000 in
set_option maxHeartbeats 2000000 in
theorem idx_fit {v : Value} {L : List Rg} (h : RowR w v L) (hl : L.length ≤ 10000) (hin : ∀ r ∈ L, 0 ≤ r.lo ∧ r.lo < r.hi ∧ r.hi ≤ 4096) (kb : Nat) (kk : Int) (hkk : w.cell? ⟨kb, 0, none⟩ = some (.int .i64 kk)) :
    Calls Try.prog 25 #[v, .func (.func 26) #[] #[.pointer (some ⟨kb, 0, none⟩)]] w fun e w' => e = .returned (.int .i64 (idxI (idxF (fitsR kk) L) L.length)) ∧ Below w.heap.size w w' := by
  have hro : ∀ wr, Below w.heap.size w wr → RowR wr v L := fun wr hb => h.below hb
  have hkw : ∀ wr, Below w.heap.size w wr → wr.cell? ⟨kb, 0, none⟩ = some (.int .i64 kk) := fun wr hb => (World.cell?_of_block (a := ⟨kb, 0, none⟩) (hb.block kb (World.block_lt_of_cell? w _ hkk))).trans hkk
  have Hkw := Lib.hid hkw
  have Hin := Lib.hid hin
  clear hkw hin hkk
  obtain ⟨a, cap, rfl⟩ := h.lens
  have Hro := Lib.hid hro
  clear h hro
  go_enter Try.func25, Try.ntmps25
  go_wp2_with fail
  go_loopw [8] (fun i wr => ∃ k : Nat, k ≤ L.length ∧ i = .int .i64 (k : Int) ∧ Below w.heap.size w wr ∧ Hid (∀ j x, j < k → L[j]? = some x → (fitsR kk) x = false)) (fun i _ => L.length - (intOf i).toNat)
  case atStart => exact ⟨0, Nat.zero_le _, rfl, Below.refl _ _, Lib.hid (fun j x h => by omega)⟩
  case round =>
    obtain ⟨k, hk, rfl, hb, H1⟩ := hrel
    by_cases hlt : k < L.length
    · obtain ⟨r, hr⟩ : ∃ r, L[k]? = some r := ⟨_, List.getElem?_eq_getElem hlt⟩
      obtain ⟨g, cap', hv, hg, -, hc⟩ := (Hro.out _ hb).at hr
      simp only [Value.slice.injEq, true_and] at hv
      obtain ⟨rfl, rfl⟩ := hv
      have q0 := hc 0 _ rfl
      rw [Nat.add_zero] at q0
      have q1 := hc 1 _ rfl
      have hca := alloc1_any wr kb kk r (Hin.out r (List.mem_of_getElem? hr)) (Hkw.out wr hb)
      unfold Rg.val at hca
      have HB := Lib.hid hb
      cases hp : (fitsR kk) r
      · rw [hp] at hca
        have H2 : Hid (∀ j x, j < k + 1 → L[j]? = some x → (fitsR kk) x = false) := Lib.hid (fun j x hj hx => by
          rcases Nat.lt_or_ge j k with h | h
          · exact H1.out j x h hx
          · obtain rfl : j = k := by omega
            rw [hr] at hx; cases hx; exact hp)
        clear hr hc hb H1 hp
        go_wp2_with fail
        refine hca.mono ?_
        rintro e w2 ⟨rfl, hb2⟩
        have HB2 := Lib.hid (HB.out.trans (hb2.mono HB.out.size))
        clear hca hb2 q0 q1
        go_wp2_with fail
        go_roundw
        case rel => exact ⟨k + 1, by omega, by go_num, HB2.out, H2⟩
        case measure => simp [intOf]; omega
      · rw [hp] at hca
        have hix : idxI (idxF (fitsR kk) L) L.length = (k : Int) := by
          rw [idxF_eq (fitsR kk) L k hk H1.out (fun x hx => by rw [hr] at hx; cases hx; exact hp)]; exact if_pos hlt
        have Hix := Lib.hid hix
        clear hr hc hb H1 hp hix
        go_wp2_with fail
        refine hca.mono ?_
        rintro e w2 ⟨rfl, hb2⟩
        have HB2 := Lib.hid (HB.out.trans (hb2.mono HB.out.size))
        clear hca hb2 q0 q1
        go_wp2_with fail
        go_ret
        rw [Hix.out]
        exact ⟨rfl, HB2.out⟩
    · have hix : idxI (idxF (fitsR kk) L) L.length = -1 := by
        rw [idxF_eq (fitsR kk) L k hk H1.out (fun x hx => by have := (List.getElem?_eq_some_iff.1 hx).1; omega)]; exact if_neg hlt
      have Hix := Lib.hid hix
      have HB := Lib.hid hb
      clear hix hb H1
      go_wp2_with fail
      go_ret
      rw [Hix.out]
      exact ⟨rfl, HB.out⟩
end
end Go.Proofs.Ytajbodfdohhhoaa
