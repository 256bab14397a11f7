/- The map's New, Is, Free, List, may. -/
import Derived.Test.YtajbodfdohhhoaaExtA
namespace Go.Proofs.Ytajbodfdohhhoaa
open Go.RowKit
/-- A row of its own, appended onto a row of its own: either may be empty. -/
theorem wpList_append_rowsR {P : Program} {w : World} {ops : Array Oper} {rest : List Oper} {o : Oper} {a : Act} {Q : Exit → Act → World → Prop} (hgd : o.guard = none) (s x : Operand) (t : TypeId)
    (ho : o.op = .call { callee := .builtin .append, args := #[s, x], argTypes := #[t, t] })
    (base : Nat) (e : TypeId) (i : TypeInfo) (z : Value) (size bytes : Nat) (ht : P.underlying t = some (.slice e)) (hi : P.info? e = some i) (hz : i.zero = some z)
    (hsize : i.size = size) (hby : i.bytes = bytes) (hzs : z.cells.size = size) (hsz : 0 < size)
    (v : Value) (n : Nat) (xs : List Value) (hs : a.eval s = v) (hown : w.ownsRow base e size v n xs)
    (u : Value) (b2 m : Nat) (news : List Value) (hx : a.eval x = u) (hu : w.ownsRow b2 e size u m news) (h1 : ∀ q ∈ news, q.oneCell' = true)
    (h63 : n + m ≤ maxLen) (hbytes : (n + m) * bytes ≤ 140737488355328) (hbase : base ≤ w.heap.size)
    (h : ∀ v' w', w'.ownsRow base e size v' (n + m) (xs ++ news) → w.grownBy w' v.ownBlock → (v'.ownBlock = v.ownBlock ∨ v'.ownBlock = some w.heap.size) → wpList P ops Q rest (a.put o.dst v') w') :
    wpList P ops Q (o :: rest) a w := by
  rcases hu.2 with ⟨rfl, rfl⟩ | ⟨g, cap, cur, rfl, _, _, _, _, _, _⟩
  · have hn : news = [] := List.length_eq_zero_iff.1 (by have := hu.1; simpa using this)
    subst hn
    refine wpList_append_own_none hgd s x t ho base e i size ht hi v n xs hs hown hx (h v w ?_ ⟨rfl, rfl, rfl, Nat.le_refl _, fun _ _ _ => rfl⟩ (.inl rfl))
    simpa using hown
  · exact wpList_append_own_at w hgd s x t ho base e i z size bytes ht hi hz hsize hby hzs hsz v n xs hs hown ⟨g, 0, none⟩ m cap news hx hu.1 (hu.cells rfl) h1 h63 hbytes hbase fun v' w' h2 h3 _ h5 => h v' w' h2 h3 h5
section
variable {w : World}
def nOf (n : Int) : Int := max 1 (min n 4096)
set_option maxRecDepth 100000 in
set_option maxHeartbeats 1000000 in
theorem mnew_any (n : Int) : Calls Try.prog 9 #[.int .i64 n] w fun e w' => e = .returned (.pointer (some ⟨w.heap.size + 1, 0, none⟩)) ∧ IsMap w' (w.heap.size + 1) (nOf n) (.slice (some ⟨w.heap.size, 0, none⟩) 1 1) [⟨0, nOf n⟩] ∧ Below w.heap.size w w' := by
  have hmn : ∀ (W : World), (Builtin.min_ #[3, 3] 3 #[.int .i64 n, .int .i64 4096]).run Try.prog W = .ok (.int .i64 (min n 4096)) W := by
    intro W
    rw [run_min_int2, show (if (4096 : Int) < n then (4096 : Int) else n) = min n 4096 by split <;> omega]
  have hmx : ∀ (W : World), (Builtin.max_ #[3, 3] 3 #[.int .i64 1, .int .i64 (min n 4096)]).run Try.prog W = .ok (.int .i64 (nOf n)) W := by
    intro W
    rw [run_max_int2, show (if (1 : Int) < min n 4096 then min n 4096 else 1) = nOf n by unfold nOf; split <;> omega]
  have hn1 : 1 ≤ nOf n := by unfold nOf; omega
  have hn2 : nOf n ≤ 4096 := by unfold nOf; omega
  generalize nOf n = m at hmx hn1 hn2 ⊢
  generalize min n 4096 = mm at hmn hmx
  go_enter Try.func9, Try.ntmps9
  go_wp2_with fail
  go_ret
  refine ⟨rfl, ?_, ((Below.refl _ _).alloc (Nat.le_refl _) _).alloc (by simp) _⟩
  have hs : (w.alloc (.cells #[.int .i64 0, .int .i64 m] 27)).heap.size = w.heap.size + 1 := by simp
  have hro : RowR (w.alloc (.cells #[.int .i64 0, .int .i64 m] 27)) (.slice (some ⟨w.heap.size, 0, none⟩) 1 1) [⟨0, m⟩] := World.ownsRow_lit (base := 0) (size := 2) (e := 27) w #[.int .i64 0, .int .i64 m] 1 (Nat.zero_le _) (by unfold maxLen; omega) rfl
  refine ⟨?_, ?_, hro.alloc _, fun o => ?_, by simp [Value.ownBlock], hn1, hn2, ⟨by show (-1 : Int) < 0; omega, by show (0 : Int) < m; omega, Int.le_refl _, trivial⟩⟩
  · rw [← hs, World.cell?_alloc_new]; rfl
  · rw [← hs, World.cell?_alloc_new]; rfl
  · rw [← hs]; exact World.frozen?_alloc_new _ _ _ _
/-- Is: what it tells. -/
theorem isIn_at {n : Int} {L : List Rg} (h : Rises n (-1) L) (i : Int) : isIn L i = true ↔ ∃ x, L[atR i L]? = some x ∧ x.lo ≤ i := by
  obtain ⟨p1, p2⟩ := atR_part i L
  constructor
  · intro hi
    rcases hx : L[atR i L]? with _ | x
    · have hl : atR i L = L.length := Nat.le_antisymm (atR_le i L) (List.getElem?_eq_none_iff.1 hx)
      rw [hl, List.take_length] at p1
      have h1 := (h.mem hi)
      have := endOf_le (c := -1) (i := i) (P := L) (by omega) p1
      omega
    · refine ⟨x, rfl, ?_⟩
      have e := part_at hx
      generalize L.take (atR i L) = P at e p1
      generalize L.drop (atR i L + 1) = S at e
      subst e
      obtain ⟨hr1, hr2⟩ := (rises_app n P _ (-1)).1 h
      have h0 := (h.mem hi).1
      have hend : endOf (-1) P ≤ i := endOf_le (by omega) p1
      rw [isIn_app, hr1.not_end hend, Bool.false_or] at hi
      rcases (isIn_cons _ _ _).1 hi with h1 | h1
      · exact h1.1
      · have := (hr2.2.2.2.mem h1).1
        have := p2 x (by assumption)
        omega
  · rintro ⟨x, hx, hlo⟩
    rw [part_at hx, isIn_app_iff]
    exact .inr ((isIn_cons _ _ _).2 (.inl ⟨hlo, p2 x hx⟩))
set_option maxRecDepth 100000 in
set_option maxHeartbeats 1000000 in
theorem mis_any {b : Nat} {n : Int} {v : Value} {L : List Rg} (h : IsMap w b n v L) (i : Int) :
    Calls Try.prog 15 #[.pointer (some ⟨b, 0, none⟩), .int .i64 i] w fun e w' => e = .returned (.bool (isIn L i)) ∧ Below w.heap.size w w' := by
  have c0 := h.c0
  have hn2 := h.n2
  by_cases h0 : i < 0
  · have e0 : decide (i < 0) = true := by simpa using h0
    have hI : isIn L i = false := h.rise.not_mem (by omega)
    rw [hI]
    clear hI h
    go_enter Try.func15, Try.ntmps15
    go_wp2_with fail
    go_ret
    exact ⟨rfl, Below.refl _ _⟩
  · have e0 : decide (i < 0) = false := by simpa using h0
    by_cases h1 : n ≤ i
    · have e1 : decide (n ≤ i) = true := by simpa using h1
      have hI : isIn L i = false := by
        cases hb : isIn L i
        · rfl
        · have := (h.rise.mem hb).2.2; omega
      rw [hI]
      clear hI h
      go_enter Try.func15, Try.ntmps15
      go_wp2_with fail
      go_ret
      exact ⟨rfl, Below.refl _ _⟩
    · have e1 : decide (n ≤ i) = false := by simpa using h1
      have hat := mat_any h i (by omega) (by omega)
      have hia := isIn_at h.rise i
      have hal := atR_le i L
      have hll := h.len
      generalize hk : atR i L = k at hat hia hal
      have Hh := Lib.hid h
      clear hk
      by_cases hkl : k < L.length
      · obtain ⟨x, hx⟩ : ∃ x, L[k]? = some x := ⟨_, List.getElem?_eq_getElem hkl⟩
        have e2 : decide ((k : Int) < (L.length : Int)) = true := by simpa using hkl
        have hI : isIn L i = decide (x.lo ≤ i) := by
          rw [Bool.eq_iff_iff, hia, decide_eq_true_eq]
          exact ⟨fun ⟨y, h1, h2⟩ => by rw [hx] at h1; cases h1; exact h2, fun h2 => ⟨x, hx, h2⟩⟩
        rw [hI]
        have Hx := Lib.hid hx
        clear hI hia hx h
        go_enter Try.func15, Try.ntmps15
        go_wp2_with fail
        refine hat.mono ?_
        rintro e w2 ⟨rfl, hb2⟩
        have h2 := Hh.out.below hb2
        have d1 := h2.c1
        obtain ⟨g, cap, rfl, hg, -, hc⟩ := h2.row.at Hx.out
        have q0 := hc 0 _ rfl
        rw [Nat.add_zero] at q0
        clear hat h2 hc c0
        go_wp2_with fail
        go_ret
        exact ⟨rfl, hb2⟩
      · have e2 : decide ((k : Int) < (L.length : Int)) = false := by simpa using hkl
        have hI : isIn L i = false := by
          rw [Bool.eq_false_iff, ne_eq, hia]
          rintro ⟨y, h1, _⟩
          have := (List.getElem?_eq_some_iff.1 h1).1
          omega
        rw [hI]
        clear hI hia h
        go_enter Try.func15, Try.ntmps15
        go_wp2_with fail
        refine hat.mono ?_
        rintro e w2 ⟨rfl, hb2⟩
        have h2 := Hh.out.below hb2
        have d1 := h2.c1
        obtain ⟨a, cap, rfl⟩ := h2.row.lens
        clear hat h2 c0
        go_wp2_with fail
        go_ret
        exact ⟨rfl, hb2⟩
set_option maxRecDepth 100000 in
set_option maxHeartbeats 1000000 in
theorem mfree_any {b : Nat} {n : Int} {v : Value} {L : List Rg} (h : IsMap w b n v L) :
    Calls Try.prog 12 #[.pointer (some ⟨b, 0, none⟩)] w fun e w' => e = .returned (.int .i64 (sumR L)) ∧ Below w.heap.size w w' := by
  have c1 := h.c1
  have hll := h.len
  have hn1 := h.n1
  have hn2 := h.n2
  have hrow : ∀ wr, Below w.heap.size w wr → RowR wr v L := fun wr hb => h.row.below hb
  have hsum : ∀ k r, L[k]? = some r → 0 ≤ r.lo ∧ r.lo < r.hi ∧ r.hi ≤ 4096 ∧ 0 ≤ sumR (L.take k) ∧ sumR (L.take k) ≤ 4097 ∧ sumR (L.take (k + 1)) = sumR (L.take k) + (r.hi - r.lo) := fun k r hk => by
    have e := part_at hk
    have hr := h.rise
    rw [e] at hr
    obtain ⟨r1, r2, r3, r4, -⟩ := (rises_app n _ _ (-1)).1 hr
    have s1 := r1.sum (by omega)
    have s2 := r1.end_ge
    have e2 : L.take (k + 1) = L.take k ++ [r] := by rw [List.take_add_one, hk]; rfl
    refine ⟨by omega, r3, by omega, s1.1, by omega, ?_⟩
    rw [e2, sumR_app]; simp only [sumR]; omega
  obtain ⟨a, cap, rfl⟩ := h.row.lens
  have Hrow := Lib.hid hrow
  have Hsum := Lib.hid hsum
  clear hrow hsum h
  go_enter Try.func12, Try.ntmps12
  go_wp2_with fail
  go_loopw [3, 11] (fun c i wr => ∃ k : Nat, k ≤ L.length ∧ i = .int .i64 (k : Int) ∧ c = .int .i64 (sumR (L.take k)) ∧ Below w.heap.size w wr) (fun _ i _ => L.length - (intOf i).toNat)
  case atStart => exact ⟨0, Nat.zero_le _, rfl, rfl, Below.refl _ _⟩
  case round =>
    obtain ⟨k, hk, rfl, rfl, hb⟩ := hrel
    by_cases hlt : k < L.length
    · obtain ⟨r, hr⟩ : ∃ r, L[k]? = some r := ⟨_, List.getElem?_eq_getElem hlt⟩
      obtain ⟨s1, s2, s3, s4, s5, s6⟩ := Hsum.out k r hr
      obtain ⟨g, cap', hv, hg, -, hc⟩ := (Hrow.out _ hb).at hr
      simp only [Value.slice.injEq, true_and] at hv
      obtain ⟨rfl, rfl⟩ := hv
      have q0 := hc 0 _ rfl
      rw [Nat.add_zero] at q0
      have q1 := hc 1 _ rfl
      have HB := Lib.hid (hb.alloc hb.size (.cells r.cells.toArray 27))
      have H6 := Lib.hid s6
      clear hr hc s6 hb
      go_wp2_with fail
      go_roundw
      case rel => exact ⟨k + 1, by omega, by go_num, by rw [H6.out], HB.out⟩
      case measure => simp [intOf]; omega
    · have et : L.take k = L := List.take_of_length_le (by omega)
      rw [et]
      have HB := Lib.hid hb
      clear et hb
      go_wp2_with fail
      go_ret
      exact ⟨rfl, HB.out⟩
set_option maxRecDepth 100000 in
set_option maxHeartbeats 1000000 in
theorem rclone_any {L : List Rg} {v : Value} (h : RowR w v L) (hl : L.length ≤ 10000) :
    Calls Try.prog 32 #[v] w fun e w' => ∃ v', e = .returned v' ∧ w'.ownsRow w.heap.size 27 2 v' L.length (rrows L) ∧ Below w.heap.size w w' := by
  obtain ⟨i0, hi0, hz0, hz1, hz2⟩ := info_parts Try.infoRg
  have Hi := Lib.hid hi0
  have Hz := Lib.hid hz0
  have Hz1 := Lib.hid hz1
  have Hz2 := Lib.hid hz2
  clear hi0 hz0 hz1 hz2
  rcases h.nil_or with ⟨rfl, rfl⟩ | ⟨g, cap, rfl, hg, -⟩
  · clear h
    have hnil := fun W => Lib.run_eql_slice_nil_nil (P := Try.prog) W 0 0 Try.underlying25
    go_enter Try.func32, Try.ntmps32
    go_wp2_with fail
    go_ret
    exact ⟨_, rfl, World.ownsRow_nil _ _ _ _, Below.refl _ _⟩
  · have hoA := World.ownsRow.alloc h (.cells #[] 27)
    have hown0 : (w.alloc (.cells #[] 27)).ownsRow w.heap.size 27 2 (.slice (some ⟨w.heap.size, 0, none⟩) 0 0) 0 [] := World.ownsRow_lit (base := w.heap.size) (size := 2) (e := 27) w #[] 0 (Nat.le_refl _) (by unfold maxLen; omega) rfl
    have hml : 0 + L.length ≤ maxLen := by unfold maxLen; omega
    have hbs : w.heap.size ≤ (w.alloc (.cells #[] 27)).heap.size := by simp
    have hnil := fun W => Lib.run_eql_slice_some_nil (P := Try.prog) W ⟨g, 0, none⟩ L.length cap Try.underlying25
    go_enter Try.func32, Try.ntmps32
    go_wp2_with (refine wpList_append_rowsR rfl (.tmp 5) (.tmp 6) 25 rfl w.heap.size 27 i0 _ 2 16 Try.underlying25 Hi.out Hz.out Hz1.out Hz2.out rfl (by decide) _ 0 [] rfl hown0 (.slice (some ⟨g, 0, none⟩) L.length cap) 0 L.length (rrows L) rfl hoA (one_rrows _) hml (by omega) hbs ?_)
    intro v' w1 hown1 hgrow hat
    have hb1 : Below w.heap.size w w1 := ⟨hgrow.os, hgrow.tape, hgrow.output, by have := hgrow.size; simp at this; omega, fun k hk => (hgrow.block k (by simp; omega) (by simp only [Value.ownBlock, ne_eq, Option.some.injEq]; omega)).trans (Below.heap_alloc _ _ _ hk)⟩
    have H1 := Lib.hid hown1
    clear hown1 hgrow hat hoA hown0
    go_wp2_with fail
    go_ret
    exact ⟨_, rfl, by simpa using H1.out, hb1⟩
set_option maxRecDepth 100000 in
set_option maxHeartbeats 1000000 in
theorem mlist_any {b : Nat} {n : Int} {v : Value} {L : List Rg} (h : IsMap w b n v L) :
    Calls Try.prog 16 #[.pointer (some ⟨b, 0, none⟩)] w fun e w' => ∃ v', e = .returned v' ∧ w'.ownsRow w.heap.size 27 2 v' L.length (rrows L) ∧ Below w.heap.size w w' := by
  have c1 := h.c1
  have hc := rclone_any h.row (by have := h.len; omega)
  clear h
  go_enter Try.func16, Try.ntmps16
  go_wp2_with fail
  refine hc.mono ?_
  rintro e w1 ⟨v', rfl, h1, h2⟩
  have H1 := Lib.hid h1
  clear h1 hc
  go_wp2_with fail
  go_ret
  exact ⟨_, rfl, H1.out, h2⟩
def mayE (n : Int) (r : Rg) : Int := if r.hi ≤ r.lo then 1 else if r.lo < 0 ∨ n < r.hi then 71 else 0
set_option maxRecDepth 100000 in
set_option maxHeartbeats 1000000 in
theorem may_any {b : Nat} {n : Int} {v : Value} {L : List Rg} (h : IsMap w b n v L) (r : Rg) :
    Calls Try.prog 27 #[.pointer (some ⟨b, 0, none⟩), r.val] w fun e w' => e = .returned (.int .i64 (mayE n r)) ∧ Below w.heap.size w w' := by
  have hA := h.alloc (.cells r.cells.toArray 27)
  have hlt := h.lt b (.inl rfl)
  have c0 := h.c0
  have hbA : Below w.heap.size w (w.alloc (.cells r.cells.toArray 27)) := (Below.refl _ _).alloc (Nat.le_refl _) _
  have HbA := Lib.hid hbA
  clear hA h hbA
  by_cases h1 : r.hi ≤ r.lo
  · have e : mayE n r = 1 := if_pos h1
    rw [e]
    clear e
    go_enter Try.func27, Try.ntmps27
    unfold Rg.val
    go_wp2_with fail
    go_ret
    exact ⟨rfl, HbA.out⟩
  · by_cases h2 : r.lo < 0
    · have e : mayE n r = 71 := by rw [mayE, if_neg h1, if_pos (.inl h2)]
      have e2 : decide (r.lo < 0) = true := by simpa using h2
      rw [e]
      clear e
      go_enter Try.func27, Try.ntmps27
      unfold Rg.val
      go_wp2_with fail
      go_quiet (fail)
      go_wp2_with fail
      go_ret
      exact ⟨rfl, HbA.out.trans ⟨rfl, rfl, rfl, Nat.le_refl _, fun _ _ => rfl⟩⟩
    · have e2 : decide (r.lo < 0) = false := by simpa using h2
      by_cases h3 : n < r.hi
      · have e : mayE n r = 71 := by rw [mayE, if_neg h1, if_pos (.inr h3)]
        have e3 : decide (n < r.hi) = true := by simpa using h3
        rw [e]
        clear e
        go_enter Try.func27, Try.ntmps27
        unfold Rg.val
        go_wp2_with fail
        go_quiet (fail)
        go_wp2_with fail
        go_ret
        exact ⟨rfl, HbA.out.trans ⟨rfl, rfl, rfl, Nat.le_refl _, fun _ _ => rfl⟩⟩
      · have e : mayE n r = 0 := by rw [mayE, if_neg h1, if_neg (by omega)]
        have e3 : decide (n < r.hi) = false := by simpa using h3
        rw [e]
        clear e
        go_enter Try.func27, Try.ntmps27
        unfold Rg.val
        go_wp2_with fail
        go_quiet (fail)
        go_wp2_with fail
        go_ret
        exact ⟨rfl, HbA.out.trans ⟨rfl, rfl, rfl, Nat.le_refl _, fun _ _ => rfl⟩⟩
end
end Go.Proofs.Ytajbodfdohhhoaa
