/- The reference's map in memory: New, set, all, may, Is, Free. -/
import Derived.Test.YtajbodfdohhhoaaRxPlain
namespace Go.Proofs.Ytajbodfdohhhoaa
open Go.RowKit
theorem Try.infoBool : (Try.prog.info? 4).map (fun i => (i.zero, i.size, i.bytes)) = some (some (.bool false), 1, 1) := by kernel_rfl
/-- The reference's map at c, its Booleans at g. -/
structure RB (w : World) (c g N : Nat) (f : Nat → Bool) : Prop where
  c0 : w.cell? ⟨c, 0, none⟩ = some (.slice (some ⟨g, 0, none⟩) N N)
  cat : ∀ i, i < N → w.cell? ⟨g, i, none⟩ = some (.bool (f i))
  fro : ∀ o, w.frozen? ⟨g, o, none⟩ = false
  n1 : 1 ≤ N
  n2 : N ≤ 4096
  ne : c ≠ g
section
variable {w w' : World} {c g N : Nat} {f : Nat → Bool}
theorem RB.ltc (h : RB w c g N f) : c < w.heap.size := World.block_lt_of_cell? w _ h.c0
theorem RB.ltg (h : RB w c g N f) : g < w.heap.size := World.block_lt_of_cell? w _ (h.cat 0 h.n1)
theorem RB.keep (h : RB w c g N f) (h1 : w'.heap[c]? = w.heap[c]?) (h2 : w'.heap[g]? = w.heap[g]?) : RB w' c g N f :=
  ⟨(World.cell?_of_block (a := ⟨c, 0, none⟩) h1).trans h.c0, fun i hi => (World.cell?_of_block (a := ⟨g, i, none⟩) h2).trans (h.cat i hi), fun o => (World.frozen?_of_block (a := ⟨g, o, none⟩) h2).trans (h.fro o), h.n1, h.n2, h.ne⟩
theorem RB.below (h : RB w c g N f) (hb : Below w.heap.size w w') : RB w' c g N f := h.keep (hb.block c h.ltc) (hb.block g h.ltg)
theorem RB.same {f' : Nat → Bool} (h : RB w c g N f) (he : ∀ i, i < N → f i = f' i) : RB w c g N f' := ⟨h.c0, fun i hi => by rw [← he i hi]; exact h.cat i hi, h.fro, h.n1, h.n2, h.ne⟩
theorem RB.put (h : RB w c g N f) (i : Nat) (v : Bool) : RB (w.setCell ⟨g, i, none⟩ (.bool v)) c g N (fun j => if j = i then v else f j) := by
  refine ⟨?_, fun j hj => ?_, fun o => by rw [World.frozen?_setCell]; exact h.fro o, h.n1, h.n2, h.ne⟩
  · rw [World.cell?_setCell_other _ _ _ _ (by intro e; cases e; exact h.ne rfl)]; exact h.c0
  · by_cases hji : j = i
    · subst hji
      rw [if_pos rfl]
      exact World.cell?_setCell_same _ _ _ (h.cat j hj)
    · rw [if_neg hji, World.cell?_setCell_other _ _ _ _ (by intro e; cases e; exact hji rfl)]; exact h.cat j hj
set_option maxRecDepth 100000 in
set_option maxHeartbeats 2000000 in
theorem rnew_any (n : Int) : Calls Try.prog 18 #[.int .i64 n] w fun e w' => e = .returned (.pointer (some ⟨w.heap.size + 1, 0, none⟩)) ∧ RB w' (w.heap.size + 1) w.heap.size (nOf n).toNat (fun _ => true) ∧ Below w.heap.size w w' := by
  obtain ⟨i0, hi, hz, hs, hb⟩ := info_parts Try.infoBool
  have hn1 : 1 ≤ nOf n := by unfold nOf; omega
  have hn2 : nOf n ≤ 4096 := by unfold nOf; omega
  obtain ⟨N, hN⟩ := Int.eq_ofNat_of_zero_le (show 0 ≤ nOf n by omega)
  have hmn : ∀ (W : World), (Builtin.min_ #[3, 3] 3 #[.int .i64 n, .int .i64 4096]).run Try.prog W = .ok (.int .i64 (min n 4096)) W := by
    intro W
    rw [run_min_int2, show (if (4096 : Int) < n then (4096 : Int) else n) = min n 4096 by split <;> omega]
  have hmx : ∀ (W : World), (Builtin.max_ #[3, 3] 3 #[.int .i64 1, .int .i64 (min n 4096)]).run Try.prog W = .ok (.int .i64 (N : Int)) W := by
    intro W
    rw [run_max_int2, show (if (1 : Int) < min n 4096 then min n 4096 else 1) = (N : Int) by rw [← hN]; unfold nOf; split <;> omega]
  rw [hN] at hn1 hn2 ⊢
  rw [Int.toNat_natCast]
  generalize min n 4096 = mm at hmn hmx
  have Hi := Lib.hid hi
  have Hs := Lib.hid hs
  have Hb := Lib.hid (show i0.bytes * N ≤ 281474976710656 by rw [hb]; omega)
  have Hm := Lib.hid (show N ≤ maxLen by unfold maxLen; omega)
  have Hz := Lib.hid hz
  clear hi hs hb hz hN
  go_enter Try.func18, Try.ntmps18
  go_wp2_with (refine wpList_make_one rfl (.tmp 7) (.tmp 7) 55 rfl 4 i0 _ Try.underlying55 Hi.out Hz.out rfl Hs.out N rfl rfl Hb.out Hm.out ?_)
  have hs1 : (w.alloc (.cells (Array.replicate N (.bool false)) 4)).heap.size = w.heap.size + 1 := by simp
  have hR : RB ((w.alloc (.cells (Array.replicate N (.bool false)) 4)).alloc (.cells #[.slice (some ⟨w.heap.size, 0, none⟩) N N] 57)) (w.heap.size + 1) w.heap.size N (fun j => decide (j < 0)) := by
    refine ⟨by rw [← hs1, World.cell?_alloc_new]; rfl, fun j hj => ?_, fun o => ?_, by omega, by omega, by omega⟩
    · rw [World.cell?_alloc_lt _ _ _ (by simp), World.cell?_alloc_new, Array.getElem?_replicate, if_pos hj]; simp
    · have hf : (w.alloc (.cells (Array.replicate N (.bool false)) 4)).frozen? ⟨w.heap.size, o, none⟩ = false := World.frozen?_alloc_new _ _ _ _
      exact (World.frozen?_of_block (a := ⟨w.heap.size, o, none⟩) (Below.heap_alloc _ _ _ (by simp))).trans hf
  have hbA : Below w.heap.size w ((w.alloc (.cells (Array.replicate N (.bool false)) 4)).alloc (.cells #[.slice (some ⟨w.heap.size, 0, none⟩) N N] 57)) := ((Below.refl _ _).alloc (Nat.le_refl _) _).alloc (by simp) _
  have HR := Lib.hid hR
  have HbA := Lib.hid hbA
  clear hR hbA hs1
  generalize ((w.alloc (.cells (Array.replicate N (.bool false)) 4)).alloc (.cells #[.slice (some ⟨w.heap.size, 0, none⟩) N N] 57)) = W0 at HR HbA ⊢
  go_loopw [4] (fun i wr => ∃ k : Nat, k ≤ N ∧ i = .int .i64 (k : Int) ∧ RB wr (w.heap.size + 1) w.heap.size N (fun j => decide (j < k)) ∧ Below w.heap.size w wr) (fun i _ => N - (intOf i).toNat)
  case atStart => exact ⟨0, Nat.zero_le _, rfl, HR.out, HbA.out⟩
  case round =>
    clear HR HbA
    obtain ⟨k, hk, rfl, hr, hb⟩ := hrel
    have c0 := hr.c0
    by_cases hlt : k < N
    · have f0 := hr.fro k
      have z0 := hr.cat k hlt
      have hrp := (hr.put k true).same (f' := fun j => decide (j < k + 1)) fun j _ => by
        by_cases hj : j = k
        · rw [if_pos hj, decide_eq_true (by omega)]
        · rw [if_neg hj]; congr 1; simp; omega
      have HR := Lib.hid hrp
      have HB := Lib.hid (hb.setCell (p := ⟨w.heap.size, k, none⟩) (Nat.le_refl _) (.bool true))
      clear hr hb hrp
      go_wp2_with fail
      go_roundw
      case rel => exact ⟨k + 1, by omega, by go_num, HR.out, HB.out⟩
      case measure => simp [intOf]; omega
    · have HR := Lib.hid (hr.same (f' := fun _ => true) fun j hj => decide_eq_true (by omega))
      have HB := Lib.hid hb
      clear hr hb
      go_wp2_with fail
      go_ret
      exact ⟨rfl, HR.out, HB.out⟩
def setF (f : Nat → Bool) (lo hi : Int) (v : Bool) (j : Nat) : Bool := if lo ≤ (j : Int) ∧ (j : Int) < hi then v else f j
set_option maxRecDepth 100000 in
set_option maxHeartbeats 2000000 in
theorem rset_any (h : RB w c g N f) (r : Rg) (h0 : 0 ≤ r.lo) (h1 : r.hi ≤ N) (v : Bool) :
    Calls Try.prog 33 #[.pointer (some ⟨c, 0, none⟩), r.val, .bool v] w fun e w' => e = .returned (.tuple #[]) ∧ RB w' c g N (setF f r.lo r.hi v) ∧ Moves (fun q => q = g) w w' := by
  obtain ⟨lo', hi⟩ := r
  obtain ⟨lo, rfl⟩ := Int.eq_ofNat_of_zero_le h0
  dsimp only at h0 h1 ⊢
  have hn2 := h.n2
  have hcl := h.ltc
  have hgl := h.ltg
  have hug : w.heap.size ≠ g := by omega
  have huc : w.heap.size ≠ c := by omega
  have hbA : Below w.heap.size w (w.alloc (.cells #[.int .i64 (lo : Int), .int .i64 hi] 27)) := (Below.refl _ _).alloc (Nat.le_refl _) _
  have hbx : RBox (w.alloc (.cells #[.int .i64 (lo : Int), .int .i64 hi] 27)) w.heap.size ⟨lo, hi⟩ := RBox.made w ⟨lo, hi⟩ 27
  have HR := Lib.hid (h.below hbA)
  have Hbx := Lib.hid hbx
  have HM := Lib.hid (Moves.of_below (F := fun q => q = g) hbA)
  obtain ⟨-, x0, x1⟩ := hbx
  dsimp only at x0 x1
  clear hbA h
  go_enter Try.func33, Try.ntmps33
  unfold Rg.val
  go_wp2_with fail
  clear x0 x1
  generalize (w.alloc (.cells #[.int .i64 (lo : Int), .int .i64 hi] 27)) = W0 at HR Hbx HM ⊢
  go_loopw [6] (fun i wr => ∃ k : Nat, lo ≤ k ∧ ((k : Int) ≤ hi ∨ k = lo) ∧ i = .int .i64 (k : Int) ∧ RB wr c g N (fun j => if (lo : Int) ≤ (j : Int) ∧ j < k then v else f j) ∧ Moves (fun q => q = g) w wr ∧ RBox wr w.heap.size ⟨lo, hi⟩) (fun i _ => (hi - intOf i).toNat)
  case atStart => exact ⟨lo, Nat.le_refl _, .inr rfl, rfl, HR.out.same fun j _ => by rw [if_neg (by omega)], HM.out, Hbx.out⟩
  case round =>
    clear HR HM Hbx
    obtain ⟨k, hk0, hk1, rfl, hr, hm, hbx⟩ := hrel
    have c0 := hr.c0
    have x1 := hbx.2.2
    dsimp only at x1
    by_cases hlt : (k : Int) < hi
    · have e1 : decide ((k : Int) < hi) = true := by simpa using hlt
      have hkN : k < N := by omega
      have f0 := hr.fro k
      have z0 := hr.cat k hkN
      have hrp := (hr.put k v).same (f' := fun j => if (lo : Int) ≤ (j : Int) ∧ j < k + 1 then v else f j) fun j _ => by
        by_cases hj : j = k
        · rw [if_pos hj, if_pos (by omega)]
        · rw [if_neg hj]
          by_cases hj2 : (lo : Int) ≤ (j : Int) ∧ j < k
          · rw [if_pos hj2, if_pos (by omega)]
          · rw [if_neg hj2, if_neg (by omega)]
      have HR := Lib.hid hrp
      have HM := Lib.hid (hm.setCell ⟨g, k, none⟩ (.bool v) (.inl rfl))
      have HX := Lib.hid (hbx.keep (w' := wr.setCell ⟨g, k, none⟩ (.bool v)) (Below.heap_setCell _ _ _ _ hug) (by simp))
      have hw1 : IntKind.i64.wrap ((k : Int) + 1) = (k : Int) + 1 := by rw [IntKind.wrap_i64]; omega
      clear hr hm hbx hrp
      go_wp2_with fail
      go_roundw
      case rel => exact ⟨k + 1, by omega, by omega, by go_num, HR.out, HM.out, HX.out⟩
      case measure => simp [intOf]; omega
    · have e1 : decide ((k : Int) < hi) = false := by simpa using hlt
      have HR := Lib.hid (hr.same (f' := setF f lo hi v) fun j _ => by
        unfold setF
        by_cases hj : (lo : Int) ≤ (j : Int) ∧ j < k
        · rw [if_pos hj, if_pos (by omega)]
        · rw [if_neg hj, if_neg (by omega)])
      have HM := Lib.hid hm
      clear hr hm hbx
      go_wp2_with fail
      go_end0
      exact ⟨rfl, HR.out, HM.out⟩
/-- Are all of a range as one asks? -/
def allB (f : Nat → Bool) (lo hi : Int) (v : Bool) : Prop := ∀ j : Nat, lo ≤ (j : Int) → (j : Int) < hi → f j = v
def RAll (f : Nat → Bool) (lo hi : Int) (v : Bool) (w : World) (e : Ending) (w' : World) : Prop := ∃ x : Bool, e = .returned (.bool x) ∧ (x = true ↔ allB f lo hi v) ∧ Below w.heap.size w w'
set_option maxRecDepth 100000 in
set_option maxHeartbeats 2000000 in
theorem rall_any (h : RB w c g N f) (r : Rg) (h0 : 0 ≤ r.lo) (h1 : r.hi ≤ N) (v : Bool) :
    Calls Try.prog 35 #[.pointer (some ⟨c, 0, none⟩), r.val, .bool v] w (RAll f r.lo r.hi v w) := by
  obtain ⟨lo', hi⟩ := r
  obtain ⟨lo, rfl⟩ := Int.eq_ofNat_of_zero_le h0
  dsimp only at h0 h1 ⊢
  have hn2 := h.n2
  have hbA : Below w.heap.size w (w.alloc (.cells #[.int .i64 (lo : Int), .int .i64 hi] 27)) := (Below.refl _ _).alloc (Nat.le_refl _) _
  have hbx : RBox (w.alloc (.cells #[.int .i64 (lo : Int), .int .i64 hi] 27)) w.heap.size ⟨lo, hi⟩ := RBox.made w ⟨lo, hi⟩ 27
  have HR := Lib.hid (h.below hbA)
  have Hbx := Lib.hid hbx
  have HB := Lib.hid hbA
  obtain ⟨-, x0, x1⟩ := hbx
  dsimp only at x0 x1
  have hc0 := HR.out.c0
  clear hbA h
  go_enter Try.func35, Try.ntmps35
  unfold Rg.val
  go_wp2_with fail
  generalize (w.alloc (.cells #[.int .i64 (lo : Int), .int .i64 hi] 27)) = W0 at HR Hbx HB x0 x1 hc0 ⊢
  go_loop [7] (fun i => ∃ k : Nat, lo ≤ k ∧ ((k : Int) ≤ hi ∨ k = lo) ∧ i = .int .i64 (k : Int) ∧ Hid (allB f lo k v)) (fun i => (hi - intOf i).toNat)
  case atStart => exact ⟨lo, Nat.le_refl _, .inr rfl, rfl, Lib.hid fun j h1 h2 => by omega⟩
  case round =>
    obtain ⟨k, hk0, hk1, rfl, ha⟩ := hrel
    by_cases hlt : (k : Int) < hi
    · have e1 : decide ((k : Int) < hi) = true := by simpa using hlt
      have hkN : k < N := by omega
      have z0 := HR.out.cat k hkN
      have hw1 : IntKind.i64.wrap ((k : Int) + 1) = (k : Int) + 1 := by rw [IntKind.wrap_i64]; omega
      cases hx : (f k == v) with
      | false =>
        have hno : ¬ allB f lo hi v := fun hh => by
          have := hh k (by omega) hlt
          rw [this] at hx; simp at hx
        have Hno := Lib.hid hno
        generalize f k = fk at z0 hx
        clear hno
        go_wp2_with fail
        go_ret
        exact ⟨false, rfl, ⟨fun h => (by cases h), fun h => absurd h Hno.out⟩, HB.out⟩
      | true =>
        have ha2 : Hid (allB f lo ((k + 1 : Nat) : Int) v) := Lib.hid fun j j1 j2 => by
          by_cases hj : j = k
          · rw [hj]; simpa using hx
          · exact ha.out j j1 (by omega)
        generalize f k = fk at z0 hx
        go_wp2_with fail
        go_round
        case rel => exact ⟨k + 1, by omega, by omega, by go_num, ha2⟩
        case measure => simp [intOf]; omega
    · have e1 : decide ((k : Int) < hi) = false := by simpa using hlt
      go_wp2_with fail
      go_ret
      exact ⟨true, rfl, ⟨fun _ => fun j j1 j2 => ha.out j j1 (by omega), fun _ => rfl⟩, HB.out⟩
end
end Go.Proofs.Ytajbodfdohhhoaa
