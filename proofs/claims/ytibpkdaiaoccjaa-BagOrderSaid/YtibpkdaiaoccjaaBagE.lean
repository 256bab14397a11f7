/- The bag's Drop, Cut, Late, Twice. -/
import Derived.Test.YtibpkdaiaoccjaaBagD
namespace Go.Proofs.Ytibpkdaiaoccjaa
open Go.RowKit
theorem Turned.more {w w1 w2 : World} {b : Nat} {v : Value} {l' : List Ms} (hT : Turned w b v l' w1) (hb : Below w1.heap.size w1 w2) : Turned w b v l' w2 := by
  obtain ⟨v', hh, m, hf, ho⟩ := hT
  exact ⟨v', hh.below hb, m.trans (Moves.of_below (F := fun _ => False) hb) (fun _ h => h.elim), hf, fun o h => (World.cell?_of_block (a := ⟨b, o, none⟩) (hb.block b (hh.lt b (.inl rfl)))).trans (ho o h)⟩
/-- A turn, and what may follow it. -/
theorem IsBag.turned {w w1 : World} {b : Nat} {v : Value} {l l' : List Ms} (h : IsBag w b v l) (hT : Turned w b v l' w1) : ∃ v1, IsBag w1 b v1 l' ∧ ∀ l2 w2, Turned w1 b v1 l2 w2 → Turned w b v l2 w2 := by
  obtain ⟨v', hh, m, hf, ho⟩ := hT
  exact ⟨v', ⟨hh, (ho 1 (by decide)).trans h.most⟩, fun l2 w2 h2 => Turned.trans m hf ho h2⟩
theorem atM_mem {l : List Ms} {i : Int} (h : atB l i = true) : atM l i ∈ l ∧ (l.eraseIdx i.toNat).length + 1 = l.length := by
  unfold atB at h
  simp at h
  obtain ⟨n, rfl⟩ := Int.eq_ofNat_of_zero_le h.1
  have hn : n < l.length := by omega
  refine ⟨?_, ?_⟩
  · rw [atM, if_pos h.1]
    simp [List.getD_eq_getElem?_getD, List.getElem?_eq_getElem hn]
  · simp only [Int.toNat_natCast]
    rw [List.length_eraseIdx_of_lt hn]; omega
def takeL (l : List Ms) (i : Int) : List Ms := if atB l i then l.eraseIdx i.toNat else l
def lateL (l : List Ms) (i : Int) : List Ms := if atB l i then l.eraseIdx i.toNat ++ [atM l i] else l
def twiceE (l : List Ms) (i : Int) : Int := if atB l i then (if l.length < 64 then 0 else 2) else 3
def twiceL (l : List Ms) (i : Int) : List Ms := if atB l i ∧ l.length < 64 then l ++ [atM l i] else l
section
variable {w : World} {b : Nat} {v : Value} {l : List Ms}
set_option maxRecDepth 100000 in
set_option maxHeartbeats 1000000 in
theorem bdrop_any (hbag : IsBag w b v l) (hl : l.length ≤ 64) (i : Int) :
    Calls Try.prog 22 #[.pointer (some ⟨b, 0, none⟩), .int .i64 i] w fun e w' => e = .returned (.int .i64 (if atB l i then 0 else 3)) ∧ Turned w b v (takeL l i) w' := by
  have hd := take_any hbag hl i
  rw [← takeL] at hd
  generalize takeL l i = l2 at hd ⊢
  generalize (if atB l i = true then (0 : Int) else 3) = ee at hd ⊢
  generalize atM l i = M at hd
  unfold Ms.val at hd
  go_enter Try.func22, Try.ntmps22
  go_wp2_with fail
  refine hd.mono ?_
  rintro e w1 ⟨rfl, hT⟩
  clear hd
  have HT := Lib.hid hT
  clear hT
  go_wp2_with fail
  go_ret
  exact ⟨rfl, HT.out.more ((Below.refl _ _).alloc (Nat.le_refl _) _)⟩
set_option maxRecDepth 100000 in
set_option maxHeartbeats 1000000 in
theorem bcut_any (hbag : IsBag w b v l) (hl : l.length ≤ 64) (z : Int) :
    Calls Try.prog 19 #[.pointer (some ⟨b, 0, none⟩), .int .i64 z] w fun e w' => e = .returned (.int .i64 ((l.length : Int) - ((keepL (wishOf z) 0 l).length : Int))) ∧ Turned w b v (keepL (wishOf z) 0 l) w' := by
  have hbA : Below w.heap.size w (w.alloc (.cells #[.int .i64 z] 3)) := (Below.refl _ _).alloc (Nat.le_refl _) _
  have hd := drop_cut (hbag.has.below hbA) (by omega) w.heap.size z (wishOf z) (by rw [World.cell?_alloc_new]; rfl) (fun W k m hk _ => cut1_any W w.heap.size z k m hk)
  have HbA := Lib.hid hbA
  clear hbA
  go_enter Try.func19, Try.ntmps19
  go_wp2_with fail
  refine hd.mono ?_
  rintro e w1 ⟨rfl, hT⟩
  have HT := Lib.hid (Turned.after hbag.has HbA.out hT)
  clear hT hd
  go_wp2_with fail
  go_ret
  exact ⟨rfl, HT.out⟩
set_option maxRecDepth 100000 in
set_option maxHeartbeats 1000000 in
theorem late_any (hbag : IsBag w b v l) (hl : l.length ≤ 64) (i : Int) :
    Calls Try.prog 20 #[.pointer (some ⟨b, 0, none⟩), .int .i64 i] w fun e w' => e = .returned (.int .i64 (if atB l i then 0 else 3)) ∧ Turned w b v (lateL l i) w' := by
  have hd := take_any hbag hl i
  cases hB : atB l i
  · have e1 : lateL l i = l := by rw [lateL, hB]; rfl
    rw [hB] at hd
    rw [e1]
    generalize atM l i = M at hd
    unfold Ms.val at hd
    clear e1 hB
    go_enter Try.func20, Try.ntmps20
    go_wp2_with fail
    refine hd.mono ?_
    rintro e w1 ⟨rfl, hT⟩
    have HT := Lib.hid hT
    clear hd hT
    go_wp2_with fail
    go_ret
    exact ⟨rfl, HT.out.more ((Below.refl _ _).alloc (Nat.le_refl _) _)⟩
  · obtain ⟨hmem, hlen⟩ := atM_mem hB
    have e1 : lateL l i = l.eraseIdx i.toNat ++ [atM l i] := by rw [lateL, hB]; rfl
    have hMf := hbag.has.fits _ hmem
    rw [hB] at hd
    rw [e1]
    generalize atM l i = M at hd hMf ⊢
    have hd2 : Calls Try.prog 14 #[.pointer (some ⟨b, 0, none⟩), .int .i64 i] w fun e w' => e = .returned (.tuple #[M.val, .int .i64 0]) ∧ Turned w b v (l.eraseIdx i.toNat) w' := by simpa using hd
    unfold Ms.val at hd2
    clear e1 hB hmem hd
    go_enter Try.func20, Try.ntmps20
    go_wp2_with fail
    refine hd2.mono ?_
    rintro e w1 ⟨rfl, hT⟩
    have hbA : Below w1.heap.size w1 (w1.alloc (.cells M.cells.toArray 23)).drew := ((Below.refl _ _).alloc (Nat.le_refl _) _).drew
    obtain ⟨v1, hb1, hgo⟩ := hbag.turned (hT.more hbA)
    have hput := put_any hb1 (by omega) M hMf
    rw [decide_eq_true (show (l.eraseIdx i.toNat).length < 64 by omega), if_pos (show (l.eraseIdx i.toNat).length < 64 by omega)] at hput
    have Hgo := Lib.hid hgo
    clear hd2 hT hbA hgo hlen
    go_wp2_with fail
    go_region_law (first
      | (go_simp
         go_at_call 27
         refine hput.mono ?_
         rintro e w2 ⟨rfl, hT⟩
         have HT := Lib.hid (Hgo.out _ _ hT)
         clear hT))
    all_goals
      clear hput
      go_wp2_with fail
      go_ret
      exact ⟨rfl, HT.out⟩
set_option maxRecDepth 100000 in
set_option maxHeartbeats 1000000 in
theorem twice_any (hbag : IsBag w b v l) (hl : l.length ≤ 64) (i : Int) :
    Calls Try.prog 13 #[.pointer (some ⟨b, 0, none⟩), .int .i64 i] w fun e w' => e = .returned (.int .i64 (twiceE l i)) ∧ Turned w b v (twiceL l i) w' := by
  have hd := at_any hbag.has i
  cases hB : atB l i
  · have e1 : twiceL l i = l := by simp [twiceL, hB]
    have e2 : twiceE l i = 3 := by simp [twiceE, hB]
    rw [hB] at hd
    rw [e1, e2]
    generalize atM l i = M at hd
    unfold Ms.val at hd
    clear e1 e2 hB
    go_enter Try.func13, Try.ntmps13
    go_wp2_with fail
    refine hd.mono ?_
    rintro e w1 ⟨rfl, hb1⟩
    clear hd
    go_wp2_with fail
    go_ret
    exact ⟨rfl, .quiet hbag.has (hb1.trans ((Below.refl _ _).alloc hb1.size _))⟩
  · obtain ⟨hmem, _⟩ := atM_mem hB
    have hMf := hbag.has.fits _ hmem
    have e1 : twiceL l i = if l.length < 64 then l ++ [atM l i] else l := by simp [twiceL, hB]
    have e2 : twiceE l i = if l.length < 64 then 0 else 2 := by simp [twiceE, hB]
    rw [hB] at hd
    rw [e1, e2]
    generalize atM l i = M at hd hMf ⊢
    clear e1 e2 hB hmem
    by_cases hlt : l.length < 64
    all_goals
      have hd2 := hd
      unfold Ms.val at hd2
      go_enter Try.func13, Try.ntmps13
      go_wp2_with fail
      refine hd2.mono ?_
      rintro e w1 ⟨rfl, hb1⟩
      have hbA : Below w.heap.size w (w1.alloc (.cells M.cells.toArray 23)).drew := (hb1.trans ((Below.refl _ _).alloc hb1.size _)).drew
      have hput := put_any (hbag.below hbA) hl M hMf
      first
        | rw [decide_eq_true hlt, if_pos hlt] at hput
        | rw [decide_eq_false hlt, if_neg hlt] at hput
      have HbA := Lib.hid hbA
      clear hd hd2 hbA hb1
      go_wp2_with fail
      go_region_law (first
        | (go_simp
           go_at_call 27
           refine hput.mono ?_
           rintro e w2 ⟨rfl, hT⟩
           have HT := Lib.hid (Turned.after hbag.has HbA.out hT)
           clear hT))
      all_goals
        clear hput
        go_wp2_with fail
        go_ret
        exact ⟨rfl, HT.out⟩
end
end Go.Proofs.Ytibpkdaiaoccjaa
