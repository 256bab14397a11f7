/- The map's put. -/
import Derived.Test.YtajbodfdohhhoaaExtE
namespace Go.Proofs.Ytajbodfdohhhoaa
open Go.RowKit
/-- What put leaves: the list L2; what it tells lies in blocks of its own. -/
def Put (w : World) (b : Nat) (n : Int) (gl : Nat) (L2 : List Rg) (e : Ending) (w' : World) : Prop :=
  e = .returned (.tuple #[]) ∧ ∃ v', IsMap w' b n v' L2 ∧ Moves (fun k => k = b ∨ k = gl) w w' ∧ ∀ k, v'.ownBlock = some k → w.heap.size ≤ k
/-- The list is told anew. -/
theorem IsMap.told {w w1 : World} {b : Nat} {n : Int} {v v' : Value} {L L' : List Rg} (h : IsMap w b n v L) (hb : w1.heap[b]? = w.heap[b]?) (ho : RowR w1 v' L') (hne : v'.ownBlock ≠ some b) (hR : Rises n (-1) L') : IsMap (w1.setCell ⟨b, 1, none⟩ v') b n v' L' :=
  ⟨(World.cell?_setCell_other _ _ _ _ (by simp)).trans ((World.cell?_of_block (a := ⟨b, 0, none⟩) hb).trans h.c0), World.cell?_setCell_same _ _ _ ((World.cell?_of_block (a := ⟨b, 1, none⟩) hb).trans h.c1), ownsRow_setCell ho _ _ hne,
    fun o => by rw [World.frozen?_setCell]; exact (World.frozen?_of_block (a := ⟨b, o, none⟩) hb).trans (h.fro o), hne, h.n1, h.n2, hR⟩
section
variable {w : World}
set_option maxRecDepth 100000 in
set_option maxHeartbeats 4000000 in
theorem put_any {b : Nat} {n : Int} {v : Value} {L : List Rg} (h : IsMap w b n v L) {k : Nat} {z : Rg} (hz : L[k]? = some z) {gl : Nat} {x y : Rg} (hgl : Blk w gl 2 (x.cells ++ y.cells)) (hne : ¬ bfp b v gl)
    (hR : Rises n (-1) (L.take k ++ (left2 x y ++ L.drop (k + 1)))) :
    Calls Try.prog 31 #[.pointer (some ⟨b, 0, none⟩), .int .i64 (k : Int), .slice (some ⟨gl, 0, none⟩) 2 2] w (Put w b n gl (L.take k ++ (left2 x y ++ L.drop (k + 1)))) := by
  have hdel := del2_any hgl
  have hkl := (List.getElem?_eq_some_iff.1 hz).1
  have hll := h.len
  obtain ⟨g, cap, hv, hgw, hcl, hcm⟩ : ∃ g cap, v = .slice (some ⟨g, 0, none⟩) L.length cap ∧ g < w.heap.size ∧ L.length ≤ cap ∧ cap ≤ maxLen := by
    rcases h.row.nil_or with ⟨-, rfl⟩ | h1
    · simp at hz
    · exact h1
  subst hv
  have h2l : (left2 x y).length ≤ 2 := by unfold left2; split <;> split <;> simp
  unfold Left at hdel
  generalize left2 x y = L2 at hR h2l hdel ⊢
  obtain ⟨R, hRd⟩ : ∃ R, L.take k ++ (L2 ++ L.drop (k + 1)) = R := ⟨_, rfl⟩
  rw [hRd] at hR ⊢
  have HRd := Lib.hid hRd
  have hRl : R.length ≤ 5000 := by
    have h1 := hR.len (by have := h.n1; omega)
    have h2 := h.n2
    omega
  clear hRd
  have hbl := h.lt b (.inl rfl)
  have hgb : g ≠ b := fun e => h.ne (by rw [e]; rfl)
  -- what is known of the world behind DeleteFunc
  have hmid : ∀ w1, Moves (fun q => q = gl) w w1 → IsMap w1 b n (.slice (some ⟨g, 0, none⟩) L.length cap) L := fun w1 hm => h.moves hm fun q hq e => hne (e ▸ hq)
  have hk1 : (0 : Int) ≤ (k : Int) := by omega
  have hk2 : (k : Int) ≤ (cap : Int) := by omega
  have hk3 : (k : Int) + 1 ≤ (L.length : Int) := by omega
  have hk4 : (0 : Int) ≤ (k : Int) + 1 := by omega
  have hk5 : IntKind.i64.wrap ((k : Int) + 1) = (k : Int) + 1 := by rw [IntKind.wrap_i64]; omega
  have hk6 : ((k : Int) + 1).toNat = k + 1 := by omega
  have hk7 : (L.length : Int) ≤ (cap : Int) := by omega
  have hcm' : (cap : Int) ≤ 9223372036854775807 := by unfold maxLen at hcm; omega
  have Hmid := Lib.hid hmid
  have HR := Lib.hid hR
  have Hz := Lib.hid hz
  have Hhb := Lib.hid h
  clear hmid hR hz h hne hgl
  by_cases hcap : cap = k + 1
  · have hlk : L.length = k + 1 := by omega
    have HLK := Lib.hid hlk
    have hle : L.length - (k + 1) = 0 := by omega
    obtain rfl : cap = k + 1 := hcap
    have hk8 : (k : Int) ≤ (k : Int) + 1 := by omega
    go_enter Try.func31, Try.ntmps31
    go_wp2_with fail
    refine hdel.mono ?_
    rintro e w1 ⟨rfl, hrow, hm⟩
    have hI := Hmid.out w1 hm
    have c1 := hI.c1
    have f1 := hI.fro 1
    have hz0 : w1.drew.cell? ⟨b, 1, none⟩ = some (.slice (some ⟨g, 0, none⟩) L.length (k + 1)) := c1
    have hbA : Below w1.heap.size w1 ((w1.alloc (.cells #[.slice (some ⟨g, 0, none⟩) k k, .slice (some ⟨gl, 0, none⟩) L2.length 2, .slice (some ⟨g, 0, none⟩) 0 0] 25)).drew) := ((Below.refl _ _).alloc (Nat.le_refl _) _).drew
    have hcc : Calls Try.prog 43 #[.slice (some ⟨w1.heap.size, 0, none⟩) 3 3] ((w1.alloc (.cells #[.slice (some ⟨g, 0, none⟩) k k, .slice (some ⟨gl, 0, none⟩) L2.length 2, .slice (some ⟨g, 0, none⟩) 0 0] 25)).drew) fun e w' => ∃ v', e = .returned v' ∧ w'.ownsRow (w1.heap.size + 1) 27 2 v' R.length (rrows R) ∧ Below w1.heap.size w1 w' := by
      have hj : joinR [(.slice (some ⟨g, 0, none⟩) k k, L.take k), (.slice (some ⟨gl, 0, none⟩) L2.length 2, L2), (.slice (some ⟨g, 0, none⟩) 0 0, L.drop (k + 1))] = R := by rw [← HRd.out]; simp [joinR]
      have hs1 : SrcR w1 (.slice (some ⟨g, 0, none⟩) k k) (L.take k) := by
        refine ⟨some ⟨g, 0, none⟩, k, by rw [List.length_take, Nat.min_eq_left (by omega)], fun h => (by cases h), fun ad had => ?_⟩
        cases had
        refine ⟨hI.row.lt rfl, fun j u hj => ?_⟩
        rw [rrows_take, List.getElem?_take] at hj
        split at hj
        · exact World.ownsRow.cells hI.row rfl j u hj
        · cases hj
      have hs3 : SrcR w1 (.slice (some ⟨g, 0, none⟩) 0 0) (L.drop (k + 1)) := by
        have he : L.drop (k + 1) = [] := List.drop_eq_nil_of_le (by omega)
        rw [he]
        refine ⟨some ⟨g, 0, none⟩, 0, rfl, fun h => (by cases h), fun ad had => ?_⟩
        cases had
        exact ⟨hI.row.lt rfl, fun j u hj => by simp [rrows] at hj⟩
      have := concat_any (w := (w1.alloc (.cells #[.slice (some ⟨g, 0, none⟩) k k, .slice (some ⟨gl, 0, none⟩) L2.length 2, .slice (some ⟨g, 0, none⟩) 0 0] 25)).drew) (q := w1.heap.size) (vs := [(.slice (some ⟨g, 0, none⟩) k k, L.take k), (.slice (some ⟨gl, 0, none⟩) L2.length 2, L2), (.slice (some ⟨g, 0, none⟩) 0 0, L.drop (k + 1))]) (by simp) (fun j p hp => by
        have hj3 : j < 3 := by have := (List.getElem?_eq_some_iff.1 hp).1; simpa using this
        have hcell : ∀ j, ((w1.alloc (.cells #[.slice (some ⟨g, 0, none⟩) k k, .slice (some ⟨gl, 0, none⟩) L2.length 2, .slice (some ⟨g, 0, none⟩) 0 0] 25)).drew).cell? ⟨w1.heap.size, j, none⟩ = (#[.slice (some ⟨g, 0, none⟩) k k, .slice (some ⟨gl, 0, none⟩) L2.length 2, .slice (some ⟨g, 0, none⟩) 0 0] : Array Value)[j]? := fun j => World.cell?_alloc_new w1 _ _ j
        rw [hcell]
        match j, hj3, hp with
        | 0, _, hp => cases hp; exact ⟨rfl, hs1.below hbA⟩
        | 1, _, hp => cases hp; exact ⟨rfl, hrow.src.below hbA⟩
        | 2, _, hp => cases hp; exact ⟨rfl, hs3.below hbA⟩) (by rw [hj]; omega)
      rw [hj] at this
      refine this.mono fun e w' ⟨v', h1, h2, h3⟩ => ⟨v', h1, ?_, hbA.trans (h3.mono (by have := hbA.size; exact this))⟩
      have e1 : ((w1.alloc (.cells #[.slice (some ⟨g, 0, none⟩) k k, .slice (some ⟨gl, 0, none⟩) L2.length 2, .slice (some ⟨g, 0, none⟩) 0 0] 25)).drew).heap.size = w1.heap.size + 1 := by simp
      rw [← e1]; exact h2
    have HI := Lib.hid hI
    have HM := Lib.hid hm
    have Hcc := Lib.hid hcc
    have hlt1 : b < w1.heap.size := hI.lt b (.inl rfl)
    clear hdel hI hrow hm hbA hcc
    go_wp2_with fail
    go_region_law (first
      | (go_simp
         go_at_call 43
         refine Hcc.out.mono ?_
         rintro e w3 ⟨v3, rfl, ho3, hb3⟩
         have hzB : w3.cell? ⟨b, 1, none⟩ = some (.slice (some ⟨g, 0, none⟩) L.length (k + 1)) := (World.cell?_of_block (a := ⟨b, 1, none⟩) (hb3.block b hlt1)).trans c1
         have hfB : w3.frozen? ⟨b, 1, none⟩ = false := (World.frozen?_of_block (a := ⟨b, 1, none⟩) (hb3.block b hlt1)).trans f1
         obtain ⟨a3, cap3, rfl⟩ := RowR.lens (ownsRow_base ho3 fun _ _ => Nat.zero_le _)))
    all_goals
      have hme : ∀ q, w1.heap.size + 1 ≤ q → w.heap.size ≤ q := fun q hq => by have := HM.out.size; omega
      have hne3 : (Value.slice a3 R.length cap3).ownBlock ≠ some b := fun e => by have := (ho3.lt b e).1; omega
      have hI3 := ((HI.out.below hb3)).told (w1 := w3) rfl (ownsRow_base ho3 fun _ _ => Nat.zero_le _) hne3 HR.out
      have hM3 : Moves (fun q => q = b ∨ q = gl) w (w3.setCell ⟨b, 1, none⟩ (.slice a3 R.length cap3)) :=
        Moves.setCell ((HM.out.mono fun _ _ hq => .inr hq).trans (Moves.of_below (F := fun _ => False) hb3) fun _ hq => hq.elim) _ _ (.inl (.inl rfl))
      have hP := Lib.hid (show Put w b n gl R (.returned (.tuple #[])) (w3.setCell ⟨b, 1, none⟩ (.slice a3 R.length cap3)) from ⟨rfl, _, hI3, hM3, fun q hq => hme q (ho3.lt q hq).1⟩)
      clear hI3 hM3 hne3 hme ho3 hb3
      go_end0
      exact hP.out
  · skip
    go_enter Try.func31, Try.ntmps31
    go_wp2_with fail
    refine hdel.mono ?_
    rintro e w1 ⟨rfl, hrow, hm⟩
    have hI := Hmid.out w1 hm
    have c1 := hI.c1
    have f1 := hI.fro 1
    have hz0 : w1.drew.cell? ⟨b, 1, none⟩ = some (.slice (some ⟨g, 0, none⟩) L.length cap) := c1
    have hbA : Below w1.heap.size w1 ((w1.alloc (.cells #[.slice (some ⟨g, 0, none⟩) k k, .slice (some ⟨gl, 0, none⟩) L2.length 2, .slice (some ⟨g, (k + 1) * 2, none⟩) (L.length - (k + 1)) (cap - (k + 1))] 25)).drew) := ((Below.refl _ _).alloc (Nat.le_refl _) _).drew
    have hcc : Calls Try.prog 43 #[.slice (some ⟨w1.heap.size, 0, none⟩) 3 3] ((w1.alloc (.cells #[.slice (some ⟨g, 0, none⟩) k k, .slice (some ⟨gl, 0, none⟩) L2.length 2, .slice (some ⟨g, (k + 1) * 2, none⟩) (L.length - (k + 1)) (cap - (k + 1))] 25)).drew) fun e w' => ∃ v', e = .returned v' ∧ w'.ownsRow (w1.heap.size + 1) 27 2 v' R.length (rrows R) ∧ Below w1.heap.size w1 w' := by
      have hj : joinR [(.slice (some ⟨g, 0, none⟩) k k, L.take k), (.slice (some ⟨gl, 0, none⟩) L2.length 2, L2), (.slice (some ⟨g, (k + 1) * 2, none⟩) (L.length - (k + 1)) (cap - (k + 1)), L.drop (k + 1))] = R := by rw [← HRd.out]; simp [joinR]
      have hs1 : SrcR w1 (.slice (some ⟨g, 0, none⟩) k k) (L.take k) := by
        refine ⟨some ⟨g, 0, none⟩, k, by rw [List.length_take, Nat.min_eq_left (by omega)], fun h => (by cases h), fun ad had => ?_⟩
        cases had
        refine ⟨hI.row.lt rfl, fun j u hj => ?_⟩
        rw [rrows_take, List.getElem?_take] at hj
        split at hj
        · exact World.ownsRow.cells hI.row rfl j u hj
        · cases hj
      have hs3 : SrcR w1 (.slice (some ⟨g, (k + 1) * 2, none⟩) (L.length - (k + 1)) (cap - (k + 1))) (L.drop (k + 1)) := by
        refine ⟨some ⟨g, (k + 1) * 2, none⟩, cap - (k + 1), by rw [List.length_drop], fun h => (by cases h), fun ad had => ?_⟩
        cases had
        refine ⟨hI.row.lt rfl, fun j u hj => ?_⟩
        rw [rrows_drop, List.getElem?_drop] at hj
        have := World.ownsRow.cells hI.row rfl _ u hj
        rw [Addr.add_mid] at this ⊢
        rwa [Nat.zero_add] at this
      have := concat_any (w := (w1.alloc (.cells #[.slice (some ⟨g, 0, none⟩) k k, .slice (some ⟨gl, 0, none⟩) L2.length 2, .slice (some ⟨g, (k + 1) * 2, none⟩) (L.length - (k + 1)) (cap - (k + 1))] 25)).drew) (q := w1.heap.size) (vs := [(.slice (some ⟨g, 0, none⟩) k k, L.take k), (.slice (some ⟨gl, 0, none⟩) L2.length 2, L2), (.slice (some ⟨g, (k + 1) * 2, none⟩) (L.length - (k + 1)) (cap - (k + 1)), L.drop (k + 1))]) (by simp) (fun j p hp => by
        have hj3 : j < 3 := by have := (List.getElem?_eq_some_iff.1 hp).1; simpa using this
        have hcell : ∀ j, ((w1.alloc (.cells #[.slice (some ⟨g, 0, none⟩) k k, .slice (some ⟨gl, 0, none⟩) L2.length 2, .slice (some ⟨g, (k + 1) * 2, none⟩) (L.length - (k + 1)) (cap - (k + 1))] 25)).drew).cell? ⟨w1.heap.size, j, none⟩ = (#[.slice (some ⟨g, 0, none⟩) k k, .slice (some ⟨gl, 0, none⟩) L2.length 2, .slice (some ⟨g, (k + 1) * 2, none⟩) (L.length - (k + 1)) (cap - (k + 1))] : Array Value)[j]? := fun j => World.cell?_alloc_new w1 _ _ j
        rw [hcell]
        match j, hj3, hp with
        | 0, _, hp => cases hp; exact ⟨rfl, hs1.below hbA⟩
        | 1, _, hp => cases hp; exact ⟨rfl, hrow.src.below hbA⟩
        | 2, _, hp => cases hp; exact ⟨rfl, hs3.below hbA⟩) (by rw [hj]; omega)
      rw [hj] at this
      refine this.mono fun e w' ⟨v', h1, h2, h3⟩ => ⟨v', h1, ?_, hbA.trans (h3.mono (by have := hbA.size; exact this))⟩
      have e1 : ((w1.alloc (.cells #[.slice (some ⟨g, 0, none⟩) k k, .slice (some ⟨gl, 0, none⟩) L2.length 2, .slice (some ⟨g, (k + 1) * 2, none⟩) (L.length - (k + 1)) (cap - (k + 1))] 25)).drew).heap.size = w1.heap.size + 1 := by simp
      rw [← e1]; exact h2
    have HI := Lib.hid hI
    have HM := Lib.hid hm
    have Hcc := Lib.hid hcc
    have hlt1 : b < w1.heap.size := hI.lt b (.inl rfl)
    clear hdel hI hrow hm hbA hcc
    go_wp2_with fail
    go_region_law (first
      | (go_simp
         go_at_call 43
         refine Hcc.out.mono ?_
         rintro e w3 ⟨v3, rfl, ho3, hb3⟩
         have hzB : w3.cell? ⟨b, 1, none⟩ = some (.slice (some ⟨g, 0, none⟩) L.length cap) := (World.cell?_of_block (a := ⟨b, 1, none⟩) (hb3.block b hlt1)).trans c1
         have hfB : w3.frozen? ⟨b, 1, none⟩ = false := (World.frozen?_of_block (a := ⟨b, 1, none⟩) (hb3.block b hlt1)).trans f1
         obtain ⟨a3, cap3, rfl⟩ := RowR.lens (ownsRow_base ho3 fun _ _ => Nat.zero_le _)))
    all_goals
      have hme : ∀ q, w1.heap.size + 1 ≤ q → w.heap.size ≤ q := fun q hq => by have := HM.out.size; omega
      have hne3 : (Value.slice a3 R.length cap3).ownBlock ≠ some b := fun e => by have := (ho3.lt b e).1; omega
      have hI3 := ((HI.out.below hb3)).told (w1 := w3) rfl (ownsRow_base ho3 fun _ _ => Nat.zero_le _) hne3 HR.out
      have hM3 : Moves (fun q => q = b ∨ q = gl) w (w3.setCell ⟨b, 1, none⟩ (.slice a3 R.length cap3)) :=
        Moves.setCell ((HM.out.mono fun _ _ hq => .inr hq).trans (Moves.of_below (F := fun _ => False) hb3) fun _ hq => hq.elim) _ _ (.inl (.inl rfl))
      have hP := Lib.hid (show Put w b n gl R (.returned (.tuple #[])) (w3.setCell ⟨b, 1, none⟩ (.slice a3 R.length cap3)) from ⟨rfl, _, hI3, hM3, fun q hq => hme q (ho3.lt q hq).1⟩)
      clear hI3 hM3 hne3 hme ho3 hb3
      go_end0
      exact hP.out
end
end Go.Proofs.Ytajbodfdohhhoaa
