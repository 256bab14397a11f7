/- grant.Decode, of what Encode made. -/
import Derived.Test.YtfjfkmoofmncnaaDoorEc
import Derived.Test.YtfjfkmoofmncnaaDoorGc
namespace Go.Proofs.YtfjfkmoofmncnaaDoor
open Go.RowKit
theorem leV_mid {L A C : List UInt8} {n k i : Nat} (hL : L = A ++ (leN n k ++ C)) (hA : A.length = i) (hn : n < 256 ^ k) : leV ((L.drop i).take k) = n := by
  subst hL hA
  rw [List.drop_left, List.take_append_of_le_length (by rw [length_leN]; exact Nat.le_refl _), List.take_of_length_le (by rw [length_leN]; exact Nat.le_refl _), leV_of hn]
def CI.part (x : CI) (k : Nat) : CI := ⟨if 0 < k then x.x0 else 0, if 1 < k then x.x1 else 0, if 2 < k then x.x2 else 0, if 3 < k then x.x3 else 0, if 4 < k then x.x4 else 0, if 5 < k then x.x5 else 0, if 6 < k then x.x6 else 0, if 7 < k then x.x7 else 0, if 8 < k then x.x8 else 0⟩
theorem CI.part_succ (x : CI) {k : Nat} {n : Int} {d : Nat} (hk : x.nums[k]? = some (n, d)) : (x.part (k + 1)).cells = (x.part k).cells.set k (.int .i64 n) := by
  match k, hk with
  | 0, hk => obtain ⟨rfl, rfl⟩ : x.x0 = n ∧ 1 = d := by simpa [CI.nums] using hk
             rfl
  | 1, hk => obtain ⟨rfl, rfl⟩ : x.x1 = n ∧ 1 = d := by simpa [CI.nums] using hk
             rfl
  | 2, hk => obtain ⟨rfl, rfl⟩ : x.x2 = n ∧ 8 = d := by simpa [CI.nums] using hk
             rfl
  | 3, hk => obtain ⟨rfl, rfl⟩ : x.x3 = n ∧ 8 = d := by simpa [CI.nums] using hk
             rfl
  | 4, hk => obtain ⟨rfl, rfl⟩ : x.x4 = n ∧ 8 = d := by simpa [CI.nums] using hk
             rfl
  | 5, hk => obtain ⟨rfl, rfl⟩ : x.x5 = n ∧ 2 = d := by simpa [CI.nums] using hk
             rfl
  | 6, hk => obtain ⟨rfl, rfl⟩ : x.x6 = n ∧ 2 = d := by simpa [CI.nums] using hk
             rfl
  | 7, hk => obtain ⟨rfl, rfl⟩ : x.x7 = n ∧ 1 = d := by simpa [CI.nums] using hk
             rfl
  | 8, hk => obtain ⟨rfl, rfl⟩ : x.x8 = n ∧ 1 = d := by simpa [CI.nums] using hk
             rfl
  | k + 9, hk => simp [CI.nums] at hk
theorem CI.len_cells (x : CI) : x.cells.length = 9 := rfl
theorem CX.set {w : World} {u k : Nat} {p p' : CI} {v : Value} (h : CX w u p) (hc : p'.cells = p.cells.set k v) (hk : k < 9) : CX (w.setCell ⟨u, k, none⟩ v) u p' := by
  refine ⟨by simpa using h.1, fun j y hj => ?_⟩
  rw [hc] at hj
  by_cases e : j = k
  · subst e
    rw [List.getElem?_set_self (by rw [CI.len_cells]; exact hk)] at hj
    obtain ⟨o, ho⟩ : ∃ o, p.cells[j]? = some o := ⟨_, List.getElem?_eq_getElem (by rw [CI.len_cells]; exact hk)⟩
    rw [← Option.some.inj hj]
    exact World.cell?_setCell_same _ _ _ (h.2 j o ho)
  · rw [List.getElem?_set_ne (fun e' => e e'.symm)] at hj
    rw [World.cell?_setCell_other _ _ _ _ (by intro e'; injection e' with e1 e2; omega)]
    exact h.2 j y hj
theorem Cm.fits_at {c : Cm} (h : c.Fits) {k : Nat} {n : Int} {d : Nat} (hk : c.ci.nums[k]? = some (n, d)) : ∃ m : Nat, n = (m : Int) ∧ m < 256 ^ d ∧ m < 9223372036854775808 ∧ (d = 1 ∨ d = 2 ∨ d = 8) := by
  obtain ⟨h0, h1, h2, h3, h4, h5, h6, h7, h8⟩ := h
  match k, hk with
  | 0, hk => obtain ⟨rfl, rfl⟩ : (c.kind : Int) = n ∧ 1 = d := by simpa [CI.nums, Cm.ci] using hk
             exact ⟨_, rfl, by omega, by omega, by omega⟩
  | 1, hk => obtain ⟨rfl, rfl⟩ : (c.client : Int) = n ∧ 1 = d := by simpa [CI.nums, Cm.ci] using hk
             exact ⟨_, rfl, by omega, by omega, by omega⟩
  | 2, hk => obtain ⟨rfl, rfl⟩ : (c.seq : Int) = n ∧ 8 = d := by simpa [CI.nums, Cm.ci] using hk
             exact ⟨_, rfl, by omega, by omega, by omega⟩
  | 3, hk => obtain ⟨rfl, rfl⟩ : (c.now : Int) = n ∧ 8 = d := by simpa [CI.nums, Cm.ci] using hk
             exact ⟨_, rfl, by omega, by omega, by omega⟩
  | 4, hk => obtain ⟨rfl, rfl⟩ : (c.len : Int) = n ∧ 8 = d := by simpa [CI.nums, Cm.ci] using hk
             exact ⟨_, rfl, by omega, by omega, by omega⟩
  | 5, hk => obtain ⟨rfl, rfl⟩ : (c.a : Int) = n ∧ 2 = d := by simpa [CI.nums, Cm.ci] using hk
             exact ⟨_, rfl, by omega, by omega, by omega⟩
  | 6, hk => obtain ⟨rfl, rfl⟩ : (c.b : Int) = n ∧ 2 = d := by simpa [CI.nums, Cm.ci] using hk
             exact ⟨_, rfl, by omega, by omega, by omega⟩
  | 7, hk => obtain ⟨rfl, rfl⟩ : (c.mode : Int) = n ∧ 1 = d := by simpa [CI.nums, Cm.ci] using hk
             exact ⟨_, rfl, by omega, by omega, by omega⟩
  | 8, hk => obtain ⟨rfl, rfl⟩ : (c.other : Int) = n ∧ 1 = d := by simpa [CI.nums, Cm.ci] using hk
             exact ⟨_, rfl, by omega, by omega, by omega⟩
  | k + 9, hk => simp [CI.nums] at hk
def posC (c : Cm) (k : Nat) : Nat := (encI (c.ci.nums.take k)).length
theorem encC_len (c : Cm) : (encC c).length = 32 := by simp [encC, encI, CI.nums, length_leN]
theorem posC_end (c : Cm) : posC c 9 = (encC c).length := rfl
theorem posC_col {c : Cm} {k m d : Nat} (hk : c.ci.nums[k]? = some ((m : Int), d)) (hm : m < 256 ^ d) : posC c (k + 1) = posC c k + d ∧ posC c k + d ≤ (encC c).length ∧ leV (((encC c).drop (posC c k)).take d) = m := by
  have e3 := encI_take c.ci hk
  rw [Int.toNat_natCast] at e3
  have e4 : encC c = encI (c.ci.nums.take k) ++ (leN m d ++ encI (c.ci.nums.drop (k + 1))) := by
    have : c.ci.nums = c.ci.nums.take (k + 1) ++ c.ci.nums.drop (k + 1) := (List.take_append_drop _ _).symm
    have h2 : encI c.ci.nums = encI (c.ci.nums.take (k + 1)) ++ encI (c.ci.nums.drop (k + 1)) := (congrArg encI this).trans List.flatMap_append
    rw [encC, h2, e3, List.append_assoc]
  refine ⟨by unfold posC; rw [e3, List.length_append, length_leN], by rw [e4]; unfold posC; simp [length_leN], leV_mid e4 rfl hm⟩
def setFrom (W : World) (B : Nat) : Nat → List Value → World
  | _, [] => W
  | i, v :: vs => setFrom (W.setCell ⟨B, i, none⟩ v) B (i + 1) vs
theorem setFrom_low (B : Nat) : ∀ (vs : List Value) (W : World) (i j : Nat), j < i → (setFrom W B i vs).cell? ⟨B, j, none⟩ = W.cell? ⟨B, j, none⟩
  | [], _, _, _, _ => rfl
  | v :: vs, W, i, j, h => by
    rw [setFrom, setFrom_low B vs _ (i + 1) j (by omega), oth_cell _ _ _ (by omega)]
theorem setFrom_cell (B : Nat) : ∀ (vs : List Value) (W : World) (i : Nat), (∀ o, i ≤ o → o < i + vs.length → ∃ u, W.cell? ⟨B, o, none⟩ = some u) → ∀ j v, vs[j]? = some v → (setFrom W B i vs).cell? ⟨B, i + j, none⟩ = some v
  | [], _, _, _, _, _, h => by simp at h
  | x :: vs, W, i, he, j, v, h => by
    rw [setFrom]
    match j, h with
    | 0, h =>
      obtain ⟨u, hu⟩ := he i (Nat.le_refl _) (by simp)
      rw [show i + 0 = i from rfl, setFrom_low B vs _ (i + 1) i (by omega)]
      simp at h
      subst h
      exact World.cell?_setCell_same _ _ _ hu
    | j + 1, h =>
      have := setFrom_cell B vs (W.setCell ⟨B, i, none⟩ x) (i + 1) (fun o h1 h2 => by
        obtain ⟨u, hu⟩ := he o (by omega) (by rw [List.length_cons]; omega)
        exact ⟨u, by rw [oth_cell _ _ _ (by omega)]; exact hu⟩) j v (by simpa using h)
      rwa [show i + (j + 1) = i + 1 + j by omega]
theorem setFrom_moves (B : Nat) : ∀ (vs : List Value) (W : World) (i : Nat), Moves (fun k => k = B) W (setFrom W B i vs)
  | [], W, _ => Moves.refl _ W
  | _ :: vs, W, i => (Moves.setCell (F := fun k => k = B) (Moves.refl _ W) ⟨B, i, none⟩ _ (.inl rfl)).trans (setFrom_moves B vs _ (i + 1)) fun _ h => .inl h
section
variable {w w' : World}
theorem rnum_any {b i d : Nat} {L : List UInt8} (h : IsR w b L i) (hl : L.length ≤ 1000000) (hd : d = 1 ∨ d = 2 ∨ d = 8) (hi : i + d ≤ L.length) (hv : leV ((L.drop i).take d) < 9223372036854775808) :
    Calls Tryd.prog 50 #[.pointer (some ⟨b, 0, none⟩), .int .i64 (d : Int)] w fun e w' => e = .returned (.tuple #[.int .i64 (leV ((L.drop i).take d) : Int), .nilIface]) ∧ IsR w' b L (i + d) ∧ Moves (fun q => q = b) w w' := by
  rcases hd with rfl | rfl | rfl
  · exact rnum1 h hl hi hv
  · exact rnum2 h hl hi hv
  · exact rnum8 h hl hi hv
set_option maxRecDepth 100000 in
set_option maxHeartbeats 8000000 in
theorem gdecode_any (c : Cm) (hc : c.Fits) : Calls Tryd.prog 36 #[.string (bstr (encC c))] w fun e w' => Below w.heap.size w w' ∧ e = .returned (.tuple #[c.val, .int .i64 0]) := by
  have h1 : CX (w.alloc (.cells (CI.cells ⟨0, 0, 0, 0, 0, 0, 0, 0, 0⟩).toArray 36)) w.heap.size ⟨0, 0, 0, 0, 0, 0, 0, 0, 0⟩ := CX.made w _ _
  have hb2 : Below (w.alloc (.cells (CI.cells ⟨0, 0, 0, 0, 0, 0, 0, 0, 0⟩).toArray 36)).heap.size (w.alloc (.cells (CI.cells ⟨0, 0, 0, 0, 0, 0, 0, 0, 0⟩).toArray 36)) ((w.alloc (.cells (CI.cells ⟨0, 0, 0, 0, 0, 0, 0, 0, 0⟩).toArray 36)).alloc (.cells (CI.cells ⟨0, 0, 0, 0, 0, 0, 0, 0, 0⟩).toArray 36)) := (Below.refl _ _).alloc (Nat.le_refl _) _
  have h2 : CX ((w.alloc (.cells (CI.cells ⟨0, 0, 0, 0, 0, 0, 0, 0, 0⟩).toArray 36)).alloc (.cells (CI.cells ⟨0, 0, 0, 0, 0, 0, 0, 0, 0⟩).toArray 36)) (w.alloc (.cells (CI.cells ⟨0, 0, 0, 0, 0, 0, 0, 0, 0⟩).toArray 36)).heap.size (c.ci.part 0) := CX.made _ _ _
  have hf1 := fun o => World.frozen?_alloc_new w (CI.cells ⟨0, 0, 0, 0, 0, 0, 0, 0, 0⟩).toArray 36 o
  have hf2 := fun o => World.frozen?_alloc_new (w.alloc (.cells (CI.cells ⟨0, 0, 0, 0, 0, 0, 0, 0, 0⟩).toArray 36)) (CI.cells ⟨0, 0, 0, 0, 0, 0, 0, 0, 0⟩).toArray 36 o
  have hb : Below w.heap.size w ((w.alloc (.cells (CI.cells ⟨0, 0, 0, 0, 0, 0, 0, 0, 0⟩).toArray 36)).alloc (.cells (CI.cells ⟨0, 0, 0, 0, 0, 0, 0, 0, 0⟩).toArray 36)) := ((Below.refl _ _).alloc (Nat.le_refl _) _).alloc (by simp) _
  have hg1 : ∀ o, ((w.alloc (.cells (CI.cells ⟨0, 0, 0, 0, 0, 0, 0, 0, 0⟩).toArray 36)).alloc (.cells (CI.cells ⟨0, 0, 0, 0, 0, 0, 0, 0, 0⟩).toArray 36)).frozen? ⟨w.heap.size, o, none⟩ = false := fun o => made_fro hb2 o
  have HD1 := Lib.hid (h1.below hb2)
  have HD2 := Lib.hid h2
  have HF1 := Lib.hid hg1
  have HF2 := Lib.hid hf2
  have HB := Lib.hid hb
  have hnr := newreader_any (w := ((w.alloc (.cells (CI.cells ⟨0, 0, 0, 0, 0, 0, 0, 0, 0⟩).toArray 36)).alloc (.cells (CI.cells ⟨0, 0, 0, 0, 0, 0, 0, 0, 0⟩).toArray 36))) (encC c)
  have HC := Lib.hid hc
  have hsz : ((w.alloc (.cells (CI.cells ⟨0, 0, 0, 0, 0, 0, 0, 0, 0⟩).toArray 36)).alloc (.cells (CI.cells ⟨0, 0, 0, 0, 0, 0, 0, 0, 0⟩).toArray 36)).heap.size = w.heap.size + 1 + 1 := by simp
  rw [hsz] at hnr
  rw [World.size_alloc] at HD2 HF2
  clear hc h1 hb2 h2 hf1 hf2 hb hg1
  unfold CI.cells at HD1 HD2 HF1 HF2 HB hnr hsz
  have HSZ := Lib.hid hsz
  clear hsz
  go_enter Tryd.func36, Tryd.ntmps36
  go_wp2_with (first
    | (go_at_call 49
       refine hnr.mono ?_
       clear hnr
       rintro e w2 ⟨rfl, hr2, hb2⟩
       have hcl := gcolumns_any (w := w2) (w.heap.size + 1)
       have HR := Lib.hid hr2
       rw [← HSZ.out] at hb2
       have HB2 := Lib.hid hb2
       have hlt := hr2.lt
       clear hb2 hr2)
    | (go_at_call 19
       refine hcl.mono ?_
       clear hcl
       rintro e w3 ⟨g, rfl, hg, hb3, hgl⟩
       have HG := Lib.hid hg
       have HB3 := Lib.hid (HB2.out.trans (hb3.mono HB2.out.size))
       have HR3 := Lib.hid (HR.out.below hb3)
       clear hg hb3))
  have hk1 : CX w3 w.heap.size ⟨0, 0, 0, 0, 0, 0, 0, 0, 0⟩ := HD1.out.below (HB3.out.mono (Nat.le_refl _))
  have hk2 : CX w3 (w.heap.size + 1) (c.ci.part 0) := HD2.out.below HB3.out
  have hk3 : ∀ o, w3.frozen? ⟨w.heap.size, o, none⟩ = false := fun o => (World.frozen?_of_block (a := ⟨w.heap.size, o, none⟩) (HB3.out.block _ HD1.out.1)).trans (HF1.out o)
  have hk4 : ∀ o, w3.frozen? ⟨w.heap.size + 1, o, none⟩ = false := fun o => (World.frozen?_of_block (a := ⟨w.heap.size + 1, o, none⟩) (HB3.out.block _ HD2.out.1)).trans (HF2.out o)
  have hk5 : Below w.heap.size w w3 := HB.out.trans (HB3.out.mono HB.out.size)
  have hgl' : w.heap.size + 1 + 1 < g := by omega
  have hglt : g < w3.heap.size := World.block_lt_of_cell? w3 _ (HG.out 0 _ rfl)
  have K1 := Lib.hid hk1
  have K2 := Lib.hid hk2
  have K3 := Lib.hid hk3
  have K4 := Lib.hid hk4
  have K5 := Lib.hid hk5
  clear hk1 hk2 hk3 hk4 hk5 HD1 HD2 HF1 HF2 HB HB2 HB3 HR HSZ hgl hlt
  go_loopw [7, 8, 9, 14] (fun _ _ _ i wr => ∃ k : Nat, k ≤ 9 ∧ i = .int .i64 (k : Int) ∧ IsR wr (w.heap.size + 1 + 1) (encC c) (posC c k) ∧ CX wr (w.heap.size + 1) (c.ci.part k) ∧ (∀ o, wr.frozen? ⟨w.heap.size + 1, o, none⟩ = false) ∧ Moves (fun q => q = w.heap.size + 1 ∨ q = w.heap.size + 1 + 1) w3 wr) (fun _ _ _ i _ => 9 - (intOf i).toNat)
  case atStart => exact ⟨0, Nat.zero_le _, rfl, HR3.out, K2.out, K4.out, Moves.refl _ _⟩
  case round =>
    obtain ⟨k, hk, rfl, hr, hu, hf, hm⟩ := hrel
    by_cases hlt : k < 9
    · obtain ⟨⟨n, d⟩, hq⟩ : ∃ y, c.ci.nums[k]? = some y := ⟨_, List.getElem?_eq_getElem (show k < c.ci.nums.length from hlt)⟩
      obtain ⟨m, rfl, hm1, hm2, hd⟩ := Cm.fits_at HC.out hq
      obtain ⟨-, -, hg0, hg1⟩ := gcols_at c.ci (w.heap.size + 1) hq
      obtain ⟨hp1, hp2, hp3⟩ := posC_col hq hm1
      have hps := c.ci.part_succ hq
      have hgk : wr.heap[g]? = w3.heap[g]? := hm.block g hglt (by omega)
      have q0 : wr.cell? ⟨g, k * 2, none⟩ = _ := (World.cell?_of_block (a := ⟨g, k * 2, none⟩) hgk).trans (HG.out _ _ hg0)
      have q1 : wr.cell? ⟨g, k * 2 + 1, none⟩ = _ := (World.cell?_of_block (a := ⟨g, k * 2 + 1, none⟩) hgk).trans (HG.out _ _ hg1)
      have e0 : decide ((k : Int) < 9) = true := by simp; omega
      have hbA : Below wr.heap.size wr (wr.alloc (.cells #[.pointer (some ⟨w.heap.size + 1, k, none⟩), .int .i64 (d : Int)] 84)) := (Below.refl _ _).alloc (Nat.le_refl _) _
      have hnum := rnum_any (w := wr.alloc (.cells #[.pointer (some ⟨w.heap.size + 1, k, none⟩), .int .i64 (d : Int)] 84)) (hr.below hbA) (by rw [encC_len]; omega) hd hp2 (by rw [hp3]; exact hm2)
      rw [hp3, ← hp1] at hnum
      have hul : w.heap.size + 1 < wr.heap.size := hu.1
      have hrl : w.heap.size + 1 + 1 < wr.heap.size := hr.lt
      obtain ⟨o5, ho5⟩ : ∃ o5, (c.ci.part k).cells[k]? = some o5 := ⟨_, List.getElem?_eq_getElem (by rw [CI.len_cells]; exact hlt)⟩
      have HU := Lib.hid hu
      have HFr := Lib.hid hf
      have HM := Lib.hid hm
      have HPS := Lib.hid hps
      have HBA := Lib.hid hbA
      have HO5 := Lib.hid ho5
      clear hr hu hf hm hg0 hg1 hp1 hp2 hp3 hps hq hm1 hm2 hd hgk hbA ho5
      go_wp2_with (go_at_call 50
                   refine hnum.mono ?_
                   clear hnum
                   rintro e w5 ⟨rfl, hr5, hm5⟩
                   have hk5 : ∀ q, q ≠ w.heap.size + 1 + 1 → q < wr.heap.size + 1 → w5.heap[q]? = (wr.alloc (.cells #[.pointer (some ⟨w.heap.size + 1, k, none⟩), .int .i64 (d : Int)] 84)).heap[q]? := fun q h1 h2 => hm5.block q (by simp; omega) h1
                   have p0 : w5.cell? ⟨wr.heap.size, 0, none⟩ = some (.pointer (some ⟨w.heap.size + 1, k, none⟩)) := (World.cell?_of_block (a := ⟨wr.heap.size, 0, none⟩) (hk5 wr.heap.size (by omega) (by omega))).trans (by rw [World.cell?_alloc_new]; rfl)
                   have hu5 : CX w5 (w.heap.size + 1) (c.ci.part k) := (HU.out.below HBA.out).keep (hk5 (w.heap.size + 1) (by omega) (by omega))
                   have hf5 : ∀ o, w5.frozen? ⟨w.heap.size + 1, o, none⟩ = false := fun o => (World.frozen?_of_block (a := ⟨w.heap.size + 1, o, none⟩) ((hk5 (w.heap.size + 1) (by omega) (by omega)).trans (HBA.out.block _ hul))).trans (HFr.out o)
                   have p5 := hu5.2 k _ HO5.out
                   have f5 := hf5 k
                   have HU6 := Lib.hid (hu5.set HPS.out hlt)
                   have HF6 := Lib.hid (show ∀ o, (w5.setCell ⟨w.heap.size + 1, k, none⟩ (.int .i64 (m : Int))).frozen? ⟨w.heap.size + 1, o, none⟩ = false from fun o => by rw [World.frozen?_setCell]; exact hf5 o)
                   have HR6 := Lib.hid (hr5.keep (w' := w5.setCell ⟨w.heap.size + 1, k, none⟩ (.int .i64 (m : Int))) (Below.heap_setCell _ _ _ _ (show w.heap.size + 1 + 1 ≠ w.heap.size + 1 by omega)))
                   have HM6 := Lib.hid (((HM.out.trans (Moves.of_below (F := fun _ => False) HBA.out) (fun _ h => h.elim)).trans hm5 (fun i hi => .inl (.inr hi))).setCell ⟨w.heap.size + 1, k, none⟩ (.int .i64 (m : Int)) (.inl (.inl rfl)))
                   clear hr5 hm5 hk5 hu5 hf5)
      go_roundw
      case rel => exact ⟨k + 1, by omega, by go_num, HR6.out, HU6.out, HF6.out, HM6.out⟩
      case measure => simp [intOf]; omega
    · have ek : k = 9 := by omega
      subst ek
      rw [posC_end] at hr
      have hen := rend hr rfl
      have hu9 : CX wr (w.heap.size + 1) c.ci := hu
      have hrs : CX wr w.heap.size ⟨0, 0, 0, 0, 0, 0, 0, 0, 0⟩ := K1.out.keep (hm.block _ K1.out.1 (by omega))
      have hfs : ∀ o, wr.frozen? ⟨w.heap.size, o, none⟩ = false := fun o => (World.frozen?_of_block (a := ⟨w.heap.size, o, none⟩) (hm.block w.heap.size K1.out.1 (by omega))).trans (K3.out o)
      have HBW := Lib.hid (K5.out.trans (⟨hm.os, hm.tape, hm.output, hm.size, fun q hq => hm.block q (Nat.lt_of_lt_of_le hq K5.out.size) (fun hf => by rcases hf with h1 | h1 <;> omega)⟩ : Below w.heap.size w3 wr))
      have HU9 := Lib.hid hu9
      have HRS := Lib.hid hrs
      have HFS := Lib.hid hfs
      clear hr hu hf hm hu9 hrs hfs K1 K2 K3 K4 K5 HR3 HG hglt hgl'
      go_wp2_with (go_at_call 51
                   refine hen.mono ?_
                   clear hen
                   rintro e w6 ⟨rfl, hb6⟩
                   have hu := HU9.out.below hb6
                   have hrs := HRS.out.below hb6
                   have y0 := hu.2 0 _ rfl
                   have y1 := hu.2 1 _ rfl
                   have y2 := hu.2 2 _ rfl
                   have y3 := hu.2 3 _ rfl
                   have y4 := hu.2 4 _ rfl
                   have y5 := hu.2 5 _ rfl
                   have y6 := hu.2 6 _ rfl
                   have y7 := hu.2 7 _ rfl
                   have y8 := hu.2 8 _ rfl
                   have z0 := hrs.2 0 _ rfl
                   have z1 := hrs.2 1 _ rfl
                   have z2 := hrs.2 2 _ rfl
                   have z3 := hrs.2 3 _ rfl
                   have z4 := hrs.2 4 _ rfl
                   have z5 := hrs.2 5 _ rfl
                   have z6 := hrs.2 6 _ rfl
                   have z7 := hrs.2 7 _ rfl
                   have z8 := hrs.2 8 _ rfl
                   dsimp only [Cm.ci] at y0 y1 y2 y3 y4 y5 y6 y7 y8
                   have g6 : ∀ o, w6.frozen? ⟨w.heap.size, o, none⟩ = false := fun o => (World.frozen?_of_block (a := ⟨w.heap.size, o, none⟩) (hb6.block _ HRS.out.1)).trans (HFS.out o)
                   have g0 := g6 0
                   have g1 := g6 1
                   have g2 := g6 2
                   have g3 := g6 3
                   have g4 := g6 4
                   have g5 := g6 5
                   have g6' := g6 6
                   have g7 := g6 7
                   have g8 := g6 8
                   have HB6 := Lib.hid (HBW.out.trans (hb6.mono HBW.out.size))
                   have HRS6 := Lib.hid hrs
                   clear hu hrs hb6 g6)
      have hcell := setFrom_cell w.heap.size c.ci.cells w6 0 (fun o _ ho => ⟨_, HRS6.out.2 o _ (List.getElem?_eq_getElem (by simpa [CI.len_cells] using ho))⟩)
      have hmv := setFrom_moves w.heap.size c.ci.cells w6 0
      have s0 : (setFrom w6 w.heap.size 0 c.ci.cells).cell? ⟨w.heap.size, 0, none⟩ = some (.int .i64 (c.kind : Int)) := hcell 0 _ rfl
      have s1 : (setFrom w6 w.heap.size 0 c.ci.cells).cell? ⟨w.heap.size, 1, none⟩ = some (.int .i64 (c.client : Int)) := hcell 1 _ rfl
      have s2 : (setFrom w6 w.heap.size 0 c.ci.cells).cell? ⟨w.heap.size, 2, none⟩ = some (.int .i64 (c.seq : Int)) := hcell 2 _ rfl
      have s3 : (setFrom w6 w.heap.size 0 c.ci.cells).cell? ⟨w.heap.size, 3, none⟩ = some (.int .i64 (c.now : Int)) := hcell 3 _ rfl
      have s4 : (setFrom w6 w.heap.size 0 c.ci.cells).cell? ⟨w.heap.size, 4, none⟩ = some (.int .i64 (c.len : Int)) := hcell 4 _ rfl
      have s5 : (setFrom w6 w.heap.size 0 c.ci.cells).cell? ⟨w.heap.size, 5, none⟩ = some (.int .i64 (c.a : Int)) := hcell 5 _ rfl
      have s6 : (setFrom w6 w.heap.size 0 c.ci.cells).cell? ⟨w.heap.size, 6, none⟩ = some (.int .i64 (c.b : Int)) := hcell 6 _ rfl
      have s7 : (setFrom w6 w.heap.size 0 c.ci.cells).cell? ⟨w.heap.size, 7, none⟩ = some (.int .i64 (c.mode : Int)) := hcell 7 _ rfl
      have s8 : (setFrom w6 w.heap.size 0 c.ci.cells).cell? ⟨w.heap.size, 8, none⟩ = some (.int .i64 (c.other : Int)) := hcell 8 _ rfl
      clear hcell y0 y1 y2 y3 y4 y5 y6 y7 y8 z0 z1 z2 z3 z4 z5 z6 z7 z8 g0 g1 g2 g3 g4 g5 g6' g7 g8
      change bodyPost _ _ _ _ _ (setFrom w6 w.heap.size 0 c.ci.cells)
      refine bodyPost_ret (v := .tuple #[c.val, .int .i64 0]) (by unfold Cm.val; simp [results, Tryd.results36, go_sem, s0, s1, s2, s3, s4, s5, s6, s7, s8]) rfl ?_
      exact ⟨⟨hmv.os.trans HB6.out.os, hmv.tape.trans HB6.out.tape, hmv.output.trans HB6.out.output, Nat.le_trans HB6.out.size hmv.size, fun q hq => (hmv.block q (Nat.lt_of_lt_of_le hq HB6.out.size) (by omega)).trans (HB6.out.block q hq)⟩, rfl⟩
end
end Go.Proofs.YtfjfkmoofmncnaaDoor
