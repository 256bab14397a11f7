/- grant.Encode. -/
import Derived.Test.YtfjfkmoofmncnaaDoorEn
import Derived.StillTailTactics
namespace Go.Proofs.YtfjfkmoofmncnaaDoor
open Go.RowKit
/-- The box of a command. -/
def CX (w : World) (B : Nat) (x : CI) : Prop := B < w.heap.size ∧ ∀ j u, x.cells[j]? = some u → w.cell? ⟨B, j, none⟩ = some u
section
variable {w w' : World}
theorem CX.keep {B : Nat} {x : CI} (h : CX w B x) (hk : w'.heap[B]? = w.heap[B]?) : CX w' B x := by
  have hc := h.2 0 _ rfl
  exact ⟨World.block_lt_of_cell? w' ⟨B, 0, none⟩ ((World.cell?_of_block (a := ⟨B, 0, none⟩) hk).trans hc), fun j u hj => (World.cell?_of_block (a := ⟨B, j, none⟩) hk).trans (h.2 j u hj)⟩
theorem CX.below {B : Nat} {x : CI} (h : CX w B x) (hb : Below w.heap.size w w') : CX w' B x := h.keep (hb.block B h.1)
theorem CX.made (w : World) (x : CI) (T : TypeId) : CX (w.alloc (.cells x.cells.toArray T)) w.heap.size x := ⟨by simp, fun j u hj => by rw [World.cell?_alloc_new, List.getElem?_toArray]; exact hj⟩
theorem encI_take (x : CI) {k : Nat} {n : Int} {d : Nat} (hx : x.nums[k]? = some (n, d)) : encI (x.nums.take (k + 1)) = encI (x.nums.take k) ++ leN n.toNat d := by
  rw [List.take_add_one, hx]
  simp [encI]
set_option maxRecDepth 100000 in
set_option maxHeartbeats 8000000 in
theorem gencode_any (x : CI) (hx : x.wide) : Calls Tryd.prog 7 #[x.val] w fun e w' => Below w.heap.size w w' ∧ (e = .returned (.tuple #[.string ⟨#[]⟩, .int .i64 1]) ∨ ∃ c : Cm, c.Fits ∧ e = .returned (.tuple #[.string (bstr (encC c)), .int .i64 0])) := by
  have hbA : Below w.heap.size w (w.alloc (.cells x.cells.toArray 36)) := (Below.refl _ _).alloc (Nat.le_refl _) _
  have hbx := CX.made w x 36
  have hnw := WS.new (wr := w.alloc (.cells x.cells.toArray 36)) w (fun q => q = w.heap.size) hbA (fun q hq => by subst hq; exact hbx.1)
  have HBX := Lib.hid hbx
  have HX := Lib.hid hx
  clear hbA hbx hx
  unfold CI.cells at hnw HBX
  unfold CI.val
  go_enter Tryd.func7, Tryd.ntmps7
  go_wp2_with (first
    | (go_at_call 18
       refine hnw.mono ?_
       clear hnw
       rintro e w2 ⟨rfl, hs2, hb2⟩
       have HBX2 := Lib.hid (HBX.out.below hb2)
       have HS2 := Lib.hid hs2
       have hcl := gcolumns_any (w := w2) w.heap.size
       clear hb2 hs2 HBX)
    | (go_at_call 19
       refine hcl.mono ?_
       clear hcl
       rintro e w3 ⟨g, rfl, hg, hb3, hgl⟩
       have hg0 : g < w3.heap.size := World.block_lt_of_cell? w3 _ (hg 0 _ rfl)
       have hs3 := HS2.out.also (G := fun q => q = w.heap.size ∨ q = g) hb3 fun q hq => by
         rcases hq with rfl | rfl
         · exact ⟨.inl rfl, Nat.lt_of_lt_of_le HBX2.out.1 hb3.size⟩
         · exact ⟨.inr hgl, hg0⟩
       have HBX3 := Lib.hid (HBX2.out.below hb3)
       have HS3 := Lib.hid hs3
       have HG := Lib.hid hg
       clear hg hb3 hs3 HS2 HBX2 hg0 hgl))
  rw [World.size_alloc] at HS3
  generalize w.heap.size + 1 = bw at HS3 ⊢
  go_loopw [6, 10] (fun _ c wr => ∃ k : Nat, k ≤ 9 ∧ c = .int .i64 (k : Int) ∧ WS w (fun q => q = w.heap.size ∨ q = g) bw wr (encI (x.nums.take k)) ∧ CX wr w.heap.size x ∧ (∀ (i : Nat) (c : Value), (gcols w.heap.size)[i]? = some c → wr.cell? ⟨g, i, none⟩ = some c) ∧ ∀ i p, i < k → x.nums[i]? = some p → numFits p.1 p.2) (fun _ c _ => 9 - (intOf c).toNat)
  case atStart => exact ⟨0, Nat.zero_le _, rfl, HS3.out, HBX3.out, HG.out, fun i p h => by omega⟩
  case round =>
    clear HS3 HBX3 HG
    obtain ⟨k, hk, rfl, hs, hbx, hg, hft⟩ := hrel
    by_cases hlt : k < 9
    · obtain ⟨⟨n, d⟩, hq⟩ : ∃ y, x.nums[k]? = some y := ⟨_, List.getElem?_eq_getElem (show k < x.nums.length from hlt)⟩
      obtain ⟨hd, hcm, hg0, hg1⟩ := gcols_at x w.heap.size hq
      have hn := HX.out (n, d) (List.mem_of_getElem? hq)
      have htk := encI_take x hq
      have hfl := encI_len x k
      have q0 := hg _ _ hg0
      have q1 := hg _ _ hg1
      have H := Lib.hid hs
      have HBX := Lib.hid hbx
      have HG := Lib.hid hg
      have HQ := Lib.hid hq
      have HF := Lib.hid hft
      have e0 : decide ((k : Int) < 9) = true := by simp; omega
      clear hs hbx hg hft hg0 hg1 hq
      go_wp2_with fail
      generalize hW : wr.alloc (.cells #[.pointer (some ⟨w.heap.size, k, none⟩), .int .i64 (d : Int)] 84) = W
      have hbW : Below wr.heap.size wr W := by rw [← hW]; exact (Below.refl _ _).alloc (Nat.le_refl _) _
      have p0 : W.cell? ⟨wr.heap.size, 0, none⟩ = some (.pointer (some ⟨w.heap.size, k, none⟩)) := by rw [← hW, World.cell?_alloc_new]; rfl
      have p1 : W.cell? ⟨wr.heap.size, 1, none⟩ = some (.int .i64 (d : Int)) := by rw [← hW, World.cell?_alloc_new]; rfl
      have hsW := H.out.more hbW.drew
      have hbxW := HBX.out.below hbW
      have p2 := hbxW.2 _ _ hcm
      have HBXW := Lib.hid hbxW
      have HGW := Lib.hid (show ∀ (i : Nat) (c : Value), (gcols w.heap.size)[i]? = some c → W.cell? ⟨g, i, none⟩ = some c from fun i c hc => (World.cell?_of_block (a := ⟨g, i, none⟩) (hbW.block g (H.out.fl (.inr rfl)))).trans (HG.out i c hc))
      clear q0 q1 hW hbW hbxW hcm
      by_cases hfit : numFits n d
      · have hnum := hsW.num (by omega) n.toNat d hd (by have := hfit.1; have := hfit.2; have e : ((n.toNat : Nat) : Int) = n := Int.toNat_of_nonneg hfit.1; rw [← e] at this; exact_mod_cast this) (by have h1 : n < 9223372036854775808 := hn.2; have h2 := hfit.1; omega)
        rw [Int.toNat_of_nonneg hfit.1, ← htk] at hnum
        have HFit := Lib.hid hfit
        clear hsW htk hfit hn
        refine wp_region_still_tail 7 (by kernel_rfl) (by kernel_rfl) ?_
        simp only [List.take_succ_cons, List.take_zero, List.drop_succ_cons, List.drop_zero]
        iterate 7 still_step
        refine wpStill_nil ?_
        go_wp2_with (go_at_call 20
                     refine hnum.mono ?_
                     clear hnum
                     rintro e w5 ⟨rfl, hs5, hf5⟩
                     have HBX5 := Lib.hid (HBXW.out.keep (w' := w5) (hf5 _ (.inl rfl)))
                     have HG5 := Lib.hid (show ∀ (i : Nat) (c : Value), (gcols w.heap.size)[i]? = some c → w5.cell? ⟨g, i, none⟩ = some c from fun i c hc => (World.cell?_of_block (a := ⟨g, i, none⟩) (hf5 _ (.inr rfl))).trans (HGW.out i c hc))
                     have HS5 := Lib.hid hs5
                     clear hs5 hf5 p0 p1 p2)
        go_roundw
        case rel => exact ⟨k + 1, by omega, by go_num, HS5.out, HBX5.out, HG5.out, fun i p hi hp => by
          by_cases e : i = k
          · subst e; rw [HQ.out] at hp; cases hp; exact HFit.out
          · exact HF.out i p (by omega) hp⟩
        case measure => simp [intOf]; omega
      · have hnum := hsW.num_bad n d hd hfit hn.1 hn.2
        clear hsW htk hfit hn
        refine wp_region_still_tail 7 (by kernel_rfl) (by kernel_rfl) ?_
        simp only [List.take_succ_cons, List.take_zero, List.drop_succ_cons, List.drop_zero]
        iterate 7 still_step
        refine wpStill_nil ?_
        go_wp2_with (go_at_call 20
                     refine hnum.mono ?_
                     clear hnum
                     rintro e w5 ⟨q, rfl, hs5, -⟩
                     have HB5 := Lib.hid hs5.below
                     clear hs5 p0 p1 p2)
        go_ret2
        exact ⟨HB5.out, .inl rfl⟩
    · have ek : k = 9 := by omega
      subst ek
      have hall : ∀ p ∈ x.nums, numFits p.1 p.2 := fun p hp => by
        obtain ⟨i, hi⟩ := List.mem_iff_getElem?.1 hp
        have h9 : i < x.nums.length := (List.getElem?_eq_some_iff.1 hi).1
        exact hft i p h9 hi
      obtain ⟨c, hc, hxc⟩ := x.of_fits HX.out hall
      have hby := hs.bytes
      have HB := Lib.hid hs.below
      rw [show x.nums.take 9 = x.nums from rfl, show encI x.nums = encC c by rw [hxc]; rfl] at hby
      have HC := Lib.hid hc
      clear hs hbx hg hft hall hc hxc
      go_wp2_with (go_at_call 21
                   refine hby.mono ?_
                   clear hby
                   rintro e w9 ⟨rfl, rfl⟩)
      go_ret2
      exact ⟨HB.out, .inr ⟨c, HC.out, rfl⟩⟩
end
end Go.Proofs.YtfjfkmoofmncnaaDoor
