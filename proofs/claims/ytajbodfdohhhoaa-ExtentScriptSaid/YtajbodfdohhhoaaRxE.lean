/- The reference's Alloc. -/
import Derived.Test.YtajbodfdohhhoaaRxD
namespace Go.Proofs.Ytajbodfdohhhoaa
open Go.RowKit
/-- In the midst of Alloc: the answer's place. -/
structure AR (w0 W : World) : Prop where
  b : Below w0.heap.size w0 W
  box : RBox W w0.heap.size Rg.zero
  fro : ∀ o, W.frozen? ⟨w0.heap.size, o, none⟩ = false
theorem AR.more {w0 W W' : World} (h : AR w0 W) (hb : Below W.heap.size W W') : AR w0 W' :=
  ⟨h.b.trans (hb.mono h.b.size), h.box.below hb, fun o => (hb.frozen (p := ⟨w0.heap.size, o, none⟩) h.box.1).trans (h.fro o)⟩
theorem AR.made (w : World) (u : TypeId) : AR w (w.alloc (.cells #[.int .i64 0, .int .i64 0] u)) :=
  ⟨(Below.refl _ _).alloc (Nat.le_refl _) _, RBox.made _ Rg.zero u, fun _ => World.frozen?_alloc_new _ _ _ _⟩
theorem fitR_eq (k : Int) {L : List Rg} {j : Nat} (hj : j ≤ L.length) (ha : ∀ i x, i < j → L[i]? = some x → x.hi - x.lo < k) (hx : ∀ x, L[j]? = some x → k ≤ x.hi - x.lo) : fitR k L = j := by
  rw [← idxF_fit]
  exact idxF_eq (fitsR k) L j hj (fun i x hi hxi => by unfold fitsR; have := ha i x hi hxi; simp; omega) fun x hxj => by unfold fitsR; have := hx x hxj; simp; omega
section
variable {w w' : World} {c g N : Nat} {L : List Rg}
/-- The answer is told: of the reference's own nothing but g has turned. -/
theorem RM.told {W W' : World} (h : RM W c g N L) (hw : Below w.heap.size w W) (hc : c < w.heap.size) (hg : g < w.heap.size) (hm : Moves (fun q => q = w.heap.size) W W') : RM W' c g N L ∧ Moves (fun q => q = g) w W' := by
  refine ⟨⟨h.1.keep (hm.block c h.1.ltc (by omega)) (hm.block g h.1.ltg (by omega)), h.2⟩, ?_⟩
  exact (Moves.of_below hw).trans hm fun q hq => .inr (by omega)
set_option maxRecDepth 100000 in
set_option maxHeartbeats 8000000 in
theorem ralloc_any (h : RM w c g N L) (k : Int) :
    Calls Try.prog 20 #[.pointer (some ⟨c, 0, none⟩), .int .i64 k] w fun e w' => e = .returned (.tuple #[(allocR k L).val, .int .i64 (allocE k L)]) ∧ RM w' c g N (allocL k L) ∧ Moves (fun q => q = g) w w' := by
  have hA := AR.made w 27
  have hcl := h.1.ltc
  have hgl := h.1.ltg
  have hk2 := fun W (hW : Below w.heap.size w W) => (show RM W c g N L from ⟨h.1.below hW, h.2⟩)
  have Hk2 := Lib.hid hk2
  have hn2 := h.1.n2
  have hln := h.2.len (by omega)
  by_cases hk : k < 1
  · have e1 : allocE k L = 1 := by simp [allocE, hk]
    have e2 : allocR k L = Rg.zero := by simp [allocR, hk]
    have e3 : allocL k L = L := by simp [allocL, hk]
    rw [e1, e2, e3]
    have t1 : decide (k < 1) = true := by simpa using hk
    obtain ⟨-, z0, z1⟩ := hA.box
    have f0 := hA.fro 0
    have f1 := hA.fro 1
    have HA := Lib.hid hA
    clear e1 e2 e3 hk hA h hk2
    unfold Rg.val Rg.zero
    unfold Rg.zero at z0 z1
    go_enter Try.func20, Try.ntmps20
    generalize hW : (w.alloc (.cells #[.int .i64 0, .int .i64 0] 27)) = W at HA z0 z1 f0 f1
    go_wp2_with fail
    refine bodyPost_ret (v := .tuple #[.agg #[.int .i64 0, .int .i64 0], .int .i64 1]) (by simp [results, Try.results20, go_sem, z0, z1]) rfl ?_
    refine ⟨rfl, ?_⟩
    refine RM.told (Hk2.out _ HA.out.b) HA.out.b hcl hgl ?_
    iterate 2 refine Moves.setCell ?_ _ _ (.inl rfl)
    exact Moves.refl _ _
  · have t1 : decide (k < 1) = false := by simpa using hk
    have hls := fun W (hW : Below w.heap.size w W) => rlist_any (Hk2.out W hW)
    have Hls := Lib.hid hls
    have Hr := Lib.hid h.2
    have HA := Lib.hid hA
    have Hk := Lib.hid hk
    clear hls hA h hk2 hk
    go_enter Try.func20, Try.ntmps20
    generalize hW : (w.alloc (.cells #[.int .i64 0, .int .i64 0] 27)) = W at HA
    have hl0 := Hls.out W HA.out.b
    go_wp2_with fail
    refine hl0.mono ?_
    rintro e w2 ⟨v2, rfl, ho2, hb2⟩
    have HA2 := Lib.hid (HA.out.more hb2)
    have hro : ∀ wx, Below w2.heap.size w2 wx → RowR wx v2 L := fun wx hb => (show RowR w2 v2 L from ownsRow_base ho2 fun _ _ => Nat.zero_le _).below hb
    obtain ⟨a2, cap2, rfl⟩ := RowR.lens (hro w2 (Below.refl _ _))
    have Hro := Lib.hid hro
    clear hl0 ho2 hb2 hro hW HA Hls
    go_wp2_with fail
    go_loopw [7] (fun i wx => ∃ j : Nat, j ≤ L.length ∧ i = .int .i64 (j : Int) ∧ Hid (∀ i x, i < j → L[i]? = some x → x.hi - x.lo < k) ∧ Below w2.heap.size w2 wx) (fun i _ => L.length - (intOf i).toNat)
    case atStart => exact ⟨0, Nat.zero_le _, rfl, Lib.hid fun i x h => by omega, Below.refl _ _⟩
    case round =>
      obtain ⟨j, hj, rfl, ha, hb⟩ := hrel
      by_cases hlt : j < L.length
      · obtain ⟨x, hx⟩ : ∃ x, L[j]? = some x := ⟨_, List.getElem?_eq_getElem hlt⟩
        obtain ⟨gr, cap3, hv, hgr, -, hc⟩ := (Hro.out _ hb).at hx
        simp only [Value.slice.injEq, true_and] at hv
        obtain ⟨rfl, rfl⟩ := hv
        have q0 := hc 0 _ rfl
        rw [Nat.add_zero] at q0
        have q1 := hc 1 _ rfl
        have hxm := Hr.out.one (List.mem_of_getElem? hx)
        have hw1 : IntKind.i64.wrap (x.hi - x.lo) = x.hi - x.lo := by rw [IntKind.wrap_i64]; omega
        have HB := Lib.hid hb
        have Hx := Lib.hid hx
        by_cases hf : k ≤ x.hi - x.lo
        · have f1 : decide (k ≤ x.hi - x.lo) = true := by simpa using hf
          have hfit := fitR_eq k hj ha.out (fun y hy => by rw [hx] at hy; cases hy; exact hf)
          have hkk := Hk.out
          have e1 : allocE k L = 0 := by simp [allocE, show ¬ k < 1 by omega, hfit, hx]
          have e2 : allocR k L = ⟨x.lo, x.lo + k⟩ := by simp [allocR, show ¬ k < 1 by omega, hfit, hx]
          have e3 : allocL k L = takeR L x.lo (x.lo + k) := by simp [allocL, show ¬ k < 1 by omega, hfit, hx]
          have hall : allIn L x.lo (x.lo + k) := fun i h1 h2 => isIn_one (List.mem_of_getElem? hx) h1 (by omega)
          obtain ⟨r1, r2⟩ := takeR_ok Hr.out (by omega) (by omega) hall
          have hset := fun W (hW : Below w.heap.size w W) => rset_any (Hk2.out W hW).1 ⟨x.lo, x.lo + k⟩ (by show 0 ≤ x.lo; omega) (by show x.lo + k ≤ N; omega) false
          have hw2 : IntKind.i64.wrap (x.lo + k) = x.lo + k := by rw [IntKind.wrap_i64]; omega
          unfold Rg.val at hset
          have E1 := Lib.hid e1
          have E2 := Lib.hid e2
          have E3 := Lib.hid e3
          have R1 := Lib.hid r1
          have R2 := Lib.hid r2
          have Hset := Lib.hid hset
          clear hx hc hb e1 e2 e3 hall r1 r2 hset hf hfit hkk ha
          go_wp2_with fail
          go_quiet (fail)
          go_wp2_with fail
          have hbq : Below w2.heap.size w2 (wr.drewN nq) := HB.out.trans ⟨rfl, rfl, rfl, Nat.le_refl _, fun _ _ => rfl⟩
          obtain ⟨g', cap4, hv, hg', -, hc⟩ := (Hro.out _ hbq).at Hx.out
          simp only [Value.slice.injEq, Option.some.injEq, Addr.mk.injEq, and_true, true_and] at hv
          obtain ⟨rfl, rfl⟩ := hv
          have p0 := hc 0 _ rfl
          rw [Nat.add_zero] at p0
          have HA3 := Lib.hid (HA2.out.more hbq)
          clear q0 q1 hc hbq hgr
          generalize wr.drewN nq = W3 at p0 hg' HA3 ⊢
          go_region_both
          have hbe : Below W3.heap.size W3 (W3.alloc (.cells #[.int .i64 x.lo, .int .i64 (x.lo + k)] 27)).drew := ((Below.refl _ _).alloc (Nat.le_refl _) _).drew
          have hA4 := HA3.out.more hbe
          have hbx4 : RBox (W3.alloc (.cells #[.int .i64 x.lo, .int .i64 (x.lo + k)] 27)).drew W3.heap.size ⟨x.lo, x.lo + k⟩ := (RBox.made W3 ⟨x.lo, x.lo + k⟩ 27).keep rfl (Nat.le_refl _)
          have hug : W3.heap.size ≠ g := by have := HA3.out.box.1; omega
          generalize (W3.alloc (.cells #[.int .i64 x.lo, .int .i64 (x.lo + k)] 27)).drew = W4 at hA4 hbx4 ⊢
          generalize W3.heap.size = u at hbx4 hug ⊢
          have Hbx4 := Lib.hid hbx4
          obtain ⟨-, x0, x1⟩ := hbx4
          have hse := Hset.out _ hA4.b
          have HA4 := Lib.hid hA4
          clear hbe p0 hg' hA4
          go_wp2_with fail
          refine hse.mono ?_
          rintro e w5 ⟨rfl, hb5, hm5⟩
          have k1 : w5.heap[w.heap.size]? = W4.heap[w.heap.size]? := hm5.block _ HA4.out.box.1 (by omega)
          have k2 : w5.heap[u]? = W4.heap[u]? := hm5.block _ Hbx4.out.1 hug
          have z0 := (World.cell?_of_block (a := ⟨w.heap.size, 0, none⟩) k1).trans HA4.out.box.2.1
          have z1 := (World.cell?_of_block (a := ⟨w.heap.size, 1, none⟩) k1).trans HA4.out.box.2.2
          have f0 := (World.frozen?_of_block (a := ⟨w.heap.size, 0, none⟩) k1).trans (HA4.out.fro 0)
          have f1' := (World.frozen?_of_block (a := ⟨w.heap.size, 1, none⟩) k1).trans (HA4.out.fro 1)
          have y0 := (World.cell?_of_block (a := ⟨u, 0, none⟩) k2).trans x0
          have y1 := (World.cell?_of_block (a := ⟨u, 1, none⟩) k2).trans x1
          have HR5 := Lib.hid (show RM w5 c g N (takeR L x.lo (x.lo + k)) from ⟨hb5.same fun j _ => by
            rw [R2.out]
            unfold setF
            by_cases hc : x.lo ≤ (j : Int) ∧ (j : Int) < x.lo + k
            · rw [if_pos hc, decide_eq_true hc.1, decide_eq_true hc.2]; simp
            · rw [if_neg hc]
              have : (decide (x.lo ≤ (j : Int)) && decide ((j : Int) < x.lo + k)) = false := by rw [Bool.and_eq_false_iff, decide_eq_false_iff_not, decide_eq_false_iff_not]; omega
              rw [this]; simp, R1.out⟩)
          have HM5 := Lib.hid ((Moves.of_below (F := fun q => q = g) HA4.out.b).trans hm5 fun q hq => .inl hq)
          clear hse hb5 hm5 k1 k2 x0 x1
          unfold Rg.zero at z0 z1
          go_wp2_with fail
          refine bodyPost_ret (v := .tuple #[.agg #[.int .i64 x.lo, .int .i64 (x.lo + k)], .int .i64 0]) (by simp [results, Try.results20, go_sem, z0, z1]) rfl ?_
          rw [E1.out, E2.out, E3.out]
          refine ⟨rfl, ?_⟩
          refine ⟨⟨HR5.out.1.keep ?_ ?_, HR5.out.2⟩, ?_⟩
          · rw [Below.heap_setCell _ _ _ _ (by show c ≠ w.heap.size; omega), Below.heap_setCell _ _ _ _ (by show c ≠ w.heap.size; omega)]
          · rw [Below.heap_setCell _ _ _ _ (by show g ≠ w.heap.size; omega), Below.heap_setCell _ _ _ _ (by show g ≠ w.heap.size; omega)]
          · exact (HM5.out.setCell _ _ (.inr (Nat.le_refl _))).setCell _ _ (.inr (Nat.le_refl _))
        · have f1 : decide (k ≤ x.hi - x.lo) = false := by simpa using hf
          have Ha2 : Hid (∀ i y, i < j + 1 → L[i]? = some y → y.hi - y.lo < k) := Lib.hid fun i y hi hy => by
            by_cases hij : i = j
            · rw [hij, hx] at hy; cases hy; omega
            · exact ha.out i y (by omega) hy
          clear hx hc hb hf ha
          go_wp2_with fail
          go_quiet (fail)
          have hbq : Below w2.heap.size w2 (wr.drewN nq) := HB.out.trans ⟨rfl, rfl, rfl, Nat.le_refl _, fun _ _ => rfl⟩
          have HB2 := Lib.hid hbq
          clear hbq
          clear q0 q1
          go_wp2_with fail
          go_roundw
          case rel => exact ⟨j + 1, by omega, by go_num, Ha2, HB2.out⟩
          case measure => simp [intOf]; omega
      · have hx : L[j]? = none := List.getElem?_eq_none (by omega)
        have hfit := fitR_eq k hj ha.out (fun y hy => by rw [hx] at hy; cases hy)
        have hkk := Hk.out
        have E1 := Lib.hid (show allocE k L = 2 by simp [allocE, show ¬ k < 1 by omega, hfit, hx])
        have E2 := Lib.hid (show allocR k L = Rg.zero by simp [allocR, show ¬ k < 1 by omega, hfit, hx])
        have E3 := Lib.hid (show allocL k L = L by simp [allocL, show ¬ k < 1 by omega, hfit, hx])
        have HA3 := Lib.hid (HA2.out.more hb)
        have z0 := HA3.out.box.2.1
        have z1 := HA3.out.box.2.2
        have f0 := HA3.out.fro 0
        have f1 := HA3.out.fro 1
        unfold Rg.zero at z0 z1
        clear hx hfit hkk hb ha
        go_wp2_with fail
        refine bodyPost_ret (v := .tuple #[.agg #[.int .i64 0, .int .i64 0], .int .i64 2]) (by simp [results, Try.results20, go_sem, z0, z1]) rfl ?_
        rw [E1.out, E2.out, E3.out]
        refine ⟨rfl, ?_⟩
        refine RM.told (Hk2.out _ HA3.out.b) HA3.out.b hcl hgl ?_
        iterate 2 refine Moves.setCell ?_ _ _ (.inl rfl)
        exact Moves.refl _ _
end
end Go.Proofs.Ytajbodfdohhhoaa
