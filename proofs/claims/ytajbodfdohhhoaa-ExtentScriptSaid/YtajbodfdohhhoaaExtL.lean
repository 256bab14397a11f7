/- The map's Alloc. -/
import Derived.Test.YtajbodfdohhhoaaExtK
import Derived.BigRegion
namespace Go.Proofs.Ytajbodfdohhhoaa
open Go.RowKit
def allocE (k : Int) (L : List Rg) : Int := if k < 1 then 1 else match L[fitR k L]? with
  | some _ => 0
  | none => 2
def allocR (k : Int) (L : List Rg) : Rg := if k < 1 then Rg.zero else match L[fitR k L]? with
  | some x => ⟨x.lo, x.lo + k⟩
  | none => Rg.zero
def allocL (k : Int) (L : List Rg) : List Rg := if k < 1 then L else match L[fitR k L]? with
  | some x => takeR L x.lo (x.lo + k)
  | none => L
theorem Rises.one {n : Int} : ∀ {L : List Rg} {c : Int} {r : Rg}, Rises n c L → r ∈ L → c < r.lo ∧ r.lo < r.hi ∧ r.hi ≤ n
  | [], _, _, _, hm => nomatch hm
  | x :: L, c, r, ⟨h1, h2, h3, h4⟩, hm => by
    rcases List.mem_cons.1 hm with rfl | hm
    · exact ⟨h1, h2, h3⟩
    · have := h4.one hm; omega
theorem isIn_one : ∀ {L : List Rg} {r : Rg} {i : Int}, r ∈ L → r.lo ≤ i → i < r.hi → isIn L i = true
  | x :: L, r, i, hm, h1, h2 => by
    rw [isIn_cons]
    rcases List.mem_cons.1 hm with rfl | hm
    · exact .inl ⟨h1, h2⟩
    · exact .inr (isIn_one hm h1 h2)
theorem TurnedR.aside {w X w4 w8 : World} {b r : Nat} {n : Int} {v : Value} {L L' : List Rg} (h : IsMap w b n v L) (hb : Below w.heap.size w X) (hT : TurnedR X b n v L' w4) (hm : Moves (fun k => k = r) w4 w8) (h1 : w.heap.size ≤ r) (h2 : r < X.heap.size) : TurnedR w b n v L' w8 := by
  obtain ⟨v', hh, m, hf⟩ := hT
  have hr : ¬ bfp b v' r := fun hk => by
    rcases hf r hk with h3 | h3
    · have := h.lt r h3; omega
    · omega
  refine ⟨v', hh.moves hm fun k hk e => hr (e ▸ hk), ((Moves.of_below hb).trans m fun k hk => .inl hk).trans hm fun k hk => .inr (by omega), fun k hk => ?_⟩
  rcases hf k hk with h3 | h3
  · exact .inl h3
  · exact .inr (Nat.le_trans hb.size h3)
/-- In the midst of Alloc. -/
structure AX (w0 : World) (k : Int) (W : World) : Prop where
  b : Below w0.heap.size w0 W
  kk : W.cell? ⟨w0.heap.size, 0, none⟩ = some (.int .i64 k)
  box : RBox W (w0.heap.size + 1) Rg.zero
  fro : ∀ o, W.frozen? ⟨w0.heap.size + 1, o, none⟩ = false
theorem AX.more {w0 W W' : World} {k : Int} (h : AX w0 k W) (hb : Below W.heap.size W W') : AX w0 k W' :=
  ⟨h.b.trans (hb.mono h.b.size), (hb.cell (World.block_lt_of_cell? W _ h.kk)).trans h.kk, h.box.below hb, fun o => (hb.frozen (p := ⟨w0.heap.size + 1, o, none⟩) h.box.1).trans (h.fro o)⟩
theorem AX.made (w : World) (k : Int) (t u : TypeId) : AX w k ((w.alloc (.cells #[.int .i64 k] t)).alloc (.cells #[.int .i64 0, .int .i64 0] u)) := by
  have hs : (w.alloc (.cells #[.int .i64 k] t)).heap.size = w.heap.size + 1 := by simp
  refine ⟨((Below.refl _ _).alloc (Nat.le_refl _) _).alloc (by simp) _, by rw [World.cell?_alloc_lt _ _ _ (by simp), World.cell?_alloc_new]; rfl, ?_, fun o => ?_⟩
  · rw [← hs]; exact RBox.made _ Rg.zero u
  · rw [← hs]; exact World.frozen?_alloc_new _ _ _ _
section
variable {w : World}
set_option maxRecDepth 100000 in
set_option maxHeartbeats 8000000 in
theorem malloc_any {b : Nat} {n : Int} {v : Value} {L : List Rg} (h : IsMap w b n v L) (k : Int) :
    Calls Try.prog 10 #[.pointer (some ⟨b, 0, none⟩), .int .i64 k] w fun e w' => e = .returned (.tuple #[(allocR k L).val, .int .i64 (allocE k L)]) ∧ TurnedR w b n v (allocL k L) w' := by
  have hA := AX.made w k 3 27
  by_cases hk : k < 1
  · have e1 : allocE k L = 1 := by simp [allocE, hk]
    have e2 : allocR k L = Rg.zero := by simp [allocR, hk]
    have e3 : allocL k L = L := by simp [allocL, hk]
    rw [e1, e2, e3]
    have t1 : decide (k < 1) = true := by simpa using hk
    have y0 := hA.kk
    obtain ⟨-, z0, z1⟩ := hA.box
    have f0 := hA.fro 0
    have f1 := hA.fro 1
    have hqt := TurnedR.quiet h (w' := w) (Below.refl _ _)
    have HA := Lib.hid hA
    have Hh := Lib.hid h
    clear e1 e2 e3 hk hA h hqt
    unfold Rg.val Rg.zero
    unfold Rg.zero at z0 z1
    go_enter Try.func10, Try.ntmps10
    generalize hW : ((w.alloc (.cells #[.int .i64 k] 3)).alloc (.cells #[.int .i64 0, .int .i64 0] 27)) = W at HA y0 z0 z1 f0 f1
    go_wp2_with fail
    refine bodyPost_ret (v := .tuple #[.agg #[.int .i64 0, .int .i64 0], .int .i64 1]) (by simp [results, Try.results10, go_sem, z0, z1]) rfl ?_
    refine ⟨rfl, ?_⟩
    refine TurnedR.aside (r := w.heap.size + 1) Hh.out HA.out.b (TurnedR.refl (Hh.out.below HA.out.b)) ?_ (Nat.le_succ _) HA.out.box.1
    iterate 2 refine Moves.setCell ?_ _ _ (.inl rfl)
    exact Moves.refl _ _
  · have hidx := fun W (hW : AX w k W) => idx_fit (h.below hW.b).row (by have := h.len; omega) (fun r hr => by have := h.rise.one hr; have := h.n2; omega) w.heap.size k hW.kk
    rw [idxF_fit] at hidx
    have hle := fitR_le k L
    have hat := fitR_at k L
    have hahead := True.intro
    obtain ⟨j, hj⟩ : ∃ j, fitR k L = j := ⟨_, rfl⟩
    have t1 : decide (k < 1) = false := by simpa using hk
    rw [hj] at hidx hle hat
    have Hidx := Lib.hid hidx
    have HA := Lib.hid hA
    have Hh := Lib.hid h
    cases hx : L[j]? with
    | none =>
      have e1 : allocE k L = 2 := by simp [allocE, hk, hj, hx]
      have e2 : allocR k L = Rg.zero := by simp [allocR, hk, hj, hx]
      have e3 : allocL k L = L := by simp [allocL, hk, hj, hx]
      have e4 : idxI j L.length = -1 := if_neg (by have := List.getElem?_eq_none_iff.1 hx; omega)
      rw [e1, e2, e3]
      rw [e4] at Hidx
      clear e1 e2 e3 e4 hk hA h hidx hx hat hahead hle hj
      unfold Rg.val Rg.zero
      go_enter Try.func10, Try.ntmps10
      generalize hW : ((w.alloc (.cells #[.int .i64 k] 3)).alloc (.cells #[.int .i64 0, .int .i64 0] 27)) = W at HA
      have y0 := HA.out.kk
      have c1 := (Hh.out.below HA.out.b).c1
      have hid := Hidx.out W HA.out
      go_wp2_with fail
      refine hid.mono ?_
      rintro e w2 ⟨rfl, hb2⟩
      have HA2 := Lib.hid (HA.out.more hb2)
      have z0 := HA2.out.box.2.1
      have z1 := HA2.out.box.2.2
      have f0 := HA2.out.fro 0
      have f1 := HA2.out.fro 1
      unfold Rg.zero at z0 z1
      clear hid hb2 y0 c1
      go_wp2_with fail
      refine bodyPost_ret (v := .tuple #[.agg #[.int .i64 0, .int .i64 0], .int .i64 2]) (by simp [results, Try.results10, go_sem, z0, z1]) rfl ?_
      refine ⟨rfl, ?_⟩
      refine TurnedR.aside (r := w.heap.size + 1) Hh.out HA2.out.b (TurnedR.refl (Hh.out.below HA2.out.b)) ?_ (Nat.le_succ _) HA2.out.box.1
      iterate 2 refine Moves.setCell ?_ _ _ (.inl rfl)
      exact Moves.refl _ _
    | some x =>
      have hkx := hat x hx
      have hxm := h.rise.one (List.mem_of_getElem? hx)
      have hn2 := h.n2
      have hall : allIn L x.lo (x.lo + k) := fun i h1 h2 => isIn_one (List.mem_of_getElem? hx) h1 (by omega)
      have e1 : allocE k L = 0 := by simp [allocE, hk, hj, hx]
      have e2 : allocR k L = ⟨x.lo, x.lo + k⟩ := by simp [allocR, hk, hj, hx]
      have e3 : allocL k L = takeR L x.lo (x.lo + k) := by simp [allocL, hk, hj, hx]
      have hjl := (List.getElem?_eq_some_iff.1 hx).1
      have e4 : idxI j L.length = (j : Int) := if_pos hjl
      rw [e1, e2, e3]
      rw [e4] at Hidx
      have hmz : mayE n ⟨x.lo, x.lo + k⟩ = 0 := by
        unfold mayE
        rw [if_neg (by show ¬ x.lo + k ≤ x.lo; omega), if_neg (by show ¬ (x.lo < 0 ∨ n < x.lo + k); omega)]
      have hok := (okT_iff (r := ⟨x.lo, x.lo + k⟩) h.rise (by show 0 ≤ x.lo; omega) (by show x.lo < x.lo + k; omega)).2 hall
      have e5 : takeE n L ⟨x.lo, x.lo + k⟩ = 0 := by simp [takeE, hmz, hok]
      have e6 : takeS n L ⟨x.lo, x.lo + k⟩ = takeR L x.lo (x.lo + k) := by simp [takeS, hmz, hok]
      have htk := fun W (hW : IsMap W b n v L) => mtake_any hW ⟨x.lo, x.lo + k⟩
      rw [e5, e6] at htk
      unfold Rg.val at htk ⊢
      have Htk := Lib.hid htk
      have hw1 : IntKind.i64.wrap (x.lo + k) = x.lo + k := by rw [IntKind.wrap_i64]; omega
      have Hx := Lib.hid hx
      generalize takeR L x.lo (x.lo + k) = LT at Htk
      clear e1 e2 e3 e4 e5 e6 hall hmz hok htk hk hA h hidx hx hat hahead hle hj hkx hxm
      go_enter Try.func10, Try.ntmps10
      generalize hW : ((w.alloc (.cells #[.int .i64 k] 3)).alloc (.cells #[.int .i64 0, .int .i64 0] 27)) = W at HA
      have y0 := HA.out.kk
      have c1 := (Hh.out.below HA.out.b).c1
      have hid := Hidx.out W HA.out
      go_wp2_with fail
      refine hid.mono ?_
      rintro e w2 ⟨rfl, hb2⟩
      have HA2 := Lib.hid (HA.out.more hb2)
      clear hid hb2 y0 c1 hW HA
      go_upto_region 6 with (fail)
      go_cut [7] from 20 (fun s7 W3 => ∃ u, s7 = .pointer (some ⟨u, 0, none⟩) ∧ AX w k W3 ∧ w.heap.size + 2 ≤ u ∧ RBox W3 u ⟨x.lo, x.lo + k⟩)
      case first =>
        have hI := Hh.out.below HA2.out.b
        have y0 := HA2.out.kk
        have c1 := hI.c1
        obtain ⟨g, cap, rfl, hg, hcl, hc⟩ := hI.row.at Hx.out
        have g0 := hc 0 _ rfl
        rw [Nat.add_zero] at g0
        clear hc hI
        have hb1 : b < w2.heap.size := World.block_lt_of_cell? w2 _ c1
        have hb2 : w.heap.size < w2.heap.size := World.block_lt_of_cell? w2 _ y0
        have hAD := HA2.out.more (Below.refl w2.heap.size w2).drew
        go_region_both
        have hbe : Below w2.heap.size w2 (w2.alloc (.cells #[.int .i64 x.lo, .int .i64 (x.lo + k)] 27)).drew := ((Below.refl _ _).alloc (Nat.le_refl _) _).drew
        have HN := Lib.hid (HA2.out.more hbe)
        have hsz := HA2.out.box.1
        have HR := Lib.hid ((RBox.made w2 ⟨x.lo, x.lo + k⟩ 27).keep (w' := (w2.alloc (.cells #[.int .i64 x.lo, .int .i64 (x.lo + k)] 27)).drew) rfl (Nat.le_refl _))
        clear hbe g0 c1 y0 hAD
        go_wp2_with fail
        go_meet
        exact ⟨_, rfl, HN.out, hsz, HR.out⟩
      case rest =>
        obtain ⟨u, rfl, hA3, hu, hB3⟩ := hcut
        have htk := Htk.out _ (((Hh.out.below hA3.b)).drew)
        have hnb : ∀ q, w.heap.size ≤ q → ¬ bfp b v q := fun q hq h => by have := Hh.out.lt q h; omega
        have hfin : ∀ w4, TurnedR wc.drew b n v LT w4 → Hid (TurnedR wc.drew b n v LT w4) ∧ w4.cell? ⟨u, 0, none⟩ = some (.int .i64 x.lo) ∧ w4.cell? ⟨u, 1, none⟩ = some (.int .i64 (x.lo + k)) ∧ w4.cell? ⟨w.heap.size + 1, 0, none⟩ = some (.int .i64 0) ∧ w4.cell? ⟨w.heap.size + 1, 1, none⟩ = some (.int .i64 0) ∧ w4.frozen? ⟨w.heap.size + 1, 0, none⟩ = false ∧ w4.frozen? ⟨w.heap.size + 1, 1, none⟩ = false := fun w4 hT => by
          have hT0 := hT
          obtain ⟨v4, -, m4, -⟩ := hT
          have k1 : w4.heap[u]? = wc.heap[u]? := m4.block u hB3.1 (hnb u (by omega))
          have k2 : w4.heap[w.heap.size + 1]? = wc.heap[w.heap.size + 1]? := m4.block _ hA3.box.1 (hnb _ (by omega))
          exact ⟨hT0, (World.cell?_of_block (a := ⟨u, 0, none⟩) k1).trans hB3.2.1, (World.cell?_of_block (a := ⟨u, 1, none⟩) k1).trans hB3.2.2, (World.cell?_of_block (a := ⟨w.heap.size + 1, 0, none⟩) k2).trans hA3.box.2.1, (World.cell?_of_block (a := ⟨w.heap.size + 1, 1, none⟩) k2).trans hA3.box.2.2, (World.frozen?_of_block (a := ⟨w.heap.size + 1, 0, none⟩) k2).trans (hA3.fro 0), (World.frozen?_of_block (a := ⟨w.heap.size + 1, 1, none⟩) k2).trans (hA3.fro 1)⟩
        have Hfin := Lib.hid hfin
        have htk2 := Lib.hid htk
        have x0 := hB3.2.1
        have x1 := hB3.2.2
        have HA3 := Lib.hid hA3
        clear hfin htk hA3 hB3
        go_wp2_with fail
        go_region_law (first
          | (go_simp
             go_at_call 14
             refine htk2.out.mono ?_
             rintro e w4 ⟨rfl, hT4⟩
             obtain ⟨HT4, u0, u1, z0, z1, f0, f1⟩ := Hfin.out w4 hT4))
        all_goals
          go_wp2_with fail
          refine bodyPost_ret (v := .tuple #[.agg #[.int .i64 x.lo, .int .i64 (x.lo + k)], .int .i64 0]) (by simp [results, Try.results10, go_sem, z0, z1]) rfl ?_
          refine ⟨rfl, ?_⟩
          refine TurnedR.aside (r := w.heap.size + 1) Hh.out HA3.out.b.drew HT4.out ?_ (Nat.le_succ _) HA3.out.box.1
          iterate 2 refine Moves.setCell ?_ _ _ (.inl rfl)
          exact Moves.refl _ _
end
end Go.Proofs.Ytajbodfdohhhoaa
