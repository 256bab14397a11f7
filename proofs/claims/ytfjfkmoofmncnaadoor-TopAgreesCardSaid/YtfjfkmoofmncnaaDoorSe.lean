/- The service serves what waits. -/
import Derived.Test.YtfjfkmoofmncnaaDoorGv
namespace Go.Proofs.YtfjfkmoofmncnaaDoor
open Go.RowKit
def ans (e n : Int) (g r d : Value) : Value := .agg #[.int .i64 e, .int .i64 n, g, r, d]
/-- An answer, whatever it says. -/
def AnsV (v : Value) : Prop := ∃ (e n : Int) (a1 a2 a3 : Option Addr) (n1 n2 n3 c1 c2 c3 : Nat), v = ans e n (.slice a1 n1 c1) (.slice a2 n2 c2) (.slice a3 n3 c3)
theorem Tryd.infoGrant : (Tryd.prog.info? 219).map (fun i => (i.zero, i.size, i.bytes)) = some (some (.agg #[.int .i64 0, .int .i64 0, .int .i64 0, .int .i64 0, .int .i64 0]), 5, 40) := by kernel_rfl
structure SV (w wr : World) (b tb kb mb : Nat) (wv : Value) (n : Nat) (s : GS) (t : (Nat → Nat → Nat) × Nat × List Hd) (lv gv dv : Value) (K : Nat) : Prop where
  svc : IsSvc wr b tb kb mb wv n ⟨t.1, s.B, s.wait, t.2.1, s.by'⟩
  left : wr.ownsRow (w.heap.size + 2) 57 4 lv t.2.2.length (hrows t.2.2)
  a0 : wr.cell? ⟨w.heap.size, 0, none⟩ = some (.int .i64 0)
  a1 : wr.cell? ⟨w.heap.size, 1, none⟩ = some (.int .i64 0)
  a2 : wr.cell? ⟨w.heap.size, 2, none⟩ = some gv
  a3 : wr.cell? ⟨w.heap.size, 3, none⟩ = some (.slice none 0 0)
  a4 : wr.cell? ⟨w.heap.size, 4, none⟩ = some dv
  af : ∀ o, wr.frozen? ⟨w.heap.size, o, none⟩ = false
  g : ∃ k xs, k ≤ K ∧ wr.ownsRow (w.heap.size + 2) 219 5 gv k xs
  r : ∀ o, o < 5 → ∃ u, wr.cell? ⟨w.heap.size + 1, o, none⟩ = some u
  rf : ∀ o, wr.frozen? ⟨w.heap.size + 1, o, none⟩ = false
  mv : Moves (fun k => k = tb ∨ k = b) w wr
  sz : w.heap.size + 2 ≤ wr.heap.size
  bl : b < w.heap.size ∧ tb < w.heap.size
  fl : ∀ k, fps b tb kb mb wv k ∨ k = 1 → k < w.heap.size
section
variable {w wr w' : World} {b tb kb mb n K : Nat} {wv lv gv dv : Value} {s : GS} {t : (Nat → Nat → Nat) × Nat × List Hd}
/-- What is kept is kept; the service has its own turn. -/
theorem SV.turn (h : SV w wr b tb kb mb wv n s t lv gv dv K) {t' : (Nat → Nat → Nat) × Nat × List Hd} (ht : t'.2.2 = t.2.2) (hs : IsSvc w' b tb kb mb wv n ⟨t'.1, s.B, s.wait, t'.2.1, s.by'⟩) (hm : Moves (fun k => k = tb ∨ k = b) wr w') : SV w w' b tb kb mb wv n s t' lv gv dv K := by
  obtain ⟨hb, htb⟩ := h.bl
  have hsz := h.sz
  have hk : ∀ k, w.heap.size ≤ k → k < wr.heap.size → w'.heap[k]? = wr.heap[k]? := fun k h1 h2 => hm.block k h2 (by omega)
  have hc : ∀ o v, wr.cell? ⟨w.heap.size, o, none⟩ = some v → w'.cell? ⟨w.heap.size, o, none⟩ = some v := fun o v h => (World.cell?_of_block (a := ⟨w.heap.size, o, none⟩) (hk w.heap.size (by omega) (by omega))).trans h
  obtain ⟨k, xs, hk1, hk2⟩ := h.g
  refine ⟨hs, by rw [ht]; exact ownsRow_keep h.left fun k hv => hk k (by have := (h.left.lt k hv).1; omega) (h.left.lt k hv).2, hc _ _ h.a0, hc _ _ h.a1, hc _ _ h.a2, hc _ _ h.a3, hc _ _ h.a4, fun o => (World.frozen?_of_block (a := ⟨w.heap.size, o, none⟩) (hk w.heap.size (by omega) (by omega))).trans (h.af o),
    ⟨k, xs, hk1, ownsRow_keep hk2 fun k hv => hk k (by have := (hk2.lt k hv).1; omega) (hk2.lt k hv).2⟩, fun o ho => ?_, fun o => (World.frozen?_of_block (a := ⟨w.heap.size + 1, o, none⟩) (hk (w.heap.size + 1) (by omega) (by omega))).trans (h.rf o), h.mv.trans hm fun i hi => .inl hi, Nat.le_trans hsz hm.size, h.bl, h.fl⟩
  obtain ⟨u, hu⟩ := h.r o ho
  exact ⟨u, (World.cell?_of_block (a := ⟨w.heap.size + 1, o, none⟩) (hk (w.heap.size + 1) (by omega) (by omega))).trans hu⟩
theorem SV.below (h : SV w wr b tb kb mb wv n s t lv gv dv K) (hb : Below wr.heap.size wr w') : SV w w' b tb kb mb wv n s t lv gv dv K := h.turn rfl (h.svc.below hb) (Moves.of_below hb)
theorem SV.mono (h : SV w wr b tb kb mb wv n s t lv gv dv K) {K' : Nat} (hK : K ≤ K') : SV w wr b tb kb mb wv n s t lv gv dv K' := by
  obtain ⟨k, xs, h1, h2⟩ := h.g
  exact ⟨h.svc, h.left, h.a0, h.a1, h.a2, h.a3, h.a4, h.af, ⟨k, xs, Nat.le_trans h1 hK, h2⟩, h.r, h.rf, h.mv, h.sz, h.bl, h.fl⟩
/-- left has grown. -/
theorem SV.more (h : SV w wr b tb kb mb wv n s t lv gv dv K) {lv' : Value} {L : List Hd} (hg : wr.grownBy w' lv.ownBlock) (ho : w'.ownsRow (w.heap.size + 2) 57 4 lv' L.length (hrows L)) : SV w w' b tb kb mb wv n s (t.1, t.2.1, L) lv' gv dv K := by
  obtain ⟨hb, htb⟩ := h.bl
  have hsz := h.sz
  have hk : ∀ k, k < wr.heap.size → lv.ownBlock ≠ some k → w'.heap[k]? = wr.heap[k]? := fun k h1 h2 => hg.block k h1 (fun e => h2 e.symm)
  have hlo : ∀ k, k < w.heap.size + 2 → lv.ownBlock ≠ some k := fun k hk e => by have := (h.left.lt k e).1; omega
  have hc : ∀ o v, wr.cell? ⟨w.heap.size, o, none⟩ = some v → w'.cell? ⟨w.heap.size, o, none⟩ = some v := fun o v h => (World.cell?_of_block (a := ⟨w.heap.size, o, none⟩) (hk w.heap.size (by omega) (hlo _ (by omega)))).trans h
  obtain ⟨k, xs, hk1, hk2⟩ := h.g
  have hne : ∀ q, gv.ownBlock = some q → lv.ownBlock ≠ some q := fun q h1 h2 => by
    rcases hk2.2 with ⟨e, _⟩ | ⟨g, cap, cur, e, _, hh, _⟩
    · rw [e] at h1; simp [Value.ownBlock] at h1
    · rw [e] at h1
      obtain rfl : g = q := by simpa [Value.ownBlock] using h1
      rcases h.left.2 with ⟨e', _⟩ | ⟨g', cap', cur', e', _, hh', _⟩
      · rw [e'] at h2; simp [Value.ownBlock] at h2
      · rw [e'] at h2
        obtain rfl : g' = g := by simpa [Value.ownBlock] using h2
        rw [hh] at hh'
        injection hh' with hh'
        injection hh' with _ h3
        exact absurd h3 (by decide)
  have hfp2 : ∀ k, fps b tb kb mb wv k ∨ k = 1 → w'.heap[k]? = wr.heap[k]? := fun k hf => by
    have hlt : k < wr.heap.size := by rcases hf with hf | rfl; exact h.svc.lt k hf; exact h.svc.whole.lt
    refine hk k hlt fun e => ?_
    have := h.fl k hf
    exact hlo k (by omega) e
  refine ⟨h.svc.keep hfp2, ho, hc _ _ h.a0, hc _ _ h.a1, hc _ _ h.a2, hc _ _ h.a3, hc _ _ h.a4, fun o => (World.frozen?_of_block (a := ⟨w.heap.size, o, none⟩) (hk w.heap.size (by omega) (hlo _ (by omega)))).trans (h.af o),
    ⟨k, xs, hk1, ownsRow_keep hk2 fun k hv => hk k (hk2.lt k hv).2 (hne k hv)⟩, fun o ho' => ?_, fun o => (World.frozen?_of_block (a := ⟨w.heap.size + 1, o, none⟩) (hk (w.heap.size + 1) (by omega) (hlo _ (by omega)))).trans (h.rf o), h.mv.grown hg fun q hq => .inr (by have := (h.left.lt q hq).1; omega), Nat.le_trans hsz hg.size, h.bl, h.fl⟩
  obtain ⟨u, hu⟩ := h.r o ho'
  exact ⟨u, (World.cell?_of_block (a := ⟨w.heap.size + 1, o, none⟩) (hk (w.heap.size + 1) (by omega) (hlo _ (by omega)))).trans hu⟩
/-- The answer's grants have grown. -/
theorem SV.grants (h : SV w wr b tb kb mb wv n s t lv gv dv K) {gv' : Value} {K' k' : Nat} {xs' : List Value} (hg : wr.grownBy w' gv.ownBlock) (ho : w'.ownsRow (w.heap.size + 2) 219 5 gv' k' xs') (hK : k' ≤ K') : SV w (w'.setCell ⟨w.heap.size, 2, none⟩ gv') b tb kb mb wv n s t lv gv' dv K' := by
  obtain ⟨hb, htb⟩ := h.bl
  have hsz := h.sz
  obtain ⟨k0, xs0, hk1, hk2⟩ := h.g
  have hk : ∀ k, k < wr.heap.size → gv.ownBlock ≠ some k → k ≠ w.heap.size → (w'.setCell ⟨w.heap.size, 2, none⟩ gv').heap[k]? = wr.heap[k]? := fun k h1 h2 h3 => (Below.heap_setCell _ _ _ _ h3).trans (hg.block k h1 (fun e => h2 e.symm))
  have hlo : ∀ k, k < w.heap.size + 2 → gv.ownBlock ≠ some k := fun k hk e => by have := (hk2.lt k e).1; omega
  have hw : w'.heap[w.heap.size]? = wr.heap[w.heap.size]? := hg.block _ (by omega) (fun e => hlo _ (by omega) e.symm)
  have hc : ∀ o v, o ≠ 2 → wr.cell? ⟨w.heap.size, o, none⟩ = some v → (w'.setCell ⟨w.heap.size, 2, none⟩ gv').cell? ⟨w.heap.size, o, none⟩ = some v := fun o v h2 h => by
    rw [oth_cell _ _ _ h2]
    exact (World.cell?_of_block (a := ⟨w.heap.size, o, none⟩) hw).trans h
  have hne : ∀ q, lv.ownBlock = some q → gv.ownBlock ≠ some q := fun q h2 h1 => by
    rcases hk2.2 with ⟨e, _⟩ | ⟨g, cap, cur, e, _, hh, _⟩
    · rw [e] at h1; simp [Value.ownBlock] at h1
    · rw [e] at h1
      obtain rfl : g = q := by simpa [Value.ownBlock] using h1
      rcases h.left.2 with ⟨e', _⟩ | ⟨g', cap', cur', e', _, hh', _⟩
      · rw [e'] at h2; simp [Value.ownBlock] at h2
      · rw [e'] at h2
        obtain rfl : g' = g := by simpa [Value.ownBlock] using h2
        rw [hh] at hh'
        injection hh' with hh'
        injection hh' with _ h3
        exact absurd h3 (by decide)
  have hfp2 : ∀ k, fps b tb kb mb wv k ∨ k = 1 → (w'.setCell ⟨w.heap.size, 2, none⟩ gv').heap[k]? = wr.heap[k]? := fun k hf => by
    have hlt := h.fl k hf
    exact hk k (by omega) (hlo k (by omega)) (by omega)
  have hMg : Moves (fun k => k = tb ∨ k = b) w w' := h.mv.grown hg fun q hq => .inr (by have := (hk2.lt q hq).1; omega)
  refine ⟨h.svc.keep hfp2, ownsRow_keep h.left fun k hv => hk k (h.left.lt k hv).2 (hne k hv) (by have := (h.left.lt k hv).1; omega), hc _ _ (by omega) h.a0, hc _ _ (by omega) h.a1, ?_, hc _ _ (by omega) h.a3, hc _ _ (by omega) h.a4, fun o => ?_,
    ⟨k', xs', hK, ownsRow_setCell ho _ _ fun e => by have := (ho.lt _ e).1; simp at this; omega⟩, fun o ho' => ?_, fun o => ?_, hMg.setCell ⟨w.heap.size, 2, none⟩ _ (.inr (Nat.le_refl _)), ?_, h.bl, h.fl⟩
  · exact World.cell?_setCell_same _ _ _ ((World.cell?_of_block (a := ⟨w.heap.size, 2, none⟩) hw).trans h.a2)
  · rw [World.frozen?_setCell]; exact (World.frozen?_of_block (a := ⟨w.heap.size, o, none⟩) hw).trans (h.af o)
  · obtain ⟨u, hu⟩ := h.r o ho'
    exact ⟨u, (World.cell?_of_block (a := ⟨w.heap.size + 1, o, none⟩) (hk (w.heap.size + 1) (by omega) (hlo _ (by omega)) (by omega))).trans hu⟩
  · exact (World.frozen?_of_block (a := ⟨w.heap.size + 1, o, none⟩) (hk (w.heap.size + 1) (by omega) (hlo _ (by omega)) (by omega))).trans (h.rf o)
  · have := hg.size; simp; omega
/-- Five cells told. -/
theorem set5_cells {W : World} {B : Nat} (v0 v1 v2 v3 v4 : Value) (h : ∀ o, o < 5 → ∃ u, W.cell? ⟨B, o, none⟩ = some u) :
    (((((W.setCell ⟨B, 0, none⟩ v0).setCell ⟨B, 1, none⟩ v1).setCell ⟨B, 2, none⟩ v2).setCell ⟨B, 3, none⟩ v3).setCell ⟨B, 4, none⟩ v4).cell? ⟨B, 0, none⟩ = some v0 ∧
    (((((W.setCell ⟨B, 0, none⟩ v0).setCell ⟨B, 1, none⟩ v1).setCell ⟨B, 2, none⟩ v2).setCell ⟨B, 3, none⟩ v3).setCell ⟨B, 4, none⟩ v4).cell? ⟨B, 1, none⟩ = some v1 ∧
    (((((W.setCell ⟨B, 0, none⟩ v0).setCell ⟨B, 1, none⟩ v1).setCell ⟨B, 2, none⟩ v2).setCell ⟨B, 3, none⟩ v3).setCell ⟨B, 4, none⟩ v4).cell? ⟨B, 2, none⟩ = some v2 ∧
    (((((W.setCell ⟨B, 0, none⟩ v0).setCell ⟨B, 1, none⟩ v1).setCell ⟨B, 2, none⟩ v2).setCell ⟨B, 3, none⟩ v3).setCell ⟨B, 4, none⟩ v4).cell? ⟨B, 3, none⟩ = some v3 ∧
    (((((W.setCell ⟨B, 0, none⟩ v0).setCell ⟨B, 1, none⟩ v1).setCell ⟨B, 2, none⟩ v2).setCell ⟨B, 3, none⟩ v3).setCell ⟨B, 4, none⟩ v4).cell? ⟨B, 4, none⟩ = some v4 := by
  have hs : ∀ (X : World) (o : Nat) (v u : Value), X.cell? ⟨B, o, none⟩ = some u → (X.setCell ⟨B, o, none⟩ v).cell? ⟨B, o, none⟩ = some v := fun X o v u h => World.cell?_setCell_same _ _ _ h
  obtain ⟨u0, h0⟩ := h 0 (by omega)
  obtain ⟨u1, h1⟩ := h 1 (by omega)
  obtain ⟨u2, h2⟩ := h 2 (by omega)
  obtain ⟨u3, h3⟩ := h 3 (by omega)
  obtain ⟨u4, h4⟩ := h 4 (by omega)
  refine ⟨?_, ?_, ?_, ?_, ?_⟩
  · rw [oth_cell _ _ _ (by omega), oth_cell _ _ _ (by omega), oth_cell _ _ _ (by omega), oth_cell _ _ _ (by omega)]; exact hs _ _ _ _ h0
  · rw [oth_cell _ _ _ (by omega), oth_cell _ _ _ (by omega), oth_cell _ _ _ (by omega)]; exact hs _ _ _ u1 (by rw [oth_cell _ _ _ (by omega)]; exact h1)
  · rw [oth_cell _ _ _ (by omega), oth_cell _ _ _ (by omega)]; exact hs _ _ _ u2 (by rw [oth_cell _ _ _ (by omega), oth_cell _ _ _ (by omega)]; exact h2)
  · rw [oth_cell _ _ _ (by omega)]; exact hs _ _ _ u3 (by rw [oth_cell _ _ _ (by omega), oth_cell _ _ _ (by omega), oth_cell _ _ _ (by omega)]; exact h3)
  · exact hs _ _ _ u4 (by rw [oth_cell _ _ _ (by omega), oth_cell _ _ _ (by omega), oth_cell _ _ _ (by omega), oth_cell _ _ _ (by omega)]; exact h4)
theorem set5_moves (W : World) (B : Nat) (v0 v1 v2 v3 v4 : Value) : Moves (fun k => k = B) W (((((W.setCell ⟨B, 0, none⟩ v0).setCell ⟨B, 1, none⟩ v1).setCell ⟨B, 2, none⟩ v2).setCell ⟨B, 3, none⟩ v3).setCell ⟨B, 4, none⟩ v4) :=
  Moves.setCell (F := fun k => k = B) (Moves.setCell (F := fun k => k = B) (Moves.setCell (F := fun k => k = B) (Moves.setCell (F := fun k => k = B) (Moves.setCell (F := fun k => k = B) (Moves.refl _ _) ⟨B, 0, none⟩ v0 (.inl rfl)) ⟨B, 1, none⟩ v1 (.inl rfl)) ⟨B, 2, none⟩ v2 (.inl rfl)) ⟨B, 3, none⟩ v3 (.inl rfl)) ⟨B, 4, none⟩ v4 (.inl rfl)
set_option maxRecDepth 100000 in
set_option maxHeartbeats 8000000 in
theorem serve_any (h : IsSvc w b tb kb mb wv n s) (hs : s.Ok) (da : Option Addr) (dn dc : Nat) :
    Calls Tryd.prog 126 #[.pointer (some ⟨b, 0, none⟩), ans 0 0 (.slice none 0 0) (.slice none 0 0) (.slice da dn dc)] w fun e w' => (∃ v, e = .returned v ∧ AnsV v) ∧ ∃ wv', IsSvc w' b tb kb mb wv' n s.serve ∧ Moves (fun k => k = tb ∨ k = b) w w' ∧ ∀ k, wv'.ownBlock = some k → w.heap.size ≤ k := by
  obtain ⟨i0, hi0, hz0, hz1, hz2⟩ := info_parts Tryd.infoHold
  obtain ⟨j0, hj0, gz0, gz1, gz2⟩ := info_parts Tryd.infoGrant
  have Hi := Lib.hid hi0
  have Hz := Lib.hid hz0
  have Hz1 := Lib.hid hz1
  have Hz2 := Lib.hid hz2
  have Gi := Lib.hid hj0
  have Gz := Lib.hid gz0
  have Gz1 := Lib.hid gz1
  have Gz2 := Lib.hid gz2
  clear hi0 hz0 hz1 hz2 hj0 gz0 gz1 gz2
  have hbl := h.lt b (.inl rfl)
  obtain ⟨wa, wcap, rfl⟩ := row_lens h.row
  have hfl : ∀ k, fps b tb kb mb (.slice wa s.wait.length wcap) k ∨ k = 1 → k < w.heap.size := fun k hf => by rcases hf with hf | rfl; exact h.lt k hf; exact h.whole.lt
  have hS0 : SV w ((w.alloc (.cells #[.int .i64 0, .int .i64 0, .slice none 0 0, .slice none 0 0, .slice da dn dc] 111)).alloc (.cells #[.int .i64 0, .int .i64 0, .slice none 0 0, .slice none 0 0, .slice none 0 0] 111)) b tb kb mb (.slice wa s.wait.length wcap) n s (s.R, s.last, []) (.slice none 0 0) (.slice none 0 0) (.slice da dn dc) 0 := by
    have hb : Below w.heap.size w ((w.alloc (.cells #[.int .i64 0, .int .i64 0, .slice none 0 0, .slice none 0 0, .slice da dn dc] 111)).alloc (.cells #[.int .i64 0, .int .i64 0, .slice none 0 0, .slice none 0 0, .slice none 0 0] 111)) := ((Below.refl _ _).alloc (Nat.le_refl _) _).alloc (by simp) _
    have h1 : Below (w.alloc (.cells #[.int .i64 0, .int .i64 0, .slice none 0 0, .slice none 0 0, .slice da dn dc] 111)).heap.size (w.alloc (.cells #[.int .i64 0, .int .i64 0, .slice none 0 0, .slice none 0 0, .slice da dn dc] 111)) ((w.alloc (.cells #[.int .i64 0, .int .i64 0, .slice none 0 0, .slice none 0 0, .slice da dn dc] 111)).alloc (.cells #[.int .i64 0, .int .i64 0, .slice none 0 0, .slice none 0 0, .slice none 0 0] 111)) := (Below.refl _ _).alloc (Nat.le_refl _) _
    have h2 : ∀ j, ((w.alloc (.cells #[.int .i64 0, .int .i64 0, .slice none 0 0, .slice none 0 0, .slice da dn dc] 111)).alloc (.cells #[.int .i64 0, .int .i64 0, .slice none 0 0, .slice none 0 0, .slice none 0 0] 111)).cell? ⟨w.heap.size + 1, j, none⟩ = #[Value.int .i64 0, .int .i64 0, .slice none 0 0, .slice none 0 0, .slice none 0 0][j]? := fun j => by
      have := World.cell?_alloc_new (w.alloc (.cells #[.int .i64 0, .int .i64 0, .slice none 0 0, .slice none 0 0, .slice da dn dc] 111)) #[.int .i64 0, .int .i64 0, .slice none 0 0, .slice none 0 0, .slice none 0 0] 111 j
      rwa [World.size_alloc] at this
    have h3 : ∀ j, ((w.alloc (.cells #[.int .i64 0, .int .i64 0, .slice none 0 0, .slice none 0 0, .slice da dn dc] 111)).alloc (.cells #[.int .i64 0, .int .i64 0, .slice none 0 0, .slice none 0 0, .slice none 0 0] 111)).frozen? ⟨w.heap.size + 1, j, none⟩ = false := fun j => by
      have := World.frozen?_alloc_new (w.alloc (.cells #[.int .i64 0, .int .i64 0, .slice none 0 0, .slice none 0 0, .slice da dn dc] 111)) #[.int .i64 0, .int .i64 0, .slice none 0 0, .slice none 0 0, .slice none 0 0] 111 j
      rwa [World.size_alloc] at this
    refine ⟨h.below hb, World.ownsRow_nil _ _ _ _, (made_cell h1 0).trans rfl, (made_cell h1 1).trans rfl, (made_cell h1 2).trans rfl, (made_cell h1 3).trans rfl, (made_cell h1 4).trans rfl, fun o => made_fro h1 o, ⟨0, [], Nat.le_refl _, World.ownsRow_nil _ _ _ _⟩, fun o ho => ?_, h3, Moves.of_below hb, by simp, ⟨hbl, h.lt tb (.inr (.inl rfl))⟩, hfl⟩
    rw [h2]
    rcases (by omega : o = 0 ∨ o = 1 ∨ o = 2 ∨ o = 3 ∨ o = 4) with rfl | rfl | rfl | rfl | rfl <;> exact ⟨_, rfl⟩
  have c2 := hS0.svc.c2
  have HS0 := Lib.hid hS0
  clear hS0 h
  unfold ans
  go_enter Tryd.func126, Tryd.ntmps126
  go_wp2_with fail
  go_loopw [5, 16] (fun lv p wr => ∃ (k : Nat) (gv : Value), k ≤ s.wait.length ∧ p = .int .i64 (k : Int) ∧ SV w wr b tb kb mb (.slice wa s.wait.length wcap) n s ((s.wait.take k).foldl serveStep (s.R, s.last, [])) lv gv (.slice da dn dc) k) (fun _ p _ => s.wait.length - (intOf p).toNat)
  case atStart => exact ⟨0, _, Nat.zero_le _, rfl, HS0.out⟩
  case round =>
    clear HS0 c2
    obtain ⟨k, gv, hk, rfl, hV0⟩ := hrel
    have h32 := hs.n
    by_cases hlt : k < s.wait.length
    · have e0 : decide ((k : Int) < (s.wait.length : Int)) = true := by simpa using hlt
      have hkz : (k : Int) < (s.wait.length : Int) := by omega
      obtain ⟨x, hx⟩ : ∃ x, s.wait[k]? = some x := ⟨_, List.getElem?_eq_getElem hlt⟩
      have hok := hs.w x (List.mem_of_getElem? hx)
      have hfold := serve_fold (s.wait.take k) (s.R, s.last, []) hs.R hs.l (fun y hy => hs.w y (List.mem_of_mem_take hy)) (fun y hy => by simp at hy)
      have hnext : (s.wait.take (k + 1)).foldl serveStep (s.R, s.last, []) = serveStep ((s.wait.take k).foldl serveStep (s.R, s.last, [])) x := by
        rw [List.take_succ_eq_append_getElem hlt, List.foldl_append, show s.wait[k] = x by rw [List.getElem?_eq_getElem hlt] at hx; exact Option.some.inj hx]
        rfl
      generalize (s.wait.take k).foldl serveStep (s.R, s.last, []) = t at hV0 hfold hnext
      obtain ⟨TR, TL, LL⟩ := t
      obtain ⟨f1, f2, f3, f4⟩ := hfold
      simp only [List.length_nil, List.length_take, Nat.zero_add] at f1 f2 f3 f4
      have hLn : LL.length ≤ 32 := by omega
      obtain ⟨g, cap', ev, hc⟩ := hrowcell hV0.svc.row hx
      injection ev with ev1 ev2 ev3
      subst ev1
      have c0 := hc 0 _ rfl
      have c1 := hc 1 _ rfl
      have c2 := hc 2 _ rfl
      have c3 := hc 3 _ rfl
      rw [Nat.add_zero] at c0
      have hVa := hV0.below ((Below.refl _ _).alloc (Nat.le_refl _) (.cells #[.int .i64 (x.a : Int), .int .i64 (x.b : Int), .int .i64 (x.c : Int), .int .i64 (x.m : Int)] 57))
      have l3 := hVa.svc.c3
      dsimp only at l3
      obtain ⟨la, lcap, rfl⟩ := row_lens (show wr.ownsRow (w.heap.size + 2) 57 4 u5 LL.length (hrows LL) from hV0.left)
      have HV := Lib.hid hVa
      have HS := Lib.hid (show (GS.mk TR s.B s.wait TL s.by').Ok from ⟨f1, hs.w, hs.n, f2, hs.y⟩)
      clear hV0 hVa hc ev2 ev3 hx f3 f4
      by_cases hmax : 1099511627776 ≤ TL
      · have e1 : decide ((1099511627776 : Int) ≤ (TL : Int)) = true := by simp; omega
        have Hstep := Lib.hid (hnext.trans (show serveStep (TR, TL, LL) x = (TR, TL, LL ++ [x]) by unfold serveStep; rw [if_neg (fun h => by have := h.1; simp only at this; omega)]))
        clear hnext
        have hoA : ((wr.alloc (.cells #[.int .i64 (x.a : Int), .int .i64 (x.b : Int), .int .i64 (x.c : Int), .int .i64 (x.m : Int)] 57)).alloc (.cells #[.int .i64 (x.a : Int), .int .i64 (x.b : Int), .int .i64 (x.c : Int), .int .i64 (x.m : Int)] 57)).ownsRow (w.heap.size + 2) 57 4 (.slice la LL.length lcap) LL.length (hrows LL) := World.ownsRow.alloc HV.out.left (.cells #[.int .i64 (x.a : Int), .int .i64 (x.b : Int), .int .i64 (x.c : Int), .int .i64 (x.m : Int)] 57)
        have hcl : ∀ j u, (Hd.cells x)[j]? = some u → ((wr.alloc (.cells #[.int .i64 (x.a : Int), .int .i64 (x.b : Int), .int .i64 (x.c : Int), .int .i64 (x.m : Int)] 57)).alloc (.cells #[.int .i64 (x.a : Int), .int .i64 (x.b : Int), .int .i64 (x.c : Int), .int .i64 (x.m : Int)] 57)).cell? ((⟨(wr.alloc (.cells #[.int .i64 (x.a : Int), .int .i64 (x.b : Int), .int .i64 (x.c : Int), .int .i64 (x.m : Int)] 57)).heap.size, 0, none⟩ : Addr).add j) = some u := fun j u hj => by
          rw [Addr.add_mid, Nat.zero_add, World.cell?_alloc_new]
          simpa [Hd.cells] using hj
        rw [World.size_alloc] at hcl
        have O1 := one_hcells x
        have hbs : w.heap.size + 2 ≤ ((wr.alloc (.cells #[.int .i64 (x.a : Int), .int .i64 (x.b : Int), .int .i64 (x.c : Int), .int .i64 (x.m : Int)] 57)).alloc (.cells #[.int .i64 (x.a : Int), .int .i64 (x.b : Int), .int .i64 (x.c : Int), .int .i64 (x.m : Int)] 57)).heap.size := by have := HV.out.sz; rw [World.size_alloc]; omega
        have HOA := Lib.hid hoA
        have Hcl := Lib.hid hcl
        clear hoA hcl
        go_wp2_with (refine wpList_append_own_at _ rfl (.tmp 25) (.tmp 27) 47 rfl (w.heap.size + 2) 57 i0 _ 4 32 Tryd.underlying47 Hi.out Hz.out Hz1.out Hz2.out rfl (by decide) _ LL.length (hrows LL) rfl HOA.out ⟨wr.heap.size + 1, 0, none⟩ 1 1 (Hd.cells x) rfl rfl Hcl.out O1 (by unfold maxLen; omega) (by omega) hbs ?_)
        intro v5 w5 hown5 hgrow _ _
        have hSV5 := SV.more (L := LL ++ [x]) (HV.out.below ((Below.refl _ _).alloc (Nat.le_refl _) (.cells #[.int .i64 (x.a : Int), .int .i64 (x.b : Int), .int .i64 (x.c : Int), .int .i64 (x.m : Int)] 57))) hgrow (by rw [List.length_append, hrows_app]; simpa [hrows] using hown5)
        have HSV5 := Lib.hid hSV5
        clear hgrow hown5 hSV5
        go_wp2_with fail
        go_roundw
        case rel => exact ⟨k + 1, gv, by omega, by go_num, by rw [Hstep.out]; exact HSV5.out.mono (Nat.le_succ k)⟩
        case measure => simp [intOf]; omega
      · have e1 : decide ((1099511627776 : Int) ≤ (TL : Int)) = false := by simp; omega
        have hrow0 := ownsRow_base (base' := 0) HV.out.left fun _ _ => Nat.zero_le _
        have hbx0 := HBox.made wr x 57
        have hbl2 : b ≠ wr.heap.size ∧ tb ≠ wr.heap.size := by
          obtain ⟨q1, q2⟩ := HV.out.bl
          have := HV.out.sz
          rw [World.size_alloc] at this
          omega
        have HX0 := Lib.hid hbx0
        clear hbx0
        cases hfree : freeB TR x LL with
        | false =>
          have hgv := give_no HV.out.svc HS.out x LL hrow0 (by omega) hfree
          have Hstep := Lib.hid (hnext.trans (show serveStep (TR, TL, LL) x = (TR, TL, LL ++ [x]) by unfold serveStep; rw [if_neg (fun h => by have := h.2.1; simp only at this; rw [hfree] at this; cases this)]))
          unfold Hd.val at hgv
          clear hnext hrow0 hfree
          go_wp2_with (first
            | (go_at_call 123
               refine hgv.mono ?_
               clear hgv
               rintro e w2 ⟨rfl, hb2⟩
               have H2 := Lib.hid (HV.out.below hb2)
               have hbx := HX0.out.below hb2
               have hoA : ((w2).alloc (.cells #[.int .i64 (x.a : Int), .int .i64 (x.b : Int), .int .i64 (x.c : Int), .int .i64 (x.m : Int)] 57)).ownsRow (w.heap.size + 2) 57 4 (.slice la LL.length lcap) LL.length (hrows LL) := World.ownsRow.alloc H2.out.left (.cells #[.int .i64 (x.a : Int), .int .i64 (x.b : Int), .int .i64 (x.c : Int), .int .i64 (x.m : Int)] 57)
               have hcl : ∀ j u, (Hd.cells x)[j]? = some u → ((w2).alloc (.cells #[.int .i64 (x.a : Int), .int .i64 (x.b : Int), .int .i64 (x.c : Int), .int .i64 (x.m : Int)] 57)).cell? ((⟨(w2).heap.size, 0, none⟩ : Addr).add j) = some u := fun j u hj => by
                 rw [Addr.add_mid, Nat.zero_add, World.cell?_alloc_new]
                 simpa [Hd.cells] using hj
               have O1 := one_hcells x
               have hbs : w.heap.size + 2 ≤ ((w2).alloc (.cells #[.int .i64 (x.a : Int), .int .i64 (x.b : Int), .int .i64 (x.c : Int), .int .i64 (x.m : Int)] 57)).heap.size := by have := H2.out.sz; rw [World.size_alloc]; omega
               have HOA := Lib.hid hoA
               have Hcl := Lib.hid hcl
               clear hoA hcl
               have d0 : w2.cell? ⟨wr.heap.size, 0, none⟩ = some (.int .i64 (x.a : Int)) := hbx.a
               have d1 : w2.cell? ⟨wr.heap.size, 1, none⟩ = some (.int .i64 (x.b : Int)) := hbx.b
               have d2 : w2.cell? ⟨wr.heap.size, 2, none⟩ = some (.int .i64 (x.c : Int)) := hbx.c
               have d3 : w2.cell? ⟨wr.heap.size, 3, none⟩ = some (.int .i64 (x.m : Int)) := hbx.m)
            | (refine wpList_append_own_at _ rfl (.tmp 42) (.tmp 44) 47 rfl (w.heap.size + 2) 57 i0 _ 4 32 Tryd.underlying47 Hi.out Hz.out Hz1.out Hz2.out rfl (by decide) _ LL.length (hrows LL) rfl HOA.out ⟨w2.heap.size, 0, none⟩ 1 1 (Hd.cells x) rfl rfl Hcl.out O1 (by unfold maxLen; omega) (by omega) hbs ?_))
          intro v5 w5 hown5 hgrow _ _
          have hSV5 := SV.more (L := LL ++ [x]) (H2.out.below ((Below.refl _ _).alloc (Nat.le_refl _) (.cells #[.int .i64 (x.a : Int), .int .i64 (x.b : Int), .int .i64 (x.c : Int), .int .i64 (x.m : Int)] 57))) hgrow (by rw [List.length_append, hrows_app]; simpa [hrows] using hown5)
          have HSV5 := Lib.hid hSV5
          clear hgrow hown5 hSV5
          go_wp2_with fail
          go_roundw
          case rel => exact ⟨k + 1, gv, by omega, by go_num, by rw [Hstep.out]; exact HSV5.out.mono (Nat.le_succ k)⟩
          case measure => simp [intOf]; omega
        | true =>
          cases hfit : fitsB TR x with
          | false =>
            have hgv := give_full HV.out.svc HS.out x hok LL hrow0 (by omega) hfree hfit
            have Hstep := Lib.hid (hnext.trans (show serveStep (TR, TL, LL) x = (TR, TL, LL ++ [x]) by unfold serveStep; rw [if_neg (fun h => by have := h.2.2; simp only at this; rw [hfit] at this; cases this)]))
            unfold Hd.val at hgv
            clear hnext hrow0 hfree hfit
            go_wp2_with (first
              | (go_at_call 123
                 refine hgv.mono ?_
                 clear hgv
                 rintro e w2 ⟨rfl, hs2, hm2⟩
                 have H2 := Lib.hid (HV.out.turn (t' := (TR, TL, LL)) rfl hs2 hm2)
                 have hbx := HX0.out.keep (hm2.block _ (by rw [World.size_alloc]; omega) (by omega))
                 have hoA : ((w2).alloc (.cells #[.int .i64 (x.a : Int), .int .i64 (x.b : Int), .int .i64 (x.c : Int), .int .i64 (x.m : Int)] 57)).ownsRow (w.heap.size + 2) 57 4 (.slice la LL.length lcap) LL.length (hrows LL) := World.ownsRow.alloc H2.out.left (.cells #[.int .i64 (x.a : Int), .int .i64 (x.b : Int), .int .i64 (x.c : Int), .int .i64 (x.m : Int)] 57)
                 have hcl : ∀ j u, (Hd.cells x)[j]? = some u → ((w2).alloc (.cells #[.int .i64 (x.a : Int), .int .i64 (x.b : Int), .int .i64 (x.c : Int), .int .i64 (x.m : Int)] 57)).cell? ((⟨(w2).heap.size, 0, none⟩ : Addr).add j) = some u := fun j u hj => by
                   rw [Addr.add_mid, Nat.zero_add, World.cell?_alloc_new]
                   simpa [Hd.cells] using hj
                 have O1 := one_hcells x
                 have hbs : w.heap.size + 2 ≤ ((w2).alloc (.cells #[.int .i64 (x.a : Int), .int .i64 (x.b : Int), .int .i64 (x.c : Int), .int .i64 (x.m : Int)] 57)).heap.size := by have := H2.out.sz; rw [World.size_alloc]; omega
                 have HOA := Lib.hid hoA
                 have Hcl := Lib.hid hcl
                 clear hoA hcl
                 have d0 : w2.cell? ⟨wr.heap.size, 0, none⟩ = some (.int .i64 (x.a : Int)) := hbx.a
                 have d1 : w2.cell? ⟨wr.heap.size, 1, none⟩ = some (.int .i64 (x.b : Int)) := hbx.b
                 have d2 : w2.cell? ⟨wr.heap.size, 2, none⟩ = some (.int .i64 (x.c : Int)) := hbx.c
                 have d3 : w2.cell? ⟨wr.heap.size, 3, none⟩ = some (.int .i64 (x.m : Int)) := hbx.m)
              | (refine wpList_append_own_at _ rfl (.tmp 42) (.tmp 44) 47 rfl (w.heap.size + 2) 57 i0 _ 4 32 Tryd.underlying47 Hi.out Hz.out Hz1.out Hz2.out rfl (by decide) _ LL.length (hrows LL) rfl HOA.out ⟨w2.heap.size, 0, none⟩ 1 1 (Hd.cells x) rfl rfl Hcl.out O1 (by unfold maxLen; omega) (by omega) hbs ?_))
            intro v5 w5 hown5 hgrow _ _
            have hSV5 := SV.more (L := LL ++ [x]) (H2.out.below ((Below.refl _ _).alloc (Nat.le_refl _) (.cells #[.int .i64 (x.a : Int), .int .i64 (x.b : Int), .int .i64 (x.c : Int), .int .i64 (x.m : Int)] 57))) hgrow (by rw [List.length_append, hrows_app]; simpa [hrows] using hown5)
            have HSV5 := Lib.hid hSV5
            clear hgrow hown5 hSV5
            go_wp2_with fail
            go_roundw
            case rel => exact ⟨k + 1, gv, by omega, by go_num, by rw [Hstep.out]; exact HSV5.out.mono (Nat.le_succ k)⟩
            case measure => simp [intOf]; omega
          | true =>
            have hgv := give_yes HV.out.svc HS.out x hok LL hrow0 (by omega) hfree hfit (by show TL < _; omega)
            have Hstep := Lib.hid (hnext.trans (show serveStep (TR, TL, LL) x = (putR TR x, TL + 1, LL) by unfold serveStep; rw [if_pos ⟨by show TL < _; omega, hfree, hfit⟩]))
            unfold Hd.val at hgv
            clear hnext hrow0 hfree hfit
            go_wp2_with (first
              | (go_at_call 123
                 refine hgv.mono ?_
                 clear hgv
                 rintro e w2 ⟨rfl, hs2, hm2⟩
                 have hV2 := HV.out.turn (t' := (putR TR x, TL + 1, LL)) rfl hs2 hm2
                 have hbx := HX0.out.keep (hm2.block _ (by rw [World.size_alloc]; omega) (by omega))
                 obtain ⟨gk, gxs, hgk, hgo⟩ := hV2.g
                 obtain ⟨ga, gc, rfl⟩ := row_lens hgo
                 have a2 := hV2.a2
                 have a2f := hV2.af 2
                 have hoA := World.ownsRow.alloc hgo (.cells #[.int .i64 ((TL + 1 : Nat) : Int), .int .i64 (x.a : Int), .int .i64 (x.b : Int), .int .i64 (x.c : Int), .int .i64 (x.m : Int)] 219)
                 have hcl : ∀ j u, [Value.int .i64 ((TL + 1 : Nat) : Int), .int .i64 (x.a : Int), .int .i64 (x.b : Int), .int .i64 (x.c : Int), .int .i64 (x.m : Int)][j]? = some u → (w2.alloc (.cells #[.int .i64 ((TL + 1 : Nat) : Int), .int .i64 (x.a : Int), .int .i64 (x.b : Int), .int .i64 (x.c : Int), .int .i64 (x.m : Int)] 219)).cell? ((⟨w2.heap.size, 0, none⟩ : Addr).add j) = some u := fun j u hj => by
                   rw [Addr.add_mid, Nat.zero_add, World.cell?_alloc_new]
                   simpa using hj
                 have hbs : w.heap.size + 2 ≤ (w2.alloc (.cells #[.int .i64 ((TL + 1 : Nat) : Int), .int .i64 (x.a : Int), .int .i64 (x.b : Int), .int .i64 (x.c : Int), .int .i64 (x.m : Int)] 219)).heap.size := by have := hV2.sz; rw [World.size_alloc]; omega
                 have O1 : ∀ u ∈ [Value.int .i64 ((TL + 1 : Nat) : Int), .int .i64 (x.a : Int), .int .i64 (x.b : Int), .int .i64 (x.c : Int), .int .i64 (x.m : Int)], u.oneCell' = true := by
                   intro u hu
                   simp at hu
                   rcases hu with rfl | rfl | rfl | rfl | rfl <;> rfl
                 have HOA := Lib.hid hoA
                 have Hcl := Lib.hid hcl
                 have Hgo := Lib.hid hgo
                 have H2 := Lib.hid hV2
                 clear hoA hcl hgo hV2
                 have d0 : w2.cell? ⟨wr.heap.size, 0, none⟩ = some (.int .i64 (x.a : Int)) := hbx.a
                 have d1 : w2.cell? ⟨wr.heap.size, 1, none⟩ = some (.int .i64 (x.b : Int)) := hbx.b
                 have d2 : w2.cell? ⟨wr.heap.size, 2, none⟩ = some (.int .i64 (x.c : Int)) := hbx.c
                 have d3 : w2.cell? ⟨wr.heap.size, 3, none⟩ = some (.int .i64 (x.m : Int)) := hbx.m)
              | (refine wpList_append_own_at _ rfl (.tmp 47) (.tmp 51) 109 rfl (w.heap.size + 2) 219 j0 _ 5 40 Tryd.underlying109 Gi.out Gz.out Gz1.out Gz2.out rfl (by decide) _ gk gxs rfl HOA.out ⟨w2.heap.size, 0, none⟩ 1 1 [Value.int .i64 ((TL + 1 : Nat) : Int), .int .i64 (x.a : Int), .int .i64 (x.b : Int), .int .i64 (x.c : Int), .int .i64 (x.m : Int)] rfl rfl Hcl.out O1 (by unfold maxLen; omega) (by omega) hbs ?_))
            intro v5 w5 hown5 hgrow _ _
            have hSV5 := SV.grants (K' := k + 1) (H2.out.below ((Below.refl _ _).alloc (Nat.le_refl _) (.cells #[.int .i64 ((TL + 1 : Nat) : Int), .int .i64 (x.a : Int), .int .i64 (x.b : Int), .int .i64 (x.c : Int), .int .i64 (x.m : Int)] 219))) hgrow hown5 (by omega)
            have HSV5 := Lib.hid hSV5
            have hb5 : w5.heap[w.heap.size]? = w2.heap[w.heap.size]? := by
              have h1 := H2.out.sz
              exact (hgrow.block _ (by rw [World.size_alloc]; omega) (fun e => by have := (Hgo.out.lt _ e.symm).1; omega)).trans (Below.heap_alloc _ _ _ (by omega))
            have q2 : w5.cell? ⟨w.heap.size, 2, none⟩ = some (.slice ga gk gc) := (World.cell?_of_block (a := ⟨w.heap.size, 2, none⟩) hb5).trans H2.out.a2
            have q2f : w5.frozen? ⟨w.heap.size, 2, none⟩ = false := (World.frozen?_of_block (a := ⟨w.heap.size, 2, none⟩) hb5).trans (H2.out.af 2)
            clear hb5
            obtain ⟨g5, cap5, rfl⟩ := ownsRow_succ hown5
            clear hgrow hown5 hSV5
            go_wp2_with fail
            go_roundw
            case rel => exact ⟨k + 1, _, by omega, by go_num, by rw [Hstep.out]; exact HSV5.out⟩
            case measure => simp [intOf]; omega
    · have e0 : decide ((k : Int) < (s.wait.length : Int)) = false := by simp; omega
      have ek : k = s.wait.length := by omega
      subst ek
      rw [List.take_length] at hV0
      have hsv : s.serve = ⟨(s.wait.foldl serveStep (s.R, s.last, [])).1, s.B, (s.wait.foldl serveStep (s.R, s.last, [])).2.2, (s.wait.foldl serveStep (s.R, s.last, [])).2.1, s.by'⟩ := rfl
      generalize s.wait.foldl serveStep (s.R, s.last, []) = t at hV0 hsv
      obtain ⟨TR, TL, LL⟩ := t
      dsimp only at hsv
      have hle : wr.ownsRow (w.heap.size + 2) 57 4 u5 LL.length (hrows LL) := hV0.left
      obtain ⟨la, lcap, rfl⟩ := row_lens hle
      have hsz := hV0.sz
      obtain ⟨hb1, hb2⟩ := hV0.bl
      have hfin := hV0.svc.waits (ownsRow_base hle fun _ _ => Nat.zero_le _) (fun k hk => by
        have h1 := (hle.lt k hk).1
        have h2 := hV0.fl b (.inl (.inl rfl))
        have h3 := hV0.fl tb (.inl (.inr (.inl rfl)))
        have h4 := hV0.fl kb (.inl (.inr (.inr (.inl rfl))))
        have h5 := hV0.fl mb (.inl (.inr (.inr (.inr (.inl rfl)))))
        omega) (fun k hk => by have h1 := (hle.lt k hk).1; omega)
      have hMf : Moves (fun k => k = tb ∨ k = b) w (wr.setCell ⟨b, 2, none⟩ (.slice la LL.length lcap)) := Moves.setCell (F := fun k => k = tb ∨ k = b) hV0.mv ⟨b, 2, none⟩ _ (.inl (.inr rfl))
      have c2 := hV0.svc.c2
      have f2 := hV0.svc.fro 2
      have a0 := hV0.a0
      have a1 := hV0.a1
      have a2 := hV0.a2
      have a3 := hV0.a3
      have a4 := hV0.a4
      obtain ⟨r0, q0⟩ := hV0.r 0 (by omega)
      obtain ⟨r1, q1⟩ := hV0.r 1 (by omega)
      obtain ⟨r2, q2⟩ := hV0.r 2 (by omega)
      obtain ⟨r3, q3⟩ := hV0.r 3 (by omega)
      obtain ⟨r4, q4⟩ := hV0.r 4 (by omega)
      have p0 := hV0.rf 0
      have p1 := hV0.rf 1
      have p2 := hV0.rf 2
      have p3 := hV0.rf 3
      have p4 := hV0.rf 4
      obtain ⟨gk, gxs, hgk, hgo⟩ := hV0.g
      obtain ⟨ga, gc, rfl⟩ := row_lens hgo
      have hnb : w.heap.size ≠ b ∧ w.heap.size + 1 ≠ b := by omega
      have HF := Lib.hid hfin
      have HM := Lib.hid hMf
      have HL := Lib.hid hle
      have HS := Lib.hid hsv
      have hbs : b < wr.heap.size := by omega
      have Hfl := Lib.hid hV0.fl
      clear hfin hMf hV0 hle hgo hsv
      go_wp2_with fail
      obtain ⟨z0, z1, z2, z3, z4⟩ := set5_cells (W := wr.setCell ⟨b, 2, none⟩ (.slice la LL.length lcap)) (B := w.heap.size + 1) (.int .i64 0) (.int .i64 0) (.slice ga gk gc) (.slice none 0 0) (.slice da dn dc) (fun o ho => by
        rw [World.cell?_setCell_other _ _ _ _ (by intro e; injection e with e1 _; omega)]
        rcases (by omega : o = 0 ∨ o = 1 ∨ o = 2 ∨ o = 3 ∨ o = 4) with rfl | rfl | rfl | rfl | rfl
        · exact ⟨_, q0⟩
        · exact ⟨_, q1⟩
        · exact ⟨_, q2⟩
        · exact ⟨_, q3⟩
        · exact ⟨_, q4⟩)
      refine bodyPost_ret (v := ans 0 0 (.slice ga gk gc) (.slice none 0 0) (.slice da dn dc)) (by unfold ans; simp [results, Tryd.results126, go_sem, z0, z1, z2, z3, z4]) rfl ?_
      have hm := set5_moves (wr.setCell ⟨b, 2, none⟩ (.slice la LL.length lcap)) (w.heap.size + 1) (.int .i64 0) (.int .i64 0) (.slice ga gk gc) (.slice none 0 0) (.slice da dn dc)
      have hSf := HF.out.moves hm fun k hk => by
        subst hk
        refine ⟨fun hf => ?_, fun e => ?_⟩
        · rcases hf with hf | hf | hf | hf | hf
          · omega
          · omega
          · have := Hfl.out kb (.inl (.inr (.inr (.inl rfl)))); omega
          · have := Hfl.out mb (.inl (.inr (.inr (.inr (.inl rfl))))); omega
          · have := (HL.out.lt _ hf).1; omega
        · have := Hfl.out _ (.inr rfl); omega
      rw [← HS.out] at hSf
      exact ⟨⟨_, rfl, ⟨_, _, _, _, _, _, _, _, _, _, _, rfl⟩⟩, _, hSf, HM.out.trans hm fun k hk => .inr (by omega), fun k hk => by have := (HL.out.lt k hk).1; omega⟩
end
end Go.Proofs.YtfjfkmoofmncnaaDoor
