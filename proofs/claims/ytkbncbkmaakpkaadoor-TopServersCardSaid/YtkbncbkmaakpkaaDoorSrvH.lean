/- The server's Handle. -/
import Derived.Test.YtkbncbkmaakpkaaDoorSrvB
import Derived.Deep.RegionHeld3
namespace Go.Proofs.YtkbncbkmaakpkaaDoor
open Go.RowKit
/-- A server, whatever it holds. -/
def AnySrv (F : Nat → Prop) (w : World) (sb : Nat) (off : Bool) : Prop := ∃ pb b am um tm km n nt A U err st T Kn, Srv F w sb pb b am um tm km n nt A U err st T Kn ∧ st.off = off
def zMsg : Value := .agg #[.int .i64 0, .int .i64 0, .int .i64 0, .int .i64 0, .int .i64 0, .int .i64 0, .int .i64 0, .string ⟨#[]⟩]
def GB (F : Nat → Prop) (B k : Nat) : Prop := F k ∨ k = B ∨ k = B + 1
section
variable {F : Nat → Prop} {w : World} {sb : Nat}
theorem AnySrv.dead {off : Bool} (h : AnySrv F w sb off) : ∃ pb, w.cell? ⟨sb, 0, none⟩ = some (.pointer (some ⟨pb, 0, none⟩)) ∧ w.cell? ⟨sb, 1, none⟩ = some (.int .i64 3) ∧ w.cell? ⟨sb, 3, none⟩ = some (.int .i64 0) ∧ sb < w.heap.size ∧ Calls Tryd.prog 85 #[.pointer (some ⟨pb, 0, none⟩)] w fun e w' => e = .returned (.bool off) ∧ w = w' := by
  obtain ⟨pb, b, am, um, tm, km, n, nt, A, U, err, st, T, Kn, h1, rfl⟩ := h
  obtain ⟨pv, g1, g2, -⟩ := h1.sh
  exact ⟨pb, h1.c0, h1.c1, h1.c3, h1.bl, dead_any g2⟩
theorem AnySrv.below {off : Bool} {w' : World} (h : AnySrv F w sb off) (hb : Below w.heap.size w w') : AnySrv F w' sb off := by
  obtain ⟨pb, b, am, um, tm, km, n, nt, A, U, err, st, T, Kn, h1, h2⟩ := h
  exact ⟨pb, b, am, um, tm, km, n, nt, A, U, err, st, T, Kn, h1.below hb, h2⟩
theorem look_kinds {kb : Nat} {g : Int → Option Value} (h : IMap Tryd.prog 3 w kb 4 g) (i : Int) (hi : (Lit.int .i64 i).wf = true) (v : Value) (hv : g i = some v) : (Instr.lookup 199 (.map (some kb)) (.int .i64 i) true).run Tryd.prog w = .ok (.tuple #[v, .bool true]) w := by
  have hz : (zeroValue 197).run Tryd.prog w = .ok .nilFunc w := by kernel_rfl
  obtain ⟨f, h1, h2⟩ := h
  have := h1.look (Maps.int_keyed Tryd.underlying3) Tryd.underlying199 hz (Maps.keyOf_int_mk Tryd.underlying3 hi)
  rw [this, h2, hv]
  rfl
theorem look_do {kb : Nat} {g : Int → Option Value} (h : IMap Tryd.prog 3 w kb 4 g) (h2 : g 2 = some (.func (.func 131) #[] #[])) (h3 : g 3 = some (.func (.func 133) #[] #[])) {k : Int} {fd : Nat} (hk : k = 2 ∧ fd = 131 ∨ k = 3 ∧ fd = 133) : (Instr.lookup 199 (.map (some kb)) (.int .i64 k) true).run Tryd.prog w = .ok (.tuple #[.func (.func fd) #[] #[], .bool true]) w := by
  rcases hk with ⟨rfl, rfl⟩ | ⟨rfl, rfl⟩
  · exact look_kinds h 2 (WalkArith.wf_i64 (by omega)) _ h2
  · exact look_kinds h 3 (WalkArith.wf_i64 (by omega)) _ h3
set_option maxRecDepth 100000 in
set_option maxHeartbeats 4000000 in
theorem handle_any (m : Ms) (hf : m.fits) (hch : m.check = 0) (hdst : m.dst = 3) (now : Int) (fd : Nat) (hk : m.kind = 2 ∧ fd = 131 ∨ m.kind = 3 ∧ fd = 133) (e : Int) (dead : Bool) (R : World → Prop)
    (h0 : AnySrv (GB F w.heap.size) ((w.alloc (.cells m.cells.toArray 51)).alloc (.cells #[.int .i64 0, .int .i64 0, .int .i64 0, .int .i64 0, .int .i64 0, .int .i64 0, .int .i64 0, .string ⟨#[]⟩] 51)) sb false)
    (hR1 : ∀ w', R w' → AnySrv (GB F w.heap.size) w' sb dead) (hRb : ∀ w' w'', R w' → Below w'.heap.size w' w'' → R w'') (hRo : ∀ w' w'', R w' → Moves (fun k => k = w.heap.size + 1) w' w'' → R w'')
    (hdo : ∀ W, Below ((w.alloc (.cells m.cells.toArray 51)).alloc (.cells #[.int .i64 0, .int .i64 0, .int .i64 0, .int .i64 0, .int .i64 0, .int .i64 0, .int .i64 0, .string ⟨#[]⟩] 51)).heap.size ((w.alloc (.cells m.cells.toArray 51)).alloc (.cells #[.int .i64 0, .int .i64 0, .int .i64 0, .int .i64 0, .int .i64 0, .int .i64 0, .int .i64 0, .string ⟨#[]⟩] 51)) W →
      Calls Tryd.prog fd #[.pointer (some ⟨sb, 0, none⟩), m.val, .int .i64 now] W fun ev w' => ev = .returned (.tuple #[.int .i64 e, .string ⟨#[]⟩]) ∧ R w' ∧ Moves (NotF (GB F w.heap.size)) W w') :
    Calls Tryd.prog 35 #[.pointer (some ⟨sb, 0, none⟩), m.val, .int .i64 now] w fun ev w' => ev = .returned (.tuple #[if dead then zMsg else .agg #[.int .i64 (128 + m.kind), .int .i64 m.dst, .int .i64 m.src, .int .i64 0, .int .i64 m.seq, .int .i64 m.off, .int .i64 e, .string ⟨#[]⟩], .bool !dead]) ∧ R w' ∧ Moves (NotF F) w w' := by
  obtain ⟨k0, k1, k2, k3, k4, k5, k6, k7⟩ := m
  dsimp only at hdst hk
  subst hdst
  unfold Ms.cells at h0 hdo
  dsimp only at h0 hdo
  generalize hW0 : (w.alloc (.cells [Value.int .i64 k0, .int .i64 k1, .int .i64 3, .int .i64 k3, .int .i64 k4, .int .i64 k5, .int .i64 k6, .string k7].toArray 51)).alloc (.cells #[.int .i64 0, .int .i64 0, .int .i64 0, .int .i64 0, .int .i64 0, .int .i64 0, .int .i64 0, .string ⟨#[]⟩] 51) = W0 at h0 hdo
  have hb00 : Below w.heap.size w W0 := by rw [← hW0]; exact ((Below.refl _ _).alloc (Nat.le_refl _) _).alloc (by simp) _
  have hall : ∀ W, Below W0.heap.size W0 W → AnySrv (GB F w.heap.size) W sb false ∧ W.cell? ⟨w.heap.size, 0, none⟩ = some (.int .i64 k0) ∧ W.cell? ⟨w.heap.size, 1, none⟩ = some (.int .i64 k1) ∧ W.cell? ⟨w.heap.size, 2, none⟩ = some (.int .i64 3) ∧ W.cell? ⟨w.heap.size, 3, none⟩ = some (.int .i64 k3) ∧ W.cell? ⟨w.heap.size, 4, none⟩ = some (.int .i64 k4) ∧ W.cell? ⟨w.heap.size, 5, none⟩ = some (.int .i64 k5) ∧ W.cell? ⟨w.heap.size, 6, none⟩ = some (.int .i64 k6) ∧ W.cell? ⟨w.heap.size, 7, none⟩ = some (.string k7) := fun W hW => by
    have hl : w.heap.size < W0.heap.size := by rw [← hW0]; simp; omega
    have hx : ∀ i, W.cell? ⟨w.heap.size, i, none⟩ = W0.cell? ⟨w.heap.size, i, none⟩ := fun i => World.cell?_of_block (a := ⟨w.heap.size, i, none⟩) (hW.block _ hl)
    have hy : ∀ i, W0.cell? ⟨w.heap.size, i, none⟩ = (#[Value.int .i64 k0, .int .i64 k1, .int .i64 3, .int .i64 k3, .int .i64 k4, .int .i64 k5, .int .i64 k6, .string k7] : Array Value)[i]? := fun i => by
      rw [← hW0, World.cell?_alloc_lt _ _ ⟨w.heap.size, i, none⟩ (by simp), World.cell?_alloc_new]
    exact ⟨h0.below hW, (hx 0).trans (hy 0), (hx 1).trans (hy 1), (hx 2).trans (hy 2), (hx 3).trans (hy 3), (hx 4).trans (hy 4), (hx 5).trans (hy 5), (hx 6).trans (hy 6), (hx 7).trans (hy 7)⟩
  have HALL := Lib.hid hall
  have HB00 := Lib.hid hb00
  have HR1 := Lib.hid hR1
  have HRb := Lib.hid hRb
  have HRo := Lib.hid hRo
  have HDO := Lib.hid hdo
  have HK := Lib.hid hk
  have HF := Lib.hid hf
  have HCH := Lib.hid hch
  have H0 := Lib.hid h0
  clear hall hb00 hR1 hRb hRo hdo hk hf hch h0
  go_enter Tryd.func35, Tryd.ntmps35
  unfold Ms.val
  have hs0 := (HALL.out W0.drew (Below.refl _ _).drew).2.1
  go_wp2_with fail
  go_region_held3 (fun W => W.cell? ⟨w.heap.size, 0, none⟩ = some (.int .i64 k0)) (first | exact hs0 | exact (HALL.out _ hb2).2.1)
    ((first
      | (go_at_call 84
         refine kinds_any.mono ?_
         rintro e1 w2 ⟨kb, g, rfl, hm, hg2, hg3, hb1⟩
         have hb2 : Below W0.heap.size W0 w2 := (Below.refl _ _).drew.trans hb1
         have hlk := look_do hm hg2 hg3 HK.out)))
  have HB2 := Lib.hid hb2
  clear hb2 hlk hm hg2 hg3 hb1 hs0
  obtain ⟨hsr, x0, x1, x2, x3, x4, x5, x6, x7⟩ := HALL.out _ HB2.out
  obtain ⟨pb, c0, c1, c3, hsl, hd⟩ := hsr.dead
  have hS : ∀ W, Below W0.heap.size W0 W → W.cell? ⟨sb, 0, none⟩ = some (.pointer (some ⟨pb, 0, none⟩)) ∧ W.cell? ⟨sb, 1, none⟩ = some (.int .i64 3) ∧ W.cell? ⟨w.heap.size, 0, none⟩ = some (.int .i64 k0) ∧ W.cell? ⟨w.heap.size, 1, none⟩ = some (.int .i64 k1) ∧ W.cell? ⟨w.heap.size, 2, none⟩ = some (.int .i64 3) ∧ W.cell? ⟨w.heap.size, 3, none⟩ = some (.int .i64 k3) ∧ W.cell? ⟨w.heap.size, 4, none⟩ = some (.int .i64 k4) ∧ W.cell? ⟨w.heap.size, 5, none⟩ = some (.int .i64 k5) ∧ W.cell? ⟨w.heap.size, 6, none⟩ = some (.int .i64 k6) ∧ W.cell? ⟨w.heap.size, 7, none⟩ = some (.string k7) := fun W hW => by
    have hsb0 : sb < W0.heap.size := by
      obtain ⟨_, _, _, _, h4, _⟩ := H0.out.dead
      exact h4
    have hx : ∀ i, W.cell? ⟨sb, i, none⟩ = w2.cell? ⟨sb, i, none⟩ := fun i => (World.cell?_of_block (a := ⟨sb, i, none⟩) (hW.block _ hsb0)).trans (World.cell?_of_block (a := ⟨sb, i, none⟩) (HB2.out.block _ hsb0)).symm
    exact ⟨(hx 0).trans c0, (hx 1).trans c1, (HALL.out W hW).2⟩
  have hs2 := hS w2.drew HB2.out.drew
  have hck : Calls Tryd.prog 53 #[.agg #[.int .i64 k0, .int .i64 k1, .int .i64 3, .int .i64 k3, .int .i64 k4, .int .i64 k5, .int .i64 k6, .string k7]] w2.drew fun e w' => e = .returned (.int .i64 0) ∧ Below W0.heap.size W0 w' := by
    have h := check_any (w := w2.drew) _ HF.out
    rw [HCH.out] at h
    exact h.mono fun e w' h => ⟨h.1, HB2.out.drew.trans (h.2.mono HB2.out.size)⟩
  have hdd : Calls Tryd.prog 85 #[.pointer (some ⟨pb, 0, none⟩)] w2.drew fun e w' => e = .returned (.bool false) ∧ w' = w2.drew := by
    obtain ⟨⟨pb2, b2, am2, um2, tm2, km2, n2, nt2, A2, U2, err2, st2, T2, Kn2, h1, h2⟩, -⟩ := HALL.out w2.drew HB2.out.drew
    obtain ⟨pv, g1, g2, -⟩ := h1.sh
    have e1 := h1.c0.symm.trans hs2.1
    injection e1 with e1
    injection e1 with e1
    injection e1 with e1
    injection e1 with e1
    subst e1
    have := dead_any g2
    rw [h2] at this
    exact this.mono fun e w' h => ⟨h.1, h.2.symm⟩
  have HCK := Lib.hid hck
  have HDD := Lib.hid hdd
  have HS := Lib.hid hS
  clear hck hdd hS hd hsr
  go_wp2_with fail
  go_region_held3 (fun W => W.cell? ⟨sb, 0, none⟩ = some (.pointer (some ⟨pb, 0, none⟩)) ∧ W.cell? ⟨sb, 1, none⟩ = some (.int .i64 3) ∧ W.cell? ⟨w.heap.size, 0, none⟩ = some (.int .i64 k0) ∧ W.cell? ⟨w.heap.size, 1, none⟩ = some (.int .i64 k1) ∧ W.cell? ⟨w.heap.size, 2, none⟩ = some (.int .i64 3) ∧ W.cell? ⟨w.heap.size, 3, none⟩ = some (.int .i64 k3) ∧ W.cell? ⟨w.heap.size, 4, none⟩ = some (.int .i64 k4) ∧ W.cell? ⟨w.heap.size, 5, none⟩ = some (.int .i64 k5) ∧ W.cell? ⟨w.heap.size, 6, none⟩ = some (.int .i64 k6) ∧ W.cell? ⟨w.heap.size, 7, none⟩ = some (.string k7)) (first | exact hs2 | exact HS.out _ hb3)
    ((first
      | (go_at_call 85
         with_reducible refine HDD.out.mono ?_
         rintro e1 w3 ⟨rfl, rfl⟩)
      | (go_at_call 53
         with_reducible refine HCK.out.mono ?_
         rintro e1 w3 ⟨rfl, hb3⟩)))
  rcases HK.out with ⟨hk0, rfl⟩ | ⟨hk0, rfl⟩
  all_goals
    have hwk : IntKind.i64.wrap (128 + k0) = 128 + k0 := by rw [IntKind.wrap_i64]; omega
    have HK0 := Lib.hid hk0
    clear hk0
    obtain ⟨-, y0, y1, y2, y3, y4, y5, y6, y7⟩ := HALL.out _ hb3
    have hfd := HDO.out _ hb3
    unfold Ms.val at hfd
    have HB3 := Lib.hid hb3
    clear hb3 hs2 x0 x1 x2 x3 x4 x5 x6 x7 c0 c1 c3 hsl
    go_wp2_with fail
    refine hfd.mono ?_
    rintro e1 w4 ⟨rfl, hR, hm4⟩
    have hl1 : w.heap.size + 1 < W0.heap.size := by rw [← hW0]; simp
    have hkeep : ∀ i, i = w.heap.size ∨ i = w.heap.size + 1 → w4.heap[i]? = W0.heap[i]? := fun i hi => (hm4.block' (by have := HB3.out.size; omega) (.inr hi)).trans (HB3.out.block i (by omega))
    have hxb : ∀ i, W0.cell? ⟨w.heap.size, i, none⟩ = (#[Value.int .i64 k0, .int .i64 k1, .int .i64 3, .int .i64 k3, .int .i64 k4, .int .i64 k5, .int .i64 k6, .string k7] : Array Value)[i]? := fun i => by
      rw [← hW0, World.cell?_alloc_lt _ _ ⟨w.heap.size, i, none⟩ (by simp), World.cell?_alloc_new]
    have hxr : ∀ i, W0.cell? ⟨w.heap.size + 1, i, none⟩ = (#[.int .i64 0, .int .i64 0, .int .i64 0, .int .i64 0, .int .i64 0, .int .i64 0, .int .i64 0, .string ⟨#[]⟩] : Array Value)[i]? := fun i => by
      rw [← hW0, World.cell?_alloc_at _ _ _ _ (by simp)]
    have hfr0 : ∀ i, W0.frozen? ⟨w.heap.size + 1, i, none⟩ = false := fun i => by
      rw [← hW0]
      have e2 : (w.alloc (.cells [Value.int .i64 k0, .int .i64 k1, .int .i64 3, .int .i64 k3, .int .i64 k4, .int .i64 k5, .int .i64 k6, .string k7].toArray 51)).heap.size = w.heap.size + 1 := by simp
      rw [← e2]; exact World.frozen?_alloc_new _ _ _ _
    have hbf : ∀ (w' : World), w'.heap[w.heap.size]? = W0.heap[w.heap.size]? → ∀ i, w'.cell? ⟨w.heap.size, i, none⟩ = (#[Value.int .i64 k0, .int .i64 k1, .int .i64 3, .int .i64 k3, .int .i64 k4, .int .i64 k5, .int .i64 k6, .string k7] : Array Value)[i]? := fun _ h i => (World.cell?_of_block (a := ⟨w.heap.size, i, none⟩) h).trans (hxb i)
    have hrf : ∀ (w' : World), w'.heap[w.heap.size + 1]? = W0.heap[w.heap.size + 1]? → (∀ i, w'.cell? ⟨w.heap.size + 1, i, none⟩ = (#[.int .i64 0, .int .i64 0, .int .i64 0, .int .i64 0, .int .i64 0, .int .i64 0, .int .i64 0, .string ⟨#[]⟩] : Array Value)[i]?) ∧ ∀ i, w'.frozen? ⟨w.heap.size + 1, i, none⟩ = false := fun _ h => ⟨fun i => (World.cell?_of_block (a := ⟨w.heap.size + 1, i, none⟩) h).trans (hxr i), fun i => (World.frozen?_of_block (a := ⟨w.heap.size + 1, i, none⟩) h).trans (hfr0 i)⟩
    obtain ⟨pb4, c0, c1, c3, hsl, hd4⟩ := (HR1.out _ hR).dead
    obtain ⟨hr4, hf4⟩ := hrf _ (hkeep _ (.inr rfl))
    have hM4 : Moves (NotF F) w w4 := ((Moves.of_below (HB00.out.trans (HB3.out.mono HB00.out.size))).trans hm4 fun i hi => by
      rcases Nat.lt_or_ge i w.heap.size with h | h
      · exact .inl fun hF => hi (.inl hF)
      · exact .inr h)
    have hb40 := hkeep _ (.inl rfl)
    have hkr := hkeep _ (.inr rfl)
    have HM4 := Lib.hid hM4
    have HR4 := Lib.hid hR
    have HRF := Lib.hid hrf
    clear hfd hm4 hM4 hR hkeep hxb hxr hfr0 hrf
    have hms : ∀ (W : World) (v0 v1 v2 v3 v4 v5 v6 v7 : Value), Moves (fun k => k = w.heap.size + 1) W ((((((((W.setCell ⟨w.heap.size + 1, 0, none⟩ v0).setCell ⟨w.heap.size + 1, 1, none⟩ v1).setCell ⟨w.heap.size + 1, 2, none⟩ v2).setCell ⟨w.heap.size + 1, 3, none⟩ v3).setCell ⟨w.heap.size + 1, 4, none⟩ v4).setCell ⟨w.heap.size + 1, 5, none⟩ v5).setCell ⟨w.heap.size + 1, 6, none⟩ v6).setCell ⟨w.heap.size + 1, 7, none⟩ v7) := fun W v0 v1 v2 v3 v4 v5 v6 v7 => by
      iterate 7 refine Moves.setCell (F := fun k => k = w.heap.size + 1) ?_ _ _ (.inl rfl)
      exact Moves.setCell (F := fun k => k = w.heap.size + 1) (Moves.refl _ _) _ _ (.inl rfl)
    cases dead with
    | true =>
      obtain ⟨r0, r1, r2, r3, r4, r5, r6, r7⟩ : w4.cell? ⟨w.heap.size + 1, 0, none⟩ = some (.int .i64 0) ∧ w4.cell? ⟨w.heap.size + 1, 1, none⟩ = some (.int .i64 0) ∧ w4.cell? ⟨w.heap.size + 1, 2, none⟩ = some (.int .i64 0) ∧ w4.cell? ⟨w.heap.size + 1, 3, none⟩ = some (.int .i64 0) ∧ w4.cell? ⟨w.heap.size + 1, 4, none⟩ = some (.int .i64 0) ∧ w4.cell? ⟨w.heap.size + 1, 5, none⟩ = some (.int .i64 0) ∧ w4.cell? ⟨w.heap.size + 1, 6, none⟩ = some (.int .i64 0) ∧ w4.cell? ⟨w.heap.size + 1, 7, none⟩ = some (.string ⟨#[]⟩) := ⟨hr4 0, hr4 1, hr4 2, hr4 3, hr4 4, hr4 5, hr4 6, hr4 7⟩
      obtain ⟨f0, f1, f2, f3, f4, f5, f6, f7⟩ : w4.frozen? ⟨w.heap.size + 1, 0, none⟩ = false ∧ w4.frozen? ⟨w.heap.size + 1, 1, none⟩ = false ∧ w4.frozen? ⟨w.heap.size + 1, 2, none⟩ = false ∧ w4.frozen? ⟨w.heap.size + 1, 3, none⟩ = false ∧ w4.frozen? ⟨w.heap.size + 1, 4, none⟩ = false ∧ w4.frozen? ⟨w.heap.size + 1, 5, none⟩ = false ∧ w4.frozen? ⟨w.heap.size + 1, 6, none⟩ = false ∧ w4.frozen? ⟨w.heap.size + 1, 7, none⟩ = false := ⟨hf4 0, hf4 1, hf4 2, hf4 3, hf4 4, hf4 5, hf4 6, hf4 7⟩
      clear hr4 hf4
      go_wp2_with fail
      refine hd4.mono ?_
      rintro e1 w4 ⟨rfl, rfl⟩
      clear hd4
      go_wp2_with fail
      refine bodyPost_ret (v := .tuple #[zMsg, .bool false]) (by simp [results, Tryd.results35, go_sem, zMsg, r0, r1, r2, r3, r4, r5, r6, r7]) rfl ?_
      have hmx := hms w4 (.int .i64 0) (.int .i64 0) (.int .i64 0) (.int .i64 0) (.int .i64 0) (.int .i64 0) (.int .i64 0) (.string ⟨#[]⟩)
      exact ⟨rfl, HRo.out _ _ HR4.out hmx, HM4.out.trans hmx fun i hi => .inr (by omega)⟩
    | false =>
      obtain ⟨p0, p1, p2, p3, p4, p5, p6, p7⟩ : w4.cell? ⟨w.heap.size, 0, none⟩ = some (.int .i64 k0) ∧ w4.cell? ⟨w.heap.size, 1, none⟩ = some (.int .i64 k1) ∧ w4.cell? ⟨w.heap.size, 2, none⟩ = some (.int .i64 3) ∧ w4.cell? ⟨w.heap.size, 3, none⟩ = some (.int .i64 k3) ∧ w4.cell? ⟨w.heap.size, 4, none⟩ = some (.int .i64 k4) ∧ w4.cell? ⟨w.heap.size, 5, none⟩ = some (.int .i64 k5) ∧ w4.cell? ⟨w.heap.size, 6, none⟩ = some (.int .i64 k6) ∧ w4.cell? ⟨w.heap.size, 7, none⟩ = some (.string k7) := ⟨hbf _ hb40 0, hbf _ hb40 1, hbf _ hb40 2, hbf _ hb40 3, hbf _ hb40 4, hbf _ hb40 5, hbf _ hb40 6, hbf _ hb40 7⟩
      have hrp := reply_any (w := w4) ⟨k0, k1, 3, k3, k4, k5, k6, k7⟩ (128 + k0)
      unfold Ms.val at hrp
      have hlB : w.heap.size + 1 < w4.heap.size := World.block_lt_of_cell? w4 _ (hr4 0)
      have HBF := Lib.hid (And.intro hb40 (hkr))
      clear hr4 hf4
      go_wp2_with fail
      refine hd4.mono ?_
      rintro e1 w4 ⟨rfl, rfl⟩
      clear hd4
      go_wp2_with fail
      with_reducible refine hrp.mono ?_
      rintro e1 w5 ⟨rfl, hb5⟩
      have hR5 := HRb.out _ _ HR4.out hb5
      have hk5b := (hb5.block _ (by omega : w.heap.size < w4.heap.size)).trans HBF.out.1
      have hk5r := (hb5.block _ hlB).trans HBF.out.2
      have s3 := (World.cell?_of_block (a := ⟨sb, 3, none⟩) (hb5.block _ hsl)).trans c3
      have u5 := hbf _ hk5b 5
      obtain ⟨hr5, hf5⟩ := HRF.out _ hk5r
      have hn1 : w.heap.size + 1 < w5.heap.size := Nat.lt_of_lt_of_le hlB hb5.size
      have hn2 : sb < w5.heap.size := Nat.lt_of_lt_of_le hsl hb5.size
      have HM5 := Lib.hid (HM4.out.trans (Moves.of_below (F := NotF F) hb5) fun i hi => .inl hi)
      clear hrp hb5 c0 c1 c3 p0 p1 p2 p3 p4 p5 p6 p7 hb40 hkr hk5b hk5r y0 y1 y2 y3 y4 y5 y6 y7 hbf hlB hsl
      go_wp2_with fail
      generalize hW6 : w5.alloc (.cells #[.int .i64 (128 + k0), .int .i64 3, .int .i64 k1, .int .i64 k3, .int .i64 k4, .int .i64 0, .int .i64 0, .string ⟨#[]⟩] 51) = W6
      have hb6 : Below w5.heap.size w5 W6 := by rw [← hW6]; exact (Below.refl _ _).alloc (Nat.le_refl _) _
      have hq : ∀ i, W6.cell? ⟨w5.heap.size, i, none⟩ = (#[.int .i64 (128 + k0), .int .i64 3, .int .i64 k1, .int .i64 k3, .int .i64 k4, .int .i64 0, .int .i64 0, .string ⟨#[]⟩] : Array Value)[i]? := fun i => by rw [← hW6, World.cell?_alloc_new]
      have hg : ∀ i, W6.frozen? ⟨w5.heap.size, i, none⟩ = false := fun i => by rw [← hW6]; exact World.frozen?_alloc_new _ _ _ _
      have hro : ∀ i, W6.cell? ⟨w.heap.size + 1, i, none⟩ = w5.cell? ⟨w.heap.size + 1, i, none⟩ := fun i => World.cell?_of_block (a := ⟨w.heap.size + 1, i, none⟩) (hb6.block _ hn1)
      have hfo : ∀ i, W6.frozen? ⟨w.heap.size + 1, i, none⟩ = false := fun i => (World.frozen?_of_block (a := ⟨w.heap.size + 1, i, none⟩) (hb6.block _ hn1)).trans (hf5 i)
      obtain ⟨q0, q1, q2, q3, q4, q5, q6, q7⟩ : W6.cell? ⟨w5.heap.size, 0, none⟩ = some (.int .i64 (128 + k0)) ∧ W6.cell? ⟨w5.heap.size, 1, none⟩ = some (.int .i64 3) ∧ W6.cell? ⟨w5.heap.size, 2, none⟩ = some (.int .i64 k1) ∧ W6.cell? ⟨w5.heap.size, 3, none⟩ = some (.int .i64 k3) ∧ W6.cell? ⟨w5.heap.size, 4, none⟩ = some (.int .i64 k4) ∧ W6.cell? ⟨w5.heap.size, 5, none⟩ = some (.int .i64 0) ∧ W6.cell? ⟨w5.heap.size, 6, none⟩ = some (.int .i64 0) ∧ W6.cell? ⟨w5.heap.size, 7, none⟩ = some (.string ⟨#[]⟩) := ⟨hq 0, hq 1, hq 2, hq 3, hq 4, hq 5, hq 6, hq 7⟩
      obtain ⟨r0, r1, r2, r3, r4, r5, r6, r7⟩ : W6.cell? ⟨w.heap.size + 1, 0, none⟩ = some (.int .i64 0) ∧ W6.cell? ⟨w.heap.size + 1, 1, none⟩ = some (.int .i64 0) ∧ W6.cell? ⟨w.heap.size + 1, 2, none⟩ = some (.int .i64 0) ∧ W6.cell? ⟨w.heap.size + 1, 3, none⟩ = some (.int .i64 0) ∧ W6.cell? ⟨w.heap.size + 1, 4, none⟩ = some (.int .i64 0) ∧ W6.cell? ⟨w.heap.size + 1, 5, none⟩ = some (.int .i64 0) ∧ W6.cell? ⟨w.heap.size + 1, 6, none⟩ = some (.int .i64 0) ∧ W6.cell? ⟨w.heap.size + 1, 7, none⟩ = some (.string ⟨#[]⟩) := ⟨(hro 0).trans (hr5 0), (hro 1).trans (hr5 1), (hro 2).trans (hr5 2), (hro 3).trans (hr5 3), (hro 4).trans (hr5 4), (hro 5).trans (hr5 5), (hro 6).trans (hr5 6), (hro 7).trans (hr5 7)⟩
      have g3 := hg 3
      have g5 := hg 5
      have g6 := hg 6
      have g7 := hg 7
      have t3 := (World.cell?_of_block (a := ⟨sb, 3, none⟩) (hb6.block _ hn2)).trans s3
      have t5 := (World.cell?_of_block (a := ⟨w.heap.size, 5, none⟩) (hb6.block _ (show w.heap.size < w5.heap.size by omega))).trans u5
      have HR5 := Lib.hid hR5
      generalize hNB : w5.heap.size = NB at *
      have e1 : ¬ (w.heap.size + 1 = NB) := by omega
      have e2 : ¬ (NB = w.heap.size + 1) := by omega
      have e3 : ¬ (sb = NB) := by omega
      have e4 : ¬ (w.heap.size = NB) := by omega
      obtain ⟨f0, f1, f2, f3, f4, f5, f6, f7⟩ : W6.frozen? ⟨w.heap.size + 1, 0, none⟩ = false ∧ W6.frozen? ⟨w.heap.size + 1, 1, none⟩ = false ∧ W6.frozen? ⟨w.heap.size + 1, 2, none⟩ = false ∧ W6.frozen? ⟨w.heap.size + 1, 3, none⟩ = false ∧ W6.frozen? ⟨w.heap.size + 1, 4, none⟩ = false ∧ W6.frozen? ⟨w.heap.size + 1, 5, none⟩ = false ∧ W6.frozen? ⟨w.heap.size + 1, 6, none⟩ = false ∧ W6.frozen? ⟨w.heap.size + 1, 7, none⟩ = false := ⟨hfo 0, hfo 1, hfo 2, hfo 3, hfo 4, hfo 5, hfo 6, hfo 7⟩
      have HB6 := Lib.hid hb6
      clear hq hg hro hfo hr5 hf5 hR5 hb6 s3 u5 hW6
      go_region_both
      all_goals
        go_wp2_with fail
        refine bodyPost_ret (v := .tuple #[.agg #[.int .i64 (128 + k0), .int .i64 3, .int .i64 k1, .int .i64 0, .int .i64 k4, .int .i64 k5, .int .i64 e, .string ⟨#[]⟩], .bool true]) (by simp [results, Tryd.results35, go_sem, r0, r1, r2, r3, r4, r5, r6, r7]) rfl ?_
        have hbx : Below w5.heap.size w5 ((((W6.setCell ⟨NB, 3, none⟩ (.int .i64 0)).setCell ⟨NB, 5, none⟩ (.int .i64 k5)).setCell ⟨NB, 6, none⟩ (.int .i64 e)).setCell ⟨NB, 7, none⟩ (.string ⟨#[]⟩)) := by
          rw [hNB]
          exact (((HB6.out.setCell (Nat.le_refl NB) _).setCell (Nat.le_refl NB) _).setCell (Nat.le_refl NB) _).setCell (Nat.le_refl NB) _
        have hmx := hms ((((W6.setCell ⟨NB, 3, none⟩ (.int .i64 0)).setCell ⟨NB, 5, none⟩ (.int .i64 k5)).setCell ⟨NB, 6, none⟩ (.int .i64 e)).setCell ⟨NB, 7, none⟩ (.string ⟨#[]⟩)) (.int .i64 (128 + k0)) (.int .i64 3) (.int .i64 k1) (.int .i64 0) (.int .i64 k4) (.int .i64 k5) (.int .i64 e) (.string ⟨#[]⟩)
        refine ⟨rfl, HRb.out _ _ (HRo.out _ _ (HRb.out _ _ HR5.out hbx) hmx) (Below.refl _ _).drew, ?_⟩
        exact ((HM5.out.trans (Moves.of_below (F := NotF F) hbx) fun i hi => .inl hi).trans hmx fun i hi => .inr (by omega)).trans (Moves.of_below (F := NotF F) (Below.refl _ _).drew) fun i hi => .inl hi
end
end Go.Proofs.YtkbncbkmaakpkaaDoor
