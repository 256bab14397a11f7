/- span: some: the holds of a range, of the clients and modes that a closure lets in. -/
import Derived.Test.YtfjfkmoofmncnaaDoorMb
import Derived.RangeFuncBox
import Derived.StillTailTactics
import Derived.Maps.OwnIn
import Derived.Shelf.AbstractIn
namespace Go.Proofs.YtfjfkmoofmncnaaDoor
open Go.RowKit Go.Shelf
attribute [local go_sem] Oper.semAt_some
/-- Where some stands, the boxes of the range and of the closure ahead of the list's. -/
structure SW (w W : World) (fv v : Value) (a z : Nat) (L : List Hd) : Prop where
  bel : Below w.heap.size w W
  sz : w.heap.size + 3 ≤ W.heap.size
  r0 : W.cell? ⟨w.heap.size, 0, none⟩ = some (.int .i64 (a : Int))
  r1 : W.cell? ⟨w.heap.size, 1, none⟩ = some (.int .i64 (z : Int))
  f : W.cell? ⟨w.heap.size + 1, 0, none⟩ = some fv
  l : Boxed W (w.heap.size + 2) 47 v
  row : W.ownsRow (w.heap.size + 3) 57 4 v L.length (hrows L)
theorem SW.more {w W W' : World} {fv v : Value} {a z : Nat} {L : List Hd} (h : SW w W fv v a z L) (hm : Moves (fun _ => False) W W') : SW w W' fv v a z L := by
  have hk : ∀ k, k < W.heap.size → W'.heap[k]? = W.heap[k]? := fun k hk => hm.block k hk fun h => h
  have h0 := h.sz
  exact ⟨h.bel.trans (hm.below h.bel.size fun k hk => hk.elim), Nat.le_trans h.sz hm.size, (World.cell?_of_block (a := ⟨w.heap.size, 0, none⟩) (hk w.heap.size (by omega))).trans h.r0, (World.cell?_of_block (a := ⟨w.heap.size, 1, none⟩) (hk w.heap.size (by omega))).trans h.r1,
    (World.cell?_of_block (a := ⟨w.heap.size + 1, 0, none⟩) (hk (w.heap.size + 1) (by omega))).trans h.f, (hk _ (by omega)).trans h.l, ownsRow_keep h.row fun k hv => hk k (h.row.lt k hv).2⟩
section
variable {w : World} {b : Nat} {R : Nat → Nat → Nat}
set_option maxRecDepth 100000 in
set_option maxHeartbeats 4000000 in
theorem some_any (h : IsTab w b R) (hR : ∀ c k, c < 8 → k < 256 → R c k < 256) (a z : Nat) (wf : FuncId) (lb : Array Value) (p : Nat → Nat → Bool) (eg : ∀ args w, (callFunc wf args).run Tryd.prog w = .ok (.enter wf args) w)
    (hp : ∀ (c m : Nat) (W : World), c < 8 → m < 256 → Below w.heap.size w W → Calls Tryd.prog wf (#[.int .i64 (c : Int), .int .i64 (m : Int)] ++ lb) W fun e w' => e = .returned (.bool (p c m)) ∧ W = w') :
    Calls Tryd.prog 71 #[.pointer (some ⟨b, 0, none⟩), rng a z, .func (.func wf) #[] lb] w fun e w' => ∃ v, e = .returned v ∧ w'.ownsRow w.heap.size 57 4 v (someOf R a z p 8).length (hrows (someOf R a z p 8)) ∧ Below w.heap.size w w' := by
  refine (callsIn_wide (n := 4)).1 ?_
  refine callsIn_of_wp_marks Tryd.func71 rfl trivial ?_ rfl
  unfold rng
  simp only [Tryd.ntmps71, List.size_toArray, List.length_cons, List.length_nil, Nat.reduceAdd, Nat.reduceSub, Array.replicate_succ, Array.replicate_zero, List.push_toArray, List.append_toArray, List.nil_append, List.cons_append]
  gi_wp2
  refine wpIn_loop (fun a' w' => ∃ (c : Nat) (Ds : List Nat) (v u8 u9 u10 u12 u13 u14 u15 u16 u17 u18 u19 u20 u21 u22 u23 u24 u25 u26 u27 u28 u29 u30 u31 u32 u33 u34 u35 : Value), c ≤ 8 ∧ Ds.Nodup ∧ (∀ D ∈ Ds, w'.heap[D]? = some (.deferred (some [])) ∧ w.heap.size + 3 ≤ D) ∧ SW w w' (.func (.func wf) #[] lb) v a z (someOf R a z p c) ∧
    a' = { tmps := #[.pointer (some ⟨b, 0, none⟩), .agg #[.int .i64 (a : Int), .int .i64 (z : Int)], .func (.func wf) #[] lb, undef, .pointer (some ⟨w.heap.size, 0, none⟩), .pointer (some ⟨w.heap.size + 1, 0, none⟩), .slice none 0 0, .pointer (some ⟨w.heap.size + 1 + 1, 0, none⟩), u8, u9, u10, .int .i64 (c : Int), u12, u13, u14, u15, u16, u17, u18, u19, u20, u21, u22, u23, u24, u25, u26, u27, u28, u29, u30, u31, u32, u33, u34, u35], defers := Ds.map mark }) (fun a' _ => 8 - (intOf (a'.tmps.getD 11 undef)).toNat) ?start ?round
  case start =>
    refine ⟨0, [], .slice none 0 0, _, _, _, _, _, _, _, _, _, _, _, _, _, _, _, _, _, _, _, _, _, _, _, _, _, _, _, by omega, List.nodup_nil, fun D hD => by simp at hD, ⟨?_, ?_, ?_, ?_, ?_, ?_, ?_⟩, rfl⟩
    · exact (((Below.refl _ _).alloc (Nat.le_refl _) _).alloc (by simp) _).alloc (by simp; omega) _
    · simp
    · exact (World.cell?_of_block (a := ⟨w.heap.size, 0, none⟩) (Below.heap_alloc _ _ _ (by simp; omega))).trans ((World.cell?_of_block (a := ⟨w.heap.size, 0, none⟩) (Below.heap_alloc _ _ _ (by simp))).trans (by rw [World.cell?_alloc_new]; rfl))
    · exact (World.cell?_of_block (a := ⟨w.heap.size, 1, none⟩) (Below.heap_alloc _ _ _ (by simp; omega))).trans ((World.cell?_of_block (a := ⟨w.heap.size, 1, none⟩) (Below.heap_alloc _ _ _ (by simp))).trans (by rw [World.cell?_alloc_new]; rfl))
    · have := World.cell?_alloc_new (w.alloc (.cells #[.int .i64 (a : Int), .int .i64 (z : Int)] 34)) #[.func (.func wf) #[] lb] 177 0
      rw [World.size_alloc] at this
      exact (World.cell?_of_block (a := ⟨w.heap.size + 1, 0, none⟩) (Below.heap_alloc _ _ _ (by simp))).trans this
    · have := Boxed.new ((w.alloc (.cells #[.int .i64 (a : Int), .int .i64 (z : Int)] 34)).alloc (.cells #[.func (.func wf) #[] lb] 177)) 47 (.slice none 0 0)
      simpa using this
    · exact World.ownsRow_nil _ _ _ _
  case round =>
    rintro a' wr ⟨c, Ds, v, u8, u9, u10, u12, u13, u14, u15, u16, u17, u18, u19, u20, u21, u22, u23, u24, u25, u26, u27, u28, u29, u30, u31, u32, u33, u34, u35, hc, hn, hD, hS, rfl⟩
    by_cases hlt : c < 8
    · have e1 : decide ((c : Int) < 8) = true := by simp; omega
      have r0 := hS.r0
      have r1 := hS.r1
      have HS := Lib.hid hS
      have HD := Lib.hid hD
      clear hS hD
      have hmix : Tryd.prog.follows .mixedOrders = true := by kernel_rfl
      have hrun := fun W => runs_any (w := W) a z (some ⟨b, c * 256, none⟩)
      unfold rng at hrun
      have h8 := World.cell?_alloc_new wr #[.int .i64 (c : Int)] 3 0
      have hS8 := HS.out.more ((Moves.refl _ wr).alloc (.cells #[.int .i64 (c : Int)] 3))
      have hD8 : ∀ D ∈ Ds, (wr.alloc (.cells #[.int .i64 (c : Int)] 3)).heap[D]? = some (.deferred (some [])) ∧ w.heap.size + 3 ≤ D := fun D hd => ⟨(Below.heap_alloc _ _ _ (Array.getElem?_eq_some_iff.1 (HD.out D hd).1).1).trans (HD.out D hd).1, (HD.out D hd).2⟩
      have hsz8 : (wr.alloc (.cells #[.int .i64 (c : Int)] 3)).heap.size = wr.heap.size + 1 := by simp
      have h8w := HS.out.sz
      have hvb : ∀ k, v.ownBlock = some k → k < wr.heap.size := fun k hk => (HS.out.row.lt k hk).2
      have H8 := Lib.hid h8
      have HS8 := Lib.hid hS8
      have HD8 := Lib.hid hD8
      clear h8 hS8 hD8 HS HD r0 r1
      gi_wp2
      generalize wr.alloc (.cells #[.int .i64 (c : Int)] 3) = X at H8 HS8 HD8 hsz8 ⊢
      generalize wr.heap.size = b8 at *
      have h8 : X.cell? ⟨b8, 0, none⟩ = some (.int .i64 (c : Int)) := H8.out
      have h8d : X.drew.cell? ⟨b8, 0, none⟩ = some (.int .i64 (c : Int)) := H8.out
      have r0 : X.cell? ⟨w.heap.size, 0, none⟩ = some (.int .i64 (a : Int)) := HS8.out.r0
      have r1 : X.cell? ⟨w.heap.size, 1, none⟩ = some (.int .i64 (z : Int)) := HS8.out.r1
      have r0d : X.drew.cell? ⟨w.heap.size, 0, none⟩ = some (.int .i64 (a : Int)) := HS8.out.r0
      have r1d : X.drew.cell? ⟨w.heap.size, 1, none⟩ = some (.int .i64 (z : Int)) := HS8.out.r1
      have hlt8 : (c : Int) < 8 := by omega
      refine wpIn_wide.2 ?_
      refine wp_region_still_tail 6 (by kernel_rfl) (by kernel_rfl) ?_
      simp only [List.take_succ_cons, List.take_zero, List.drop_succ_cons, List.drop_zero]
      iterate 6 still_step
      refine wpStill_nil ?_
      go_wp2_with (go_at_call 85; refine (hrun _).mono ?_; rintro e W1 ⟨rfl, rfl⟩)
      have hMV : Moves (fun _ => False) X ((X.alloc (.cells #[.pointer (some ⟨b, c * 256, none⟩)] 201)).alloc (.cells #[.int .i64 (a : Int), .int .i64 (z : Int)] 34)).drew := (((Moves.refl _ X).alloc _).alloc _).drew
      have hVsz : ((X.alloc (.cells #[.pointer (some ⟨b, c * 256, none⟩)] 201)).alloc (.cells #[.int .i64 (a : Int), .int .i64 (z : Int)] 34)).drew.heap.size = b8 + 3 := by simp [World.drew]; omega
      have hVW : ((X.alloc (.cells #[.pointer (some ⟨b, c * 256, none⟩)] 201)).alloc (.cells #[.int .i64 (a : Int), .int .i64 (z : Int)] 34)).drew.heap[b8 + 1]? = some (.cells #[.pointer (some ⟨b, c * 256, none⟩)] 201 (0, 0)) := by
        have := World.alloc_heap_new X (.cells #[.pointer (some ⟨b, c * 256, none⟩)] 201)
        rw [hsz8] at this
        exact (Below.heap_alloc _ _ _ (by simp; omega)).trans this
      have hVR : ((X.alloc (.cells #[.pointer (some ⟨b, c * 256, none⟩)] 201)).alloc (.cells #[.int .i64 (a : Int), .int .i64 (z : Int)] 34)).drew.heap[b8 + 2]? = some (.cells #[.int .i64 (a : Int), .int .i64 (z : Int)] 34 (0, 0)) := by
        have := World.alloc_heap_new (X.alloc (.cells #[.pointer (some ⟨b, c * 256, none⟩)] 201)) (.cells #[.int .i64 (a : Int), .int .i64 (z : Int)] 34)
        rw [World.size_alloc, hsz8] at this
        exact this
      have HMV := Lib.hid hMV
      clear h8 h8d r0 r1 r0d r1d hMV
      gi_wp2
      generalize ((X.alloc (.cells #[.pointer (some ⟨b, c * 256, none⟩)] 201)).alloc (.cells #[.int .i64 (a : Int), .int .i64 (z : Int)] 34)).drew = V at HMV hVsz hVW hVR ⊢
      have hS := HS8.out.more HMV.out
      have hD : ∀ D ∈ Ds, V.heap[D]? = some (.deferred (some [])) ∧ w.heap.size + 3 ≤ D := fun D hd => ⟨(HMV.out.block _ (Array.getElem?_eq_some_iff.1 (HD8.out D hd).1).1 fun h => h).trans (HD8.out D hd).1, (HD8.out D hd).2⟩
      have hDb : ∀ D ∈ Ds, D < V.heap.size := fun D hd => (Array.getElem?_eq_some_iff.1 (hD D hd).1).1
      have h8 : V.cell? ⟨b8, 0, none⟩ = some (.int .i64 (c : Int)) := (HMV.out.cell (p := ⟨b8, 0, none⟩) (by show b8 < _; omega) fun h => h).trans H8.out
      have hT : IsTab V b R := h.keep (hS.bel.block b h.lt)
      have hcR : ∀ j u, [Value.int .i64 (a : Int), .int .i64 (z : Int)][j]? = some u → V.cell? ⟨b8 + 2, j, none⟩ = some u := fun j u hj => by
        simp only [World.cell?, hVR]; simpa using hj
      have hit : ItW V (b8 + 2) (b8 + 1) b c a z (R c) := ⟨hcR 0 _ rfl, hcR 1 _ rfl, by simp only [World.cell?, hVW]; simp, fun k hk => hT.c c k hlt hk⟩
      have hfR : ∀ o, V.frozen? ⟨b8 + 2, o, none⟩ = false := fun o => by simp [World.frozen?, hVR]
      have hbl : b < w.heap.size := h.lt
      have hbp := hS.bel.size
      refine rangeT (F := Fence.wide) (n := 4) rfl (by omega) (gf := 88) (lb := #[.pointer (some ⟨b8 + 2, 0, none⟩), .pointer (some ⟨b8 + 1, 0, none⟩)]) rfl trivial (enters_of Tryd.func88 (by kernel_rfl) rfl)
        (runs_iter (n := 3) (by omega) (b8 + 2) (b8 + 1) b c a z (R c) (fun k hk => hR c k hlt hk) (by omega) (by omega) hit hfR) (fun _ => rfl) (fun i hi => by rcases hi with rfl | rfl | rfl <;> omega) (fun i hi => by omega)
        (fun pre W => ∃ v', Moves (fun i => i = b8 + 2 ∨ i = w.heap.size + 2 ∨ v.ownBlock = some i) V W ∧ Boxed W (w.heap.size + 2) 47 v' ∧ W.ownsRow (w.heap.size + 3) 57 4 v' (someOf R a z p c ++ someRow p c pre).length (hrows (someOf R a z p c ++ someRow p c pre)) ∧ ∀ k, v'.ownBlock = some k → k ≠ b8 + 2 ∧ (v.ownBlock = some k ∨ V.heap.size ≤ k)) ?hI ?h0 ?hround ?hdone
      case hI =>
        rintro pre A B ⟨v', h1, h2, h3, h4⟩ hm
        have hsz := h1.size
        refine ⟨v', h1.trans hm fun i hi => ?_, (hm.block _ h2.lt ?_).trans h2, ownsRow_keep h3 fun k hk => hm.block k (h3.lt k hk).2 ?_, h4⟩
        · rcases hi with hi | hi
          · exact .inl (.inl hi)
          · exact .inr hi.1
        · rintro (hi | hi)
          · omega
          · omega
        · rintro (hi | hi)
          · exact (h4 k hk).1 hi
          · obtain ⟨hi1, o, ho, hoc⟩ := hi
            rcases h3.2 with ⟨e, _⟩ | ⟨g, cap, cur, e, _, hg, _⟩
            · rw [e] at hk; simp [Value.ownBlock] at hk
            · rw [e] at hk
              obtain rfl : g = k := by simpa [Value.ownBlock] using hk
              rw [hg] at ho; cases ho; cases hoc
      case h0 =>
        refine ⟨v, Moves.refl _ _, hS.l, by rw [show someRow p c [] = [] from rfl, List.append_nil]; exact hS.row, fun k hk => ⟨fun e => ?_, .inl hk⟩⟩
        rcases hS.row.2 with ⟨e', _⟩ | ⟨g, cap, cur, e', _, hg, _⟩
        · rw [e'] at hk; simp [Value.ownBlock] at hk
        · rw [e'] at hk
          obtain rfl : g = k := by simpa [Value.ownBlock] using hk
          rw [e, hVR] at hg
          simp at hg
      case hdone =>
        rintro D W hDl ⟨v', h1, h2, h3, h4⟩ hdf
        have hsz1 := h1.size
        have hown : ∀ k, v.ownBlock = some k → w.heap.size + 3 ≤ k := fun k hk => (hS.row.lt k hk).1
        have hnm : ∀ k, k < V.heap.size → k ≠ b8 + 2 → k ≠ w.heap.size + 2 → v.ownBlock ≠ some k → W.heap[k]? = V.heap[k]? := fun k hk n1 n2 n3 => h1.block k hk fun hi => by rcases hi with hi | hi | hi; exact n1 hi; exact n2 hi; exact n3 hi
        have hno : ∀ k, k < w.heap.size + 3 → v.ownBlock ≠ some k := fun k hk e => by have := hown k e; omega
        have hSW : SW w W (.func (.func wf) #[] lb) v' a z (someOf R a z p (c + 1)) := by
          refine ⟨hS.bel.trans (h1.below hbp fun k hk => ?_), by omega, (World.cell?_of_block (a := ⟨w.heap.size, 0, none⟩) (hnm w.heap.size (by omega) (by omega) (by omega) (hno _ (by omega)))).trans hS.r0, (World.cell?_of_block (a := ⟨w.heap.size, 1, none⟩) (hnm w.heap.size (by omega) (by omega) (by omega) (hno _ (by omega)))).trans hS.r1, (World.cell?_of_block (a := ⟨w.heap.size + 1, 0, none⟩) (hnm (w.heap.size + 1) (by omega) (by omega) (by omega) (hno _ (by omega)))).trans hS.f, h2, by rw [someOf_succ]; exact h3⟩
          rcases hk with hk | hk | hk
          · omega
          · omega
          · have := hown k hk; omega
        have hDs : ∀ D' ∈ D :: Ds, W.heap[D']? = some (.deferred (some [])) ∧ w.heap.size + 3 ≤ D' := fun D' hd' => by
          rcases List.mem_cons.1 hd' with rfl | hd'
          · exact ⟨hdf, by omega⟩
          · refine ⟨(h1.block _ (hDb D' hd') fun hi => ?_).trans (hD D' hd').1, (hD D' hd').2⟩
            have hd0 := (hD D' hd').1
            rcases hi with hi | hi | hi
            · rw [hi, hVR] at hd0; cases hd0
            · have := (hD D' hd').2; omega
            · rcases hS.row.2 with ⟨e', _⟩ | ⟨g, cap, cur, e', _, hg, _⟩
              · rw [e'] at hi; simp [Value.ownBlock] at hi
              · rw [e'] at hi
                obtain rfl : g = D' := by simpa [Value.ownBlock] using hi
                rw [hd0] at hg; cases hg
        have hnd : (D :: Ds).Nodup := List.nodup_cons.2 ⟨fun hd' => by have := hDb D hd'; omega, hn⟩
        have hHS := Lib.hid hSW
        have hHD := Lib.hid hDs
        clear hS hD hDb hnm hno hown hSW hDs h1 h2 h3 h4 hdf hit hT hfR hcR h8 hVR hVW HMV
        gi_wp2
        exact ⟨⟨c + 1, D :: Ds, v', _, _, _, _, _, _, _, _, _, _, _, _, _, _, _, _, _, _, _, _, _, _, _, _, _, _, _, by omega, hnd, hHD.out, hHS.out, rfl⟩, by simp [intOf]; omega⟩
      case hround =>
        rintro l pre x W hl ⟨rl, hrl⟩ ⟨hx1, hx2, hx3, hx4⟩ hpl ⟨v', h1, h2, h3, h4⟩
        have hlW := (Array.getElem?_eq_some_iff.1 hrl).1
        have Hrl := Lib.hid hrl
        clear hrl
        have H1 := Lib.hid h1
        have H2 := Lib.hid h2
        have H3 := Lib.hid h3
        have H4 := Lib.hid h4
        have HS := Lib.hid hS
        have hV8 := Lib.hid h8
        have HVs := Lib.hid hVsz
        clear h1 h2 h3 h4 hS h8 hVsz hVW hVR hit hT hD hDb hfR hcR
        unfold encR rng
        gi_wp2
        have hVs := HVs.out
        have hszW := H1.out.size
        refine ⟨⟨by simp, fun i o hi ho hc' => (Below.heap_alloc _ _ _ (Array.getElem?_eq_some_iff.1 ho).1).trans ho⟩, fun i hi => Below.heap_alloc _ _ _ (by rcases hi with rfl | rfl | rfl <;> omega), fun W2 hm2 hs2 => ?_⟩
        have hW1 : Moves (fun i => i = l) W W2 := Moves.trans (F := fun i => i = l) ((Moves.refl _ W).alloc _) hm2 fun i hi => .inl hi
        have hs2' : W2.heap.size = W.heap.size + 1 := by rw [hs2]; simp
        have hrun9 : ∀ j u, [Value.int .i64 (x.a : Int), .int .i64 (x.b : Int)][j]? = some u → W2.cell? ⟨W.heap.size, j, none⟩ = some u := fun j u hj => by
          rw [hm2.cell (p := ⟨W.heap.size, j, none⟩) (by simp) (by show ¬ W.heap.size = l; omega), World.cell?_alloc_new]
          simpa using hj
        have x9 := hrun9 0 _ rfl
        have x9' := hrun9 1 _ rfl
        have hown : ∀ k, v.ownBlock = some k → w.heap.size + 3 ≤ k ∧ k < V.heap.size := fun k hk => HS.out.row.lt k hk
        have hnm : ∀ k, k < V.heap.size → k ≠ b8 + 2 → k ≠ w.heap.size + 2 → v.ownBlock ≠ some k → W2.heap[k]? = V.heap[k]? := fun k hk n1 n2 n3 => (hW1.block k (by omega) (by omega)).trans (H1.out.block k hk fun hi => by rcases hi with hi | hi | hi; exact n1 hi; exact n2 hi; exact n3 hi)
        have hno : ∀ k, k < w.heap.size + 3 → v.ownBlock ≠ some k := fun k hk e => by have := (hown k e).1; omega
        have x5 : W2.cell? ⟨w.heap.size + 1, 0, none⟩ = some (.func (.func wf) #[] lb) := (World.cell?_of_block (a := ⟨w.heap.size + 1, 0, none⟩) (hnm (w.heap.size + 1) (by omega) (by omega) (by omega) (hno _ (by omega)))).trans HS.out.f
        have x8 : W2.cell? ⟨b8, 0, none⟩ = some (.int .i64 (c : Int)) := (World.cell?_of_block (a := ⟨b8, 0, none⟩) (hnm b8 (by omega) (by omega) (by omega) (fun e => by have := hvb _ e; omega))).trans hV8.out
        have hBw : Below w.heap.size w W2 := (HS.out.bel.trans (H1.out.below hbp fun k hk => by rcases hk with hk | hk | hk; omega; omega; have := (hown k hk).1; omega)).trans (hW1.below (by omega) fun k hk => by omega)
        have hwish := CallsIn.inRound l ((callsIn_wide (n := 4 - 1 - 1 - 1)).2 (hp c x.m W2 hlt hx4 hBw))
        have hbx : Boxed W2 (w.heap.size + 2) 47 v' := (hW1.block _ (by omega) (by omega)).trans H2.out
        have hrow2 : W2.ownsRow (w.heap.size + 3) 57 4 v' (someOf R a z p c ++ someRow p c pre).length (hrows (someOf R a z p c ++ someRow p c pre)) := ownsRow_keep H3.out fun k hk => hW1.block k (H3.out.lt k hk).2 (fun e => by
          subst e
          rcases H3.out.2 with ⟨e', _⟩ | ⟨g, cap, cur, e', _, hg, _⟩
          · rw [e'] at hk; simp [Value.ownBlock] at hk
          · rw [e'] at hk
            obtain rfl : g = k := by simpa [Value.ownBlock] using hk
            have := Hrl.out.symm.trans hg; cases this)
        have HM2 := Lib.hid (H1.out.trans hW1 fun i hi => .inr (by omega))
        have HBX := Lib.hid hbx
        have HR2 := Lib.hid hrow2
        have x7 := hbx.cell
        have f7 := hbx.frozen
        have hs2n := Lib.hid hs2'
        have hHVs := Lib.hid hVs
        clear hbx hrow2 hm2 hs2 hW1 hnm hVs hs2' hrun9 hBw
        cases hpm : p c x.m with
        | false =>
          rw [hpm] at hwish
          gi_wp2_with (refine ⟨trivial, ?_⟩; gi_at_fn wf; refine hwish.mono ?_; clear hwish; rintro e W3 ⟨rfl, rfl⟩)
          have hsn : someRow p c (pre ++ [x]) = someRow p c pre := by rw [someRow_snoc, hpm]; simp
          exact ⟨Firm.refl _ _, fun _ _ => rfl, v', HM2.out, HBX.out, by rw [hsn]; exact HR2.out, H4.out⟩
        | true =>
          rw [hpm] at hwish
          obtain ⟨i0, hi0, hz0, hz1, hz2⟩ := info_parts Tryd.infoHold
          have hsn : someRow p c (pre ++ [x]) = someRow p c pre ++ [⟨x.a, x.b, c, x.m⟩] := by rw [someRow_snoc, hpm]; simp
          have hoA := World.ownsRow.alloc HR2.out (.cells #[.int .i64 (x.a : Int), .int .i64 (x.b : Int), .int .i64 (c : Int), .int .i64 (x.m : Int)] 57)
          have hll : (someOf R a z p c ++ someRow p c pre).length + 1 ≤ 4000 := by
            rw [List.length_append]
            have h1 := someOf_len R a z p c
            have h2 := someRow_len p c pre
            omega
          have hcl : ∀ j u, (Hd.cells ⟨x.a, x.b, c, x.m⟩)[j]? = some u → (W2.alloc (.cells #[.int .i64 (x.a : Int), .int .i64 (x.b : Int), .int .i64 (c : Int), .int .i64 (x.m : Int)] 57)).cell? ((⟨W2.heap.size, 0, none⟩ : Addr).add j) = some u := fun j u hj => by
            rw [Addr.add_mid, Nat.zero_add, World.cell?_alloc_new]
            simpa [Hd.cells] using hj
          have O1 := one_hcells ⟨x.a, x.b, c, x.m⟩
          have hbs : w.heap.size + 3 ≤ W2.heap.size + 1 := by have := hs2n.out; omega
          obtain ⟨av, cap, ev⟩ := row_lens HR2.out
          have Hsn := Lib.hid hsn
          have Hcl := Lib.hid hcl
          have Hi := Lib.hid hi0
          have Hz := Lib.hid hz0
          have Hz1 := Lib.hid hz1
          have Hz2 := Lib.hid hz2
          generalize hLL : someOf R a z p c ++ someRow p c pre = LL at *
          subst ev
          have HOA := Lib.hid hoA
          have HLL := Lib.hid hLL
          clear hLL hoA hsn hcl hi0 hz0 hz1 hz2
          gi_wp2_with (first
            | (refine ⟨trivial, ?_⟩; gi_at_fn wf; refine hwish.mono ?_; clear hwish; rintro e W3 ⟨rfl, rfl⟩)
            | (gi_at_builtin; refine wpListIn_append_own_at _ rfl (.tmp 27) (.tmp 32) 47 rfl (w.heap.size + 3) 57 i0 _ 4 32 Tryd.underlying47 Hi.out Hz.out Hz1.out Hz2.out rfl (by decide) _ LL.length (hrows LL) rfl HOA.out ⟨W2.heap.size, 0, none⟩ 1 1 (Hd.cells ⟨x.a, x.b, c, x.m⟩) rfl rfl Hcl.out O1 (by unfold maxLen; omega) (by omega) (by simp; omega) ?_
               intro v5 w5 hown5 hgrow hnn hor
               obtain ⟨g5, cap5, rfl⟩ := ownsRow_succ hown5
               obtain ⟨b1, b2, b3, b4, b5⟩ := HBX.out.appended (n₀ := w.heap.size) (by decide) (ownsRow_base HR2.out fun k hk => by have := (HR2.out.lt k hk).1; omega) (by omega) (by omega) (ownsRow_base hown5 fun k hk => by have := (hown5.lt k hk).1; omega) hgrow
               have y7 := b1.cell
               have g7 := b1.frozen
               have Hgr := Lib.hid hgrow
               have Hor := Lib.hid hor
               have B2 := Lib.hid b2
               have B4 := Lib.hid b4
               have H5 := Lib.hid hown5
               clear hgrow hor b1 b2 b3 b4 b5 hnn hown5 x7 f7))
          have hMf : Moves (fun i => i = w.heap.size + 2 ∨ (Value.slice av LL.length cap).ownBlock = some i) W2 (w5.setCell ⟨w.heap.size + 2, 0, none⟩ (.slice (some ⟨g5, 0, none⟩) (LL.length + 1) cap5)) :=
            Moves.setCell (F := fun i => i = w.heap.size + 2 ∨ (Value.slice av LL.length cap).ownBlock = some i) (((Moves.refl _ W2).alloc _).grown Hgr.out fun k e => .inl (.inr e)) ⟨w.heap.size + 2, 0, none⟩ _ (.inl (.inl rfl))
          have hobk : ∀ k, (Value.slice av LL.length cap).ownBlock = some k → w.heap.size + 3 ≤ k ∧ k ≠ b8 + 2 ∧ (v.ownBlock = some k ∨ b8 + 3 ≤ k) := fun k hk => ⟨(HR2.out.lt k hk).1, (H4.out k hk).1, by have := (H4.out k hk).2; rw [HVs.out] at this; exact this⟩
          have hs2x := hs2n.out
          have hVx := HVs.out
          refine ⟨⟨B4.out.size, fun i o _ ho hc' => B4.out.same i o ho hc'⟩, fun i hi => hMf.block i (by rcases hi with rfl | rfl | rfl <;> omega) (fun hf => ?_), _, HM2.out.trans hMf fun i hi => ?_, B2.out, ?_, fun k hk => ?_⟩
          · rcases hf with hf | hf
            · omega
            · obtain ⟨q1, q2, q3⟩ := hobk i hf
              rcases hi with hi | hi | hi
              · exact q2 hi
              · rcases q3 with q3 | q3
                · have := hvb i q3; omega
                · omega
              · omega
          · rcases hi with hi | hi
            · exact .inl (.inr (.inl hi))
            · rcases (hobk i hi).2.2 with q3 | q3
              · exact .inl (.inr (.inr q3))
              · exact .inr (by omega)
          · rw [Hsn.out, ← List.append_assoc, HLL.out, List.length_append, hrows_app]
            exact ownsRow_setCell (by simpa [hrows] using H5.out) _ _ fun e => by have := (H5.out.lt _ e).1; simp at this; omega
          · rcases Hor.out with h | h
            · rw [h] at hk; exact H4.out k hk
            · rw [h, World.size_alloc] at hk
              cases hk
              exact ⟨by omega, .inr (by omega)⟩
    · have e1 : decide ((c : Int) < 8) = false := by simp; omega
      have ec : c = 8 := by omega
      subst ec
      have hl := hS.l.cell
      have HS := Lib.hid hS
      have HD := Lib.hid hD
      clear hS hD
      gi_wp2
      refine leaves_marks Ds wr hn (fun D hd => (HD.out D hd).1) fun W' hm => ⟨_, results_tmp rfl _ _ _, v, rfl, ?_, ?_⟩
      · exact ownsRow_base (ownsRow_keep HS.out.row fun k hk => hm.block k (HS.out.row.lt k hk).2 fun hi => by
          have h1 := (HD.out k hi).1
          rcases HS.out.row.2 with ⟨e, _⟩ | ⟨g, cap, cur, e, _, hg, _⟩
          · rw [e] at hk; simp [Value.ownBlock] at hk
          · rw [e] at hk
            obtain rfl : g = k := by simpa [Value.ownBlock] using hk
            rw [h1] at hg; cases hg) fun k hk => by have := (HS.out.row.lt k hk).1; omega
      · exact HS.out.bel.trans (hm.below HS.out.bel.size fun k hk => by have := (HD.out k hk).2; omega)
end
end Go.Proofs.YtfjfkmoofmncnaaDoor
