/- BagFull: its walk. -/
import Derived.Test.YtibpkdaiaoccjaaBagLaw
namespace Go.Proofs.Ytibpkdaiaoccjaa
open Go.RowKit
/-- What holds of the messages of a bag. -/
def good (l : List Ms) : Prop := l.length ≤ 64 ∧ ∀ m ∈ l, m.fits ∧ m.check = 0
theorem good.send {l : List Ms} (h : good l) {m : Ms} (hm : m.fits) : good (sendS l m) := by
  unfold sendS
  split
  · rename_i hc
    refine ⟨by rw [List.length_append]; simp; omega, fun x hx => ?_⟩
    rcases List.mem_append.1 hx with h1 | h1
    · exact h.2 x h1
    · simp at h1; rw [h1]; exact ⟨hm, hc.1⟩
  · exact h
theorem good.twice {l : List Ms} (h : good l) (i : Int) : good (twiceL l i) := by
  unfold twiceL
  split
  · rename_i hc
    have hm := (atM_mem hc.1).1
    refine ⟨by rw [List.length_append]; simp; omega, fun x hx => ?_⟩
    rcases List.mem_append.1 hx with h1 | h1
    · exact h.2 x h1
    · simp at h1; rw [h1]; exact h.2 _ hm
  · exact h
/-- A new bag, and a reference made behind it. -/
theorem BB.made {w0 w w1 : World} {B : Nat} {K : Nat → Prop} (hB : B ≤ w.heap.size) (hb0 : Below B w0 w) (hK : ∀ k, K k → k < w.heap.size) (h : IsBag w1 w.heap.size (.slice none 0 0) []) (hb : Below w.heap.size w w1) :
    BB ⟨B, w0, K, w⟩ (w1.alloc (.cells #[.slice none 0 0] 29)) w.heap.size w1.heap.size [] [] := by
  have hs := hb.size
  have hlt := h.has.lt w.heap.size (.inl rfl)
  have hbA : Below w1.heap.size w1 (w1.alloc (.cells #[.slice none 0 0] 29)) := (Below.refl _ _).alloc (Nat.le_refl _) _
  have hnil : ∀ (n k : Nat), bfp n (.slice none 0 0) k → k = n := fun n k hk => by
    rcases hk with h | h
    · exact h
    · simp [Value.ownBlock] at h
  refine ⟨.slice none 0 0, .slice none 0 0, h.below hbA, ⟨?_, World.ownsRow_nil _ _ _ _, fun o => World.frozen?_alloc_new _ _ _ _, by simp [Value.ownBlock], fun m hm => by simp at hm⟩, fun k hk => ?_, fun k hk => ?_, fun k hk hr => ?_, (hb0.trans (hb.mono hB)).trans (hbA.mono (by show B ≤ w1.heap.size; omega)), fun k hk => ?_⟩
  · rw [World.cell?_alloc_new]; rfl
  · have := hnil _ k hk
    subst this
    exact ⟨hB, fun hKk => Nat.lt_irrefl _ (hK _ hKk)⟩
  · have := hnil _ k hk
    subst this
    exact ⟨by show B ≤ w1.heap.size; omega, fun hKk => by have := hK _ hKk; omega⟩
  · have e1 := hnil _ k hk
    have e2 := hnil _ k hr
    omega
  · have hkw := hK k hk
    exact ⟨by simp; omega, (hbA.block k (by omega)).trans (hb.block k hkw)⟩
set_option maxRecDepth 100000 in
set_option maxHeartbeats 4000000 in
theorem full_any (m : Ms) (hm : m.fits) (many : Nat) (hmany : many < 256) (w : World) :
    Calls Try.prog 3 #[m.val, .int .u8 (many : Int)] w fun e w' => e = .returned (.bool true) ∧ Below w.heap.size w w' := by
  have hds := hm.2.2.2.2.2.2.2
  unfold maxLen at hds
  have hbA : Below w.heap.size w (w.alloc (.cells m.cells.toArray 23)) := (Below.refl _ _).alloc (Nat.le_refl _) _
  have hbx := Boxed.made w m 23
  have HbA := Lib.hid hbA
  have Hbx := Lib.hid hbx
  clear hbA hbx
  by_cases hbig : 256 < m.data.size
  · have hb2 : (256 : Int) < (m.data.size : Int) := by omega
    go_enter Try.func3, Try.ntmps3
    unfold Ms.val
    go_wp2_with fail
    go_ret
    exact ⟨rfl, HbA.out⟩
  have hb2 : ¬ (256 : Int) < (m.data.size : Int) := by omega
  have hnew := bnew_any (w := w.alloc (.cells m.cells.toArray 23))
  go_enter Try.func3, Try.ntmps3
  unfold Ms.val
  go_wp2_with fail
  refine hnew.mono ?_
  rintro e w1 ⟨rfl, hbag, hbe⟩
  have hBB := BB.made (w0 := w) (K := fun k => k = w.heap.size) (B := w.heap.size) (by simp) HbA.out (fun k hk => by subst hk; simp) hbag hbe
  rw [show (w.alloc (.cells m.cells.toArray 23)).heap.size = w.heap.size + 1 by simp] at hBB
  have hcl : ∀ w' l1 l2, BB ⟨w.heap.size, w, fun k => k = w.heap.size, w.alloc (.cells m.cells.toArray 23)⟩ w' (w.heap.size + 1) w1.heap.size l1 l2 →
      w'.cell? ⟨w.heap.size, 0, none⟩ = some (.int .i64 m.kind) ∧ w'.cell? ⟨w.heap.size, 1, none⟩ = some (.int .i64 m.src) ∧ w'.cell? ⟨w.heap.size, 2, none⟩ = some (.int .i64 m.dst) ∧ w'.cell? ⟨w.heap.size, 3, none⟩ = some (.int .i64 m.epoch) ∧
      w'.cell? ⟨w.heap.size, 4, none⟩ = some (.int .i64 m.seq) ∧ w'.cell? ⟨w.heap.size, 5, none⟩ = some (.int .i64 m.off) ∧ w'.cell? ⟨w.heap.size, 6, none⟩ = some (.int .i64 m.len) ∧ w'.cell? ⟨w.heap.size, 7, none⟩ = some (.string m.data) := by
    intro w' l1 l2 h
    have hk := h.kept (k := w.heap.size) rfl
    have hc : ∀ o, w'.cell? ⟨w.heap.size, o, none⟩ = (w.alloc (.cells m.cells.toArray 23)).cell? ⟨w.heap.size, o, none⟩ := fun o => World.cell?_of_block (a := ⟨w.heap.size, o, none⟩) hk
    obtain ⟨x0, x1, x2, x3, x4, x5, x6, x7⟩ := Hbx.out.all
    exact ⟨(hc _).trans x0, (hc _).trans x1, (hc _).trans x2, (hc _).trans x3, (hc _).trans x4, (hc _).trans x5, (hc _).trans x6, (hc _).trans x7⟩
  have Hcl := Lib.hid hcl
  have HBB := Lib.hid hBB
  have hgd : good [] := ⟨Nat.zero_le _, fun x hx => by simp at hx⟩
  clear hnew hbag hbe hBB hcl
  go_wp2_with fail
  generalize hW : w1.alloc (.cells #[.slice none 0 0] 29) = W at HBB ⊢
  generalize hc : w1.heap.size = c at HBB Hcl ⊢
  generalize hwk : w.alloc (.cells m.cells.toArray 23) = wk at HBB Hcl
  clear hW hc hwk
  go_loopw [7] (fun i wr => ∃ (n : Nat) (l : List Ms), n ≤ 80 ∧ i = .int .i64 (n : Int) ∧ BB ⟨w.heap.size, w, fun k => k = w.heap.size, wk⟩ wr (w.heap.size + 1) c l l ∧ good l) (fun i _ => 80 - (intOf i).toNat)
  case atStart => exact ⟨0, [], by omega, rfl, HBB.out, hgd⟩
  case round =>
    clear HBB hgd
    obtain ⟨n, l, hn, rfl, hp, hg⟩ := hrel
    by_cases hlt : n < many % 80
    · have e0 : ((n : Int) < (many : Int) % 80) := by omega
      have hn2 : n < 80 := by omega
      clear hlt
      obtain ⟨q0, q1, q2, q3, q4, q5, q6, q7⟩ := Hcl.out _ _ _ hp
      have hs := hp.send hg.1 m hm
      have hg2 := hg.send hm
      have hrs : ∀ w2, BB ⟨w.heap.size, w, fun k => k = w.heap.size, wk⟩ w2 (w.heap.size + 1) c (sendS l m) l → _ := fun w2 h => h.rsend hg.1 m hm
      generalize sendE l m = ee at hs hrs
      generalize sendS l m = l2 at hs hrs hg2
      have Hrs := Lib.hid hrs
      clear hrs hp hg
      go_wp2_with fail
      refine hs.mono ?_
      rintro e w2 ⟨rfl, hp2⟩
      have hr2 := Hrs.out _ hp2.drew
      have hd := Hcl.out _ _ _ hp2.drew
      have hl1000 : l2.length ≤ 1000 := Nat.le_trans hg2.1 (by omega)
      clear hs Hrs q0 q1 q2 q3 q4 q5 q6 q7
      go_wp2_with fail
      obtain ⟨d0, d1, d2, d3, d4, d5, d6, d7⟩ := hd
      go_region_law (first
        | (go_simp
           go_at_call 11
           refine hr2.mono ?_
           rintro e w3 ⟨rfl, hp3⟩
           obtain ⟨vr, c3, hr3⟩ := hp3.ref
           obtain ⟨ar, capr, rfl⟩ := row_len hr3)
        | (go_simp
           go_at_call 12
           refine (hp3.list hl1000).mono ?_
           rintro e w4 ⟨v4, rfl, ho4, hp4, hb4⟩
           obtain ⟨a4, cap4, rfl⟩ := row_len ho4
           have c4 : w4.cell? ⟨c, 0, none⟩ = some (.slice ar l2.length capr) := (World.cell?_of_block (a := ⟨c, 0, none⟩) (hb4.block c (World.block_lt_of_cell? w3 _ c3))).trans c3))
      all_goals
        have HP := Lib.hid hp4
        clear hr2 d0 d1 d2 d3 d4 d5 d6 d7 hp2 hp3 hp4 c3 c4 hb4 ho4 hr3
        go_wp2_with fail
        go_roundw
        case rel => exact ⟨n + 1, l2, by omega, by go_num, HP.out, hg2⟩
        case measure => simp [intOf]; omega
    · have e0 : ¬ ((n : Int) < (many : Int) % 80) := by omega
      have ht := hp.twice hg.1 0
      have hrt : ∀ w2, BB ⟨w.heap.size, w, fun k => k = w.heap.size, wk⟩ w2 (w.heap.size + 1) c (twiceL l 0) l → _ := fun w2 h => h.rtwice hg.1 (fun x hx => (hg.2 x hx).2) 0
      have hg2 := hg.twice 0
      generalize twiceE l 0 = ee at ht hrt
      generalize twiceL l 0 = l2 at ht hrt hg2
      have Hrt := Lib.hid hrt
      have hl1000 : l2.length ≤ 1000 := Nat.le_trans hg2.1 (by omega)
      clear hp hg hrt hlt
      go_wp2_with fail
      refine ht.mono ?_
      rintro e w5 ⟨rfl, hp5⟩
      clear ht
      go_wp2_with fail
      refine (bnew_any (w := w5)).mono ?_
      rintro e w6 ⟨rfl, hb6, hbe6⟩
      have hnt := newtake_any _ hb6
      unfold Ms.val at hnt
      go_wp2_with fail
      refine hnt.mono ?_
      rintro e w7 ⟨rfl, hT7⟩
      have hb7 : Below w5.heap.size w5 w7 := by
        obtain ⟨_, _, m7, _, _⟩ := hT7
        refine hbe6.trans (m7.below hbe6.size fun k hk => ?_)
        rcases hk with h | h
        · omega
        · simp [Value.ownBlock] at h
      have hp7 := hp5.quiet hb7
      have hp8 := hp7.quiet ((Below.refl _ _).alloc (Nat.le_refl _) (.cells Ms.zero.cells.toArray 23))
      have hr8 := Hrt.out _ hp8.drew
      have H8 := Lib.hid hr8
      clear hnt hT7 hb7 hp5 hb6 hbe6 hp7 hp8 hr8
      go_wp2_with fail
      go_region_law (first
        | (go_simp
           go_at_call 15
           refine H8.out.mono ?_
           rintro e w9 ⟨rfl, hp9⟩
           obtain ⟨vr, c9, hr9⟩ := hp9.ref
           obtain ⟨ar, capr, rfl⟩ := row_len hr9)
        | (go_simp
           go_at_call 12
           refine (hp9.list hl1000).mono ?_
           rintro e w10 ⟨v10, rfl, ho10, hp10, hb10⟩
           obtain ⟨a10, cap10, rfl⟩ := row_len ho10
           have c10 : w10.cell? ⟨c, 0, none⟩ = some (.slice ar l2.length capr) := (World.cell?_of_block (a := ⟨c, 0, none⟩) (hb10.block c (World.block_lt_of_cell? w9 _ c9))).trans c9
           have hr10 := ownsRow_keep hr9 fun k hk => hb10.block k (hr9.lt k hk).2
           have hsm := same_any ho10 hr10 hl1000)
        | (go_simp
           go_at_call 16
           refine hsm.mono ?_
           rintro e w11 ⟨rfl, hb11⟩))
      all_goals
        have HQ := Lib.hid (hp10.quiet hb11).below
        clear H8 hp9 hp10 hb10 hb11 ho10 hr9 hr10 hsm c9 c10
        go_wp2_with fail
        go_ret
        exact ⟨rfl, HQ.out⟩
end Go.Proofs.Ytibpkdaiaoccjaa
