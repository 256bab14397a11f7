/- The reference's New. -/
import Derived.Test.YtahmnehfadiegaaRefW
import Derived.Deep.RegionLaw
import Derived.Test.YtahmnehfadiegaaPNew
namespace Go.Proofs.Ytahmnehfadiegaa
open Go.RowKit
theorem Try.infoStr : (Try.prog.info? 9).map (fun i => (i.zero, i.size, i.bytes)) = some (some (.string ⟨#[]⟩), 1, 16) := by kernel_rfl
/-- The reference's plate while New fills it: k sectors are there. -/
structure RMade (w0 : World) (k : Nat) (vi : Value) (w : World) : Prop where
  cvi : w.cell? ⟨w0.heap.size, 0, none⟩ = some vi
  is : w.ownsRow (w0.heap.size + 1) 9 1 vi k (scells (List.replicate k (Zn 32)))
  c1 : w.cell? ⟨w0.heap.size, 1, none⟩ = some (.slice none 0 0)
  c2 : w.cell? ⟨w0.heap.size, 2, none⟩ = some (.bool false)
  c3 : w.cell? ⟨w0.heap.size, 3, none⟩ = some (.int .i64 0)
  c4 : w.cell? ⟨w0.heap.size, 4, none⟩ = some (.int .u64 0)
  c5 : w.cell? ⟨w0.heap.size, 5, none⟩ = some (.int .i64 0)
  fro : ∀ o, w.frozen? ⟨w0.heap.size, o, none⟩ = false
  below : Below w0.heap.size w0 w
theorem RMade.drew {w0 w : World} {n : Nat} {vi : Value} (h : RMade w0 n vi w) : RMade w0 n vi w.drew := ⟨h.cvi, h.is, h.c1, h.c2, h.c3, h.c4, h.c5, h.fro, h.below.drew⟩
theorem RMade.more {w0 w w' : World} {n : Nat} {vi : Value} (h : RMade w0 n vi w) (hb : Below w.heap.size w w') : RMade w0 n vi w' := by
  have hl : w0.heap.size < w.heap.size := World.block_lt_of_cell? w _ h.cvi
  have hc : ∀ o, w'.cell? ⟨w0.heap.size, o, none⟩ = w.cell? ⟨w0.heap.size, o, none⟩ := fun o => World.cell?_of_block (a := ⟨w0.heap.size, o, none⟩) (hb.block _ hl)
  exact ⟨(hc _).trans h.cvi, ownsRow_keep h.is fun k hk => hb.block k (h.is.lt k hk).2, (hc _).trans h.c1, (hc _).trans h.c2, (hc _).trans h.c3, (hc _).trans h.c4, (hc _).trans h.c5,
    fun o => (World.frozen?_of_block (a := ⟨w0.heap.size, o, none⟩) (hb.block _ hl)).trans (h.fro o), h.below.trans (hb.mono (Nat.le_of_lt hl))⟩
theorem RMade.lt {w0 w : World} {n : Nat} {vi : Value} (h : RMade w0 n vi w) : w0.heap.size + 1 ≤ w.heap.size := World.block_lt_of_cell? w _ h.cvi
/-- The row has grown; the field is not told yet. -/
theorem RMade.grown {w0 w w' : World} {n : Nat} {vi : Value} {o : Obj} (h : RMade w0 n vi w) (hg : (w.alloc o).grownBy w' vi.ownBlock) : w'.heap[w0.heap.size]? = w.heap[w0.heap.size]? ∧ Below w0.heap.size w0 w' := by
  have hl := h.lt
  have hb : ∀ k, k ≤ w0.heap.size → w'.heap[k]? = w.heap[k]? := fun k hk => (hg.block k (by simp; omega) (fun e => by have := (h.is.lt k e.symm).1; omega)).trans (Below.heap_alloc _ _ _ (by omega))
  refine ⟨hb _ (Nat.le_refl _), h.below.trans ⟨hg.os, hg.tape, hg.output, by have := hg.size; simp at this; omega, fun k hk => hb k (Nat.le_of_lt hk)⟩⟩
theorem RMade.push {w0 w w' : World} {n : Nat} {vi v' : Value} {Z : ByteArray} (h : RMade w0 n vi w) (hb : w'.heap[w0.heap.size]? = w.heap[w0.heap.size]?) (hbe : Below w0.heap.size w0 w') (hZ : Z = ⟨(Zn 32).toArray⟩)
    (ho : w'.ownsRow (w0.heap.size + 1) 9 1 v' (n + 1) (scells (List.replicate n (Zn 32)) ++ [.string Z])) : RMade w0 (n + 1) v' (w'.setCell ⟨w0.heap.size, 0, none⟩ v') := by
  have hc : ∀ o, w'.cell? ⟨w0.heap.size, o, none⟩ = w.cell? ⟨w0.heap.size, o, none⟩ := fun o => World.cell?_of_block (a := ⟨w0.heap.size, o, none⟩) hb
  have hq : ∀ o, o ≠ 0 → (w'.setCell ⟨w0.heap.size, 0, none⟩ v').cell? ⟨w0.heap.size, o, none⟩ = w.cell? ⟨w0.heap.size, o, none⟩ := fun o h => (World.cell?_setCell_other _ _ _ _ (by simp <;> exact fun e => h e.symm)).trans (hc o)
  refine ⟨World.cell?_setCell_same _ _ _ ((hc 0).trans h.cvi), ?_, (hq 1 (by decide)).trans h.c1, (hq 2 (by decide)).trans h.c2, (hq 3 (by decide)).trans h.c3, (hq 4 (by decide)).trans h.c4, (hq 5 (by decide)).trans h.c5,
    fun o => by rw [World.frozen?_setCell]; exact (World.frozen?_of_block (a := ⟨w0.heap.size, o, none⟩) hb).trans (h.fro o), hbe.setCell (show w0.heap.size ≤ (⟨w0.heap.size, 0, none⟩ : Addr).block from Nat.le_refl _) _⟩
  have e : scells (List.replicate (n + 1) (Zn 32)) = scells (List.replicate n (Zn 32)) ++ [.string Z] := by
    rw [List.replicate_succ', scells, List.map_append, hZ]; rfl
  rw [e]
  refine ownsRow_setCell ho _ _ fun e2 => ?_
  have := (ho.lt _ e2).1
  simp only at this
  omega
theorem RMade.done {w0 w : World} {n : Nat} {vi : Value} (h : RMade w0 n vi w) (h1 : 4 ≤ n) (h2 : n ≤ 128) : IsRef w w0.heap.size vi (.slice none 0 0) (PS.new n) := by
  refine ⟨PS.ok_new n h1 h2, h.cvi, ?_, h.c1, World.ownsRow_nil _ _ _ _, h.c2, h.c3, h.c4, h.c5, h.fro, ?_, by simp [Value.ownBlock], fun k _ => by simp [Value.ownBlock]⟩
  · have e : (PS.new n).is = List.replicate n (Zn 32) := rfl
    rw [e, List.length_replicate]
    exact ownsRow_base h.is fun k hk => Nat.zero_le _
  · intro e
    have := (h.is.lt _ e).1
    omega
set_option maxRecDepth 100000 in
set_option maxHeartbeats 1000000 in
theorem rnew_any {w : World} (n : Int) : Calls Try.prog 17 #[.int .i64 n] w fun e w' => e = .returned (.pointer (some ⟨w.heap.size, 0, none⟩)) ∧ ∃ vi, IsRef w' w.heap.size vi (.slice none 0 0) (PS.new (sizeOfN n)) ∧ (∀ k, vi.ownBlock = some k → w.heap.size < k) ∧ Below w.heap.size w w' := by
  obtain ⟨m, hm, hmn, h4, h128⟩ : ∃ m : Nat, (m : Int) = max 4 (min n 128) ∧ m = sizeOfN n ∧ 4 ≤ m ∧ m ≤ 128 := by
    refine ⟨sizeOfN n, ?_, rfl, ?_, ?_⟩ <;> unfold sizeOfN <;> omega
  have Hmn := Lib.hid hmn
  have Hm := Lib.hid hm
  clear hm hmn
  obtain ⟨i0, hi0, hz0, hz1, hz2⟩ := info_parts Try.infoStr
  have Hi := Lib.hid hi0
  have Hz := Lib.hid hz0
  have Hz1 := Lib.hid hz1
  have Hz2 := Lib.hid hz2
  clear hi0 hz0 hz1 hz2
  obtain ⟨Z, HZ⟩ : ∃ Z : ByteArray, Hid (Z = ⟨(Zn 32).toArray⟩) := ⟨_, rfl⟩
  have h1c : ∀ q ∈ [Value.string Z], q.oneCell' = true := by
    intro q hq
    simp only [List.mem_cons, List.not_mem_nil, or_false] at hq
    rw [hq]; rfl
  have hzeros : ∀ w1, Calls Try.prog 21 #[.int .i64 32] w1 fun e w' => e = .returned (.string Z) ∧ Below w1.heap.size w1 w' := fun w1 => by
    rw [HZ.out]; exact zeros_any 32 (by decide) w1
  have hcase : (128 < n ∧ m = 128) ∨ (n ≤ 128 ∧ 4 < n ∧ n = (m : Int)) ∨ (n ≤ 128 ∧ n ≤ 4 ∧ m = 4) := by have := Hm.out; omega
  clear Hm
  rcases hcase with ⟨n1, rfl⟩ | ⟨n1, n2, rfl⟩ | ⟨n1, n2, rfl⟩
  all_goals
    go_enter Try.func17, Try.ntmps17
    go_wp2_with fail
  · go_loopw [4] (fun c wr => ∃ k : Nat, k ≤ 128 ∧ c = .int .i64 (k : Int) ∧ ∃ vi, RMade w k vi wr)
      (fun c _ => 128 - (intOf c).toNat)
    case atStart =>
      refine ⟨0, Nat.zero_le _, rfl, .slice none 0 0, ?_⟩
      refine ⟨?_, World.ownsRow_nil _ _ _ _, ?_, ?_, ?_, ?_, ?_, fun o => World.frozen?_alloc_new _ _ _ _, (Below.refl _ _).alloc (Nat.le_refl _) _⟩
      all_goals (rw [World.cell?_alloc_new]; rfl)
    case round =>
      obtain ⟨k, hk, rfl, vi, hv⟩ := hrel
      by_cases hlt : k < 128
      · have c0 := hv.cvi
        have hv2 := hv.drew
        go_wp2_with fail
        go_region_law (first
          | (refine step_append_lies _ rfl (.tmp 18) (.tmp 20) 39 rfl (w.heap.size + 1) 9 i0 _ 1 16 Try.underlying39 Hi.out Hz.out Hz1.out Hz2.out rfl (by decide) vi k (scells (List.replicate k (Zn 32))) rfl (hv3.is.alloc _) ⟨w2.heap.size, 0, none⟩ 1 1 [.string Z] rfl rfl (news_last _ [.string Z] _) h1c (by decide) (by unfold maxLen; omega) (by omega) (by have := hv3.lt; simp; omega) _ rfl ?_
             intro g cap w4 hown hgrow hat hlt2
             have hgr := hv3.grown hgrow
             have c4 : w4.cell? ⟨w.heap.size, 0, none⟩ = some vi := (World.cell?_of_block (a := ⟨w.heap.size, 0, none⟩) hgr.1).trans hv3.cvi
             have f4 : w4.frozen? ⟨w.heap.size, 0, none⟩ = false := (World.frozen?_of_block (a := ⟨w.heap.size, 0, none⟩) hgr.1).trans (hv3.fro 0)
             have hv4 := hv3.push hgr.1 hgr.2 HZ.out hown
             clear hown hgrow hat hlt2 hgr)
          | (go_simp; go_at_call 21; refine (hzeros _).mono ?_; rintro e w2 ⟨rfl, hb2⟩; have hv3 := hv2.more hb2; have c3 := hv3.cvi; have c3' : (w2.alloc (.cells #[.string Z] 9)).cell? ⟨w.heap.size, 0, none⟩ = some vi := (World.cell?_alloc_lt _ _ _ (show w.heap.size < w2.heap.size from hv3.lt)).trans c3; clear hb2))
        all_goals
          go_wp2_with fail
          go_roundw
          case rel => exact ⟨k + 1, by omega, by go_num, _, hv4⟩
          case measure => simp [intOf]; omega
      · go_wp2_with fail
        go_ret
        refine ⟨rfl, vi, ?_, fun j hj => (hv.is.lt j hj).1, hv.below⟩
        have e : k = 128 := by omega
        rw [← Hmn.out, ← e]
        exact hv.done (by omega) (by omega)
  · go_loopw [4] (fun c wr => ∃ k : Nat, k ≤ m ∧ c = .int .i64 (k : Int) ∧ ∃ vi, RMade w k vi wr)
      (fun c _ => m - (intOf c).toNat)
    case atStart =>
      refine ⟨0, Nat.zero_le _, rfl, .slice none 0 0, ?_⟩
      refine ⟨?_, World.ownsRow_nil _ _ _ _, ?_, ?_, ?_, ?_, ?_, fun o => World.frozen?_alloc_new _ _ _ _, (Below.refl _ _).alloc (Nat.le_refl _) _⟩
      all_goals (rw [World.cell?_alloc_new]; rfl)
    case round =>
      obtain ⟨k, hk, rfl, vi, hv⟩ := hrel
      by_cases hlt : k < m
      · have c0 := hv.cvi
        have hv2 := hv.drew
        go_wp2_with fail
        go_region_law (first
          | (refine step_append_lies _ rfl (.tmp 18) (.tmp 20) 39 rfl (w.heap.size + 1) 9 i0 _ 1 16 Try.underlying39 Hi.out Hz.out Hz1.out Hz2.out rfl (by decide) vi k (scells (List.replicate k (Zn 32))) rfl (hv3.is.alloc _) ⟨w2.heap.size, 0, none⟩ 1 1 [.string Z] rfl rfl (news_last _ [.string Z] _) h1c (by decide) (by unfold maxLen; omega) (by omega) (by have := hv3.lt; simp; omega) _ rfl ?_
             intro g cap w4 hown hgrow hat hlt2
             have hgr := hv3.grown hgrow
             have c4 : w4.cell? ⟨w.heap.size, 0, none⟩ = some vi := (World.cell?_of_block (a := ⟨w.heap.size, 0, none⟩) hgr.1).trans hv3.cvi
             have f4 : w4.frozen? ⟨w.heap.size, 0, none⟩ = false := (World.frozen?_of_block (a := ⟨w.heap.size, 0, none⟩) hgr.1).trans (hv3.fro 0)
             have hv4 := hv3.push hgr.1 hgr.2 HZ.out hown
             clear hown hgrow hat hlt2 hgr)
          | (go_simp; go_at_call 21; refine (hzeros _).mono ?_; rintro e w2 ⟨rfl, hb2⟩; have hv3 := hv2.more hb2; have c3 := hv3.cvi; have c3' : (w2.alloc (.cells #[.string Z] 9)).cell? ⟨w.heap.size, 0, none⟩ = some vi := (World.cell?_alloc_lt _ _ _ (show w.heap.size < w2.heap.size from hv3.lt)).trans c3; clear hb2))
        all_goals
          go_wp2_with fail
          go_roundw
          case rel => exact ⟨k + 1, by omega, by go_num, _, hv4⟩
          case measure => simp [intOf]; omega
      · go_wp2_with fail
        go_ret
        refine ⟨rfl, vi, ?_, fun j hj => (hv.is.lt j hj).1, hv.below⟩
        have e : k = m := by omega
        rw [← Hmn.out, ← e]
        exact hv.done (by omega) (by omega)
  · go_loopw [4] (fun c wr => ∃ k : Nat, k ≤ 4 ∧ c = .int .i64 (k : Int) ∧ ∃ vi, RMade w k vi wr)
      (fun c _ => 4 - (intOf c).toNat)
    case atStart =>
      refine ⟨0, Nat.zero_le _, rfl, .slice none 0 0, ?_⟩
      refine ⟨?_, World.ownsRow_nil _ _ _ _, ?_, ?_, ?_, ?_, ?_, fun o => World.frozen?_alloc_new _ _ _ _, (Below.refl _ _).alloc (Nat.le_refl _) _⟩
      all_goals (rw [World.cell?_alloc_new]; rfl)
    case round =>
      obtain ⟨k, hk, rfl, vi, hv⟩ := hrel
      by_cases hlt : k < 4
      · have c0 := hv.cvi
        have hv2 := hv.drew
        go_wp2_with fail
        go_region_law (first
          | (refine step_append_lies _ rfl (.tmp 18) (.tmp 20) 39 rfl (w.heap.size + 1) 9 i0 _ 1 16 Try.underlying39 Hi.out Hz.out Hz1.out Hz2.out rfl (by decide) vi k (scells (List.replicate k (Zn 32))) rfl (hv3.is.alloc _) ⟨w2.heap.size, 0, none⟩ 1 1 [.string Z] rfl rfl (news_last _ [.string Z] _) h1c (by decide) (by unfold maxLen; omega) (by omega) (by have := hv3.lt; simp; omega) _ rfl ?_
             intro g cap w4 hown hgrow hat hlt2
             have hgr := hv3.grown hgrow
             have c4 : w4.cell? ⟨w.heap.size, 0, none⟩ = some vi := (World.cell?_of_block (a := ⟨w.heap.size, 0, none⟩) hgr.1).trans hv3.cvi
             have f4 : w4.frozen? ⟨w.heap.size, 0, none⟩ = false := (World.frozen?_of_block (a := ⟨w.heap.size, 0, none⟩) hgr.1).trans (hv3.fro 0)
             have hv4 := hv3.push hgr.1 hgr.2 HZ.out hown
             clear hown hgrow hat hlt2 hgr)
          | (go_simp; go_at_call 21; refine (hzeros _).mono ?_; rintro e w2 ⟨rfl, hb2⟩; have hv3 := hv2.more hb2; have c3 := hv3.cvi; have c3' : (w2.alloc (.cells #[.string Z] 9)).cell? ⟨w.heap.size, 0, none⟩ = some vi := (World.cell?_alloc_lt _ _ _ (show w.heap.size < w2.heap.size from hv3.lt)).trans c3; clear hb2))
        all_goals
          go_wp2_with fail
          go_roundw
          case rel => exact ⟨k + 1, by omega, by go_num, _, hv4⟩
          case measure => simp [intOf]; omega
      · go_wp2_with fail
        go_ret
        refine ⟨rfl, vi, ?_, fun j hj => (hv.is.lt j hj).1, hv.below⟩
        have e : k = 4 := by omega
        rw [← Hmn.out, ← e]
        exact hv.done (by omega) (by omega)
end Go.Proofs.Ytahmnehfadiegaa
