/- PlateScript: its walk: plate and reference in lockstep. -/
import Derived.Test.YtahmnehfadiegaaRefLaw
import Derived.Test.YtahmnehfadiegaaStep
import Derived.BigQuiet
import Derived.Deep.RegionHeld3
namespace Go.Proofs.Ytahmnehfadiegaa
open Go.RowKit
theorem P2.drewN {F : Frame} {w : World} {b : Nat} {st : PS} {c : Nat} {sr : PS} (h : P2 F w b st c sr) (n : Nat) : P2 F (w.drewN n) b st c sr := h.quiet ⟨rfl, rfl, rfl, Nat.le_refl _, fun _ _ => rfl⟩
theorem P2.sizeQ {F : Frame} {w : World} {b : Nat} {st : PS} {c : Nat} {sr : PS} (h : P2 F w b st c sr) (n : Nat) :
    Calls Try.prog 22 #[.pointer (some ⟨b, 0, none⟩)] (w.drewN n) fun e w' => e = .returned (.int .i64 (st.size : Int)) ∧ w' = w.drewN n := (h.drewN n).size.mono fun _ _ ⟨h1, h2⟩ => ⟨h1, h2.symm⟩
theorem P2.deadQ {F : Frame} {w : World} {b : Nat} {st : PS} {c : Nat} {sr : PS} (h : P2 F w b st c sr) (n : Nat) :
    Calls Try.prog 12 #[.pointer (some ⟨b, 0, none⟩)] (w.drewN n) fun e w' => e = .returned (.bool st.off) ∧ w' = w.drewN n := (h.drewN n).dead.mono fun _ _ ⟨h1, h2⟩ => ⟨h1, h2.symm⟩
theorem P2.callsQ {F : Frame} {w : World} {b : Nat} {st : PS} {c : Nat} {sr : PS} (h : P2 F w b st c sr) (n : Nat) :
    Calls Try.prog 13 #[.pointer (some ⟨b, 0, none⟩)] (w.drewN n) fun e w' => e = .returned (.int .i64 (st.calls : Int)) ∧ w' = w.drewN n := (h.drewN n).calls.mono fun _ _ ⟨h1, h2⟩ => ⟨h1, h2.symm⟩
/-- The cells of a block that was made, and is kept. -/
theorem kept_cells {B : Nat} {w0 wr w' : World} {K : Nat → Prop} {cs : Array Value} {t : TypeId} {b c : Nat} {st sr : PS} (h : P2 ⟨B, w0, fun k => K k ∨ k = wr.heap.size, wr.alloc (.cells cs t)⟩ w' b st c sr) (j : Nat) (v : Value) (hj : cs[j]? = some v) :
    w'.cell? ⟨wr.heap.size, j, none⟩ = some v := by
  rw [h.keptCell (.inr rfl)]
  show (wr.alloc (.cells cs t)).cell? _ = _
  rw [World.cell?_alloc_new]
  exact hj
set_option maxRecDepth 100000 in
set_option maxHeartbeats 4000000 in
theorem script_any (n : Int) {v : Value} {l : List Stp} {w : World} (ha : ArgRow w v 4 (l.map Stp.cells)) (hfit : ∀ o ∈ l, o.fits) :
    Calls Try.prog 7 #[.int .i64 n, v] w fun e w' => e = .returned (.bool true) ∧ Below w.heap.size w w' := by
  have hh := heavy_any ha hfit
  cases hhv : hvB l
  · have hlen := hvB_len hhv
    rw [hhv] at hh
    clear hhv
    obtain ⟨base, cap, rfl, hm, hrow⟩ := ha
    rw [List.length_map] at hh ⊢
    go_enter Try.func7, Try.ntmps7
    go_wp2_with fail
    refine hh.mono ?_
    rintro e w1 ⟨rfl, rfl⟩
    clear hh
    go_wp2_with fail
    refine (P1.made _).mono ?_
    rintro e w1 ⟨rfl, hp1⟩
    go_wp2_with fail
    refine (P2.made hp1 _).mono ?_
    rintro e w2 ⟨rfl, hp⟩
    clear hp1
    have hsz : (PS.new (sizeOfN n)).size = (PS.new (sizeOfN n)).is.length := by simp [PS.new]
    have hc0 : (PS.new (sizeOfN n)).calls ≤ 0 := Nat.le_refl _
    have hw0 : (PS.new (sizeOfN n)).wait.length ≤ 0 := Nat.le_refl _
    generalize PS.new (sizeOfN n) = st at hp hsz hc0 hw0
    obtain ⟨a0, cap0, hlenc⟩ := hp.isLen
    have hq := hp.sizeQ
    rw [hsz] at hq
    generalize w1.heap.size = c at hp hlenc ⊢
    generalize hb : w.heap.size = b at hp hq ⊢
    have HB := Lib.hid hb
    clear hsz hb
    have HP := Lib.hid hp
    clear hp
    go_wp2_with fail
    go_quiet ((go_at_call 22; refine Calls.quiet_of_same (hq _)))
    have hp := HP.out.drewN
    clear hq hlenc HP
    go_wp2_with fail
    go_loopw [7] (fun i wr => ∃ (k : Nat) (st : PS) (wk : World), k ≤ l.length ∧ i = .int .i64 (k : Int) ∧ P2 ⟨b, w, fun _ => False, wk⟩ wr b st c st ∧ st.calls ≤ k ∧ st.wait.length ≤ k)
      (fun i _ => l.length - (intOf i).toNat)
    case atStart => exact ⟨0, st, w1, Nat.zero_le _, rfl, hp _, hc0, hw0⟩
    case round =>
      clear hp hc0 hw0
      obtain ⟨k, st, wk, hk, rfl, hp, hcal, hwt⟩ := hrel
      by_cases hlt : k < l.length
      · obtain ⟨o, ho⟩ : ∃ o, l[k]? = some o := ⟨_, List.getElem?_eq_getElem hlt⟩
        obtain ⟨g, off, rfl, hgl, hc⟩ := hrow k o.cells (by rw [List.getElem?_map, ho]; rfl)
        obtain ⟨hf0, hf1, hf2, hf3⟩ := hfit o (List.mem_of_getElem? ho)
        clear ho
        obtain ⟨kd, oi, os, okeep⟩ := o
        have hgb : ∀ q, wr.cell? ⟨g, q, none⟩ = w.cell? ⟨g, q, none⟩ := fun q => World.cell?_of_block (a := ⟨g, q, none⟩) (hp.below.block g (by rw [← HB.out]; exact hgl))
        have c0 : wr.cell? ⟨g, off + k * 4 + 0, none⟩ = some (.int .i64 kd) := (hgb _).trans (hc 0 _ rfl)
        have c1 : wr.cell? ⟨g, off + k * 4 + 1, none⟩ = some (.int .i64 oi) := (hgb _).trans (hc 1 _ rfl)
        have c2 : wr.cell? ⟨g, off + k * 4 + 2, none⟩ = some (.string os) := (hgb _).trans (hc 2 _ rfl)
        have c3 : wr.cell? ⟨g, off + k * 4 + 3, none⟩ = some (.int .u64 (okeep : Int)) := (hgb _).trans (hc 3 _ rfl)
        rw [Nat.add_zero] at c0
        clear hc hgb
        -- BRANCHES
        rcases (show kd = 0 ∨ kd = 1 ∨ kd = 2 ∨ kd = 3 ∨ kd = 4 ∨ (kd ≠ 0 ∧ kd ≠ 1 ∧ kd ≠ 2 ∧ kd ≠ 3 ∧ kd ≠ 4) by omega) with rfl | rfl | rfl | rfl | rfl | ⟨h0, h1, h2, h3, h4⟩
        · have hpA : P2 ⟨b, w, fun k => False ∨ k = wr.heap.size, wr.alloc (.cells #[.int .i64 0, .int .i64 oi, .string os, .int .u64 (okeep : Int)] 38)⟩ (wr.alloc (.cells #[.int .i64 0, .int .i64 oi, .string os, .int .u64 (okeep : Int)] 38)) b st c st := hp.alloc (.cells #[.int .i64 0, .int .i64 oi, .string os, .int .u64 (okeep : Int)] 38)
          have hcl : ∀ w' st' sr', P2 ⟨b, w, fun k => False ∨ k = wr.heap.size, wr.alloc (.cells #[.int .i64 0, .int .i64 oi, .string os, .int .u64 (okeep : Int)] 38)⟩ w' b st' c sr' →
              w'.cell? ⟨wr.heap.size, 0, none⟩ = some (.int .i64 0) ∧ w'.cell? ⟨wr.heap.size, 1, none⟩ = some (.int .i64 oi) ∧ w'.cell? ⟨wr.heap.size, 2, none⟩ = some (.string os) ∧ w'.cell? ⟨wr.heap.size, 3, none⟩ = some (.int .u64 (okeep : Int)) :=
            fun w' st' sr' h => ⟨kept_cells h 0 _ rfl, kept_cells h 1 _ rfl, kept_cells h 2 _ rfl, kept_cells h 3 _ rfl⟩
          have Hcells := Lib.hid hcl
          have HPA := Lib.hid hpA
          clear hp hcl hpA
          go_wp2_with fail
          generalize hW : wr.alloc (.cells #[.int .i64 0, .int .i64 oi, .string os, .int .u64 (okeep : Int)] 38) = W at HPA Hcells ⊢
          generalize hob : wr.heap.size = ob at HPA Hcells ⊢
          clear hW hob c0 c1 c2 c3
          have hpA := HPA.out
          clear HPA
          obtain ⟨-, q1, q2, -⟩ := Hcells.out _ _ _ hpA
          have d1 : W.drew.cell? ⟨ob, 1, none⟩ = some (.int .i64 oi) := q1
          have d2 : W.drew.cell? ⟨ob, 2, none⟩ = some (.string os) := q2
          have b1 : (st.writeS oi os.data.toList).calls ≤ k + 1 := Nat.le_trans (PS.calls_writeS _ _ _) (by omega)
          have b2 : (st.writeS oi os.data.toList).wait.length ≤ k + 1 := Nat.le_trans (PS.wait_writeS _ _ _) (by omega)
          have hcw := hpA.drew.write (by omega) (by omega) oi os hf2
          have hcr : ∀ w1, P2 ⟨b, w, fun k => False ∨ k = ob, W⟩ w1 b (st.writeS oi os.data.toList) c st → _ := fun w1 h => h.rwrite (by omega) (by omega) oi os hf2
          generalize st.writeE oi os.data.toList = ee at hcw hcr
          generalize st.writeS oi os.data.toList = st2 at hcw hcr b1 b2
          have Hcr := Lib.hid hcr
          have B12 := Lib.hid (And.intro b1 b2)
          clear hcr hpA b1 b2
          go_region_held3 (fun w' => w'.cell? ⟨ob, 1, none⟩ = some (.int .i64 oi) ∧ w'.cell? ⟨ob, 2, none⟩ = some (.string os)) (first | exact ⟨d1, d2⟩ | exact ⟨e1, e2⟩ | exact ⟨f1, f2⟩)
            ((first
              | (go_at_call 11
                 refine hcw.mono ?_
                 rintro e w1 ⟨rfl, hp1⟩
                 obtain ⟨-, e1, e2, -⟩ := Hcells.out _ _ _ hp1)
              | (go_at_call 18
                 refine (Hcr.out _ hp1).mono ?_
                 rintro e w2 ⟨rfl, hp2⟩
                 obtain ⟨-, f1, f2, -⟩ := Hcells.out _ _ _ hp2)))
          obtain ⟨b1, b2⟩ := B12.out
          clear d1 d2 q1 q2 hcw Hcr e1 e2 f1 f2 hp1 B12
          obtain ⟨-, q1, -, -⟩ := Hcells.out _ _ _ hp2
          go_wp2_with fail
          refine (hp2.readAt (by omega) oi).mono ?_
          rintro e w4 ⟨rfl, hp4⟩
          have hr := hp4.rreadAt (by omega) oi
          generalize (⟨(st2.readV oi).toArray⟩ : ByteArray) = X at hr ⊢
          generalize st2.wrong oi = y at hr ⊢
          obtain ⟨-, q2, -, -⟩ := Hcells.out _ _ _ hp4
          clear hp2 q1
          go_wp2_with fail
          refine hr.mono ?_
          rintro e w5 ⟨rfl, rfl⟩
          have hgo := hp4.gone
          have hnu := hp4.num
          have hd := hp4.deadQ
          have hn := hp4.callsQ
          have hp5 := fun n => hp4.drewN n
          have HP5 := Lib.hid hp5
          clear hp5 hp4 hr q2
          go_wp2_with fail
          go_quiet (first | (go_at_call 12; refine Calls.quiet_of_same (hd _)) | (go_at_call 13; refine Calls.quiet_of_same (hn _)))
          clear hgo hnu hd hn
          go_wp2_with fail
          go_roundw
          case rel => exact ⟨k + 1, st2, _, by omega, by go_num, (HP5.out _).reframe (fun _ h => h.elim), b1, b2⟩
          case measure => simp [intOf]; omega
        · have hpA : P2 ⟨b, w, fun k => False ∨ k = wr.heap.size, wr.alloc (.cells #[.int .i64 1, .int .i64 oi, .string os, .int .u64 (okeep : Int)] 38)⟩ (wr.alloc (.cells #[.int .i64 1, .int .i64 oi, .string os, .int .u64 (okeep : Int)] 38)) b st c st := hp.alloc (.cells #[.int .i64 1, .int .i64 oi, .string os, .int .u64 (okeep : Int)] 38)
          have hcl : ∀ w' st' sr', P2 ⟨b, w, fun k => False ∨ k = wr.heap.size, wr.alloc (.cells #[.int .i64 1, .int .i64 oi, .string os, .int .u64 (okeep : Int)] 38)⟩ w' b st' c sr' →
              w'.cell? ⟨wr.heap.size, 0, none⟩ = some (.int .i64 1) ∧ w'.cell? ⟨wr.heap.size, 1, none⟩ = some (.int .i64 oi) ∧ w'.cell? ⟨wr.heap.size, 2, none⟩ = some (.string os) ∧ w'.cell? ⟨wr.heap.size, 3, none⟩ = some (.int .u64 (okeep : Int)) :=
            fun w' st' sr' h => ⟨kept_cells h 0 _ rfl, kept_cells h 1 _ rfl, kept_cells h 2 _ rfl, kept_cells h 3 _ rfl⟩
          have Hcells := Lib.hid hcl
          have HPA := Lib.hid hpA
          clear hp hcl hpA
          go_wp2_with fail
          generalize hW : wr.alloc (.cells #[.int .i64 1, .int .i64 oi, .string os, .int .u64 (okeep : Int)] 38) = W at HPA Hcells ⊢
          generalize hob : wr.heap.size = ob at HPA Hcells ⊢
          clear hW hob c0 c1 c2 c3
          have hpA := HPA.out
          clear HPA
          have b1 : st.syncS.calls ≤ k + 1 := Nat.le_trans (PS.calls_syncS _) (by omega)
          have b2 : st.syncS.wait.length ≤ k + 1 := Nat.le_trans (PS.wait_syncS _) (by omega)
          refine (hpA.sync (by omega) (by omega)).mono ?_
          rintro e w1 ⟨rfl, hp1⟩
          have hs := hp1.rsync (by omega) (by omega)
          generalize st.syncE = ee at hs ⊢
          generalize st.syncS = st2 at hs hp1 b1 b2
          clear hpA
          go_wp2_with fail
          refine hs.mono ?_
          rintro e w2 ⟨rfl, hp2⟩
          clear hs hp1
          obtain ⟨-, q1, -, -⟩ := Hcells.out _ _ _ hp2
          go_wp2_with fail
          refine (hp2.readAt (by omega) oi).mono ?_
          rintro e w4 ⟨rfl, hp4⟩
          have hr := hp4.rreadAt (by omega) oi
          generalize (⟨(st2.readV oi).toArray⟩ : ByteArray) = X at hr ⊢
          generalize st2.wrong oi = y at hr ⊢
          obtain ⟨-, q2, -, -⟩ := Hcells.out _ _ _ hp4
          clear hp2 q1
          go_wp2_with fail
          refine hr.mono ?_
          rintro e w5 ⟨rfl, rfl⟩
          have hgo := hp4.gone
          have hnu := hp4.num
          have hd := hp4.deadQ
          have hn := hp4.callsQ
          have hp5 := fun n => hp4.drewN n
          have HP5 := Lib.hid hp5
          clear hp5 hp4 hr q2
          go_wp2_with fail
          go_quiet (first | (go_at_call 12; refine Calls.quiet_of_same (hd _)) | (go_at_call 13; refine Calls.quiet_of_same (hn _)))
          clear hgo hnu hd hn
          go_wp2_with fail
          go_roundw
          case rel => exact ⟨k + 1, st2, _, by omega, by go_num, (HP5.out _).reframe (fun _ h => h.elim), b1, b2⟩
          case measure => simp [intOf]; omega
        · have hpA : P2 ⟨b, w, fun k => False ∨ k = wr.heap.size, wr.alloc (.cells #[.int .i64 2, .int .i64 oi, .string os, .int .u64 (okeep : Int)] 38)⟩ (wr.alloc (.cells #[.int .i64 2, .int .i64 oi, .string os, .int .u64 (okeep : Int)] 38)) b st c st := hp.alloc (.cells #[.int .i64 2, .int .i64 oi, .string os, .int .u64 (okeep : Int)] 38)
          have hcl : ∀ w' st' sr', P2 ⟨b, w, fun k => False ∨ k = wr.heap.size, wr.alloc (.cells #[.int .i64 2, .int .i64 oi, .string os, .int .u64 (okeep : Int)] 38)⟩ w' b st' c sr' →
              w'.cell? ⟨wr.heap.size, 0, none⟩ = some (.int .i64 2) ∧ w'.cell? ⟨wr.heap.size, 1, none⟩ = some (.int .i64 oi) ∧ w'.cell? ⟨wr.heap.size, 2, none⟩ = some (.string os) ∧ w'.cell? ⟨wr.heap.size, 3, none⟩ = some (.int .u64 (okeep : Int)) :=
            fun w' st' sr' h => ⟨kept_cells h 0 _ rfl, kept_cells h 1 _ rfl, kept_cells h 2 _ rfl, kept_cells h 3 _ rfl⟩
          have Hcells := Lib.hid hcl
          have HPA := Lib.hid hpA
          clear hp hcl hpA
          go_wp2_with fail
          generalize hW : wr.alloc (.cells #[.int .i64 2, .int .i64 oi, .string os, .int .u64 (okeep : Int)] 38) = W at HPA Hcells ⊢
          generalize hob : wr.heap.size = ob at HPA Hcells ⊢
          clear hW hob c0 c1 c2 c3
          have hpA := HPA.out
          clear HPA
          have b1 : (st.cut oi okeep).calls ≤ k + 1 := Nat.le_trans hcal (by omega)
          have b2 : (st.cut oi okeep).wait.length ≤ k + 1 := Nat.le_trans hwt (by omega)
          refine (hpA.cut oi hf1.2 okeep hf3).mono ?_
          rintro e w1 ⟨rfl, hp1⟩
          have hs := hp1.rcut oi hf1.2 okeep hf3
          obtain ⟨-, q1, -, q3⟩ := Hcells.out _ _ _ hp1
          generalize st.cut oi okeep = st2 at hs hp1 b1 b2
          clear hpA
          go_wp2_with fail
          refine hs.mono ?_
          rintro e w2 ⟨rfl, hp2⟩
          clear hs hp1 q1 q3
          obtain ⟨-, q1, -, -⟩ := Hcells.out _ _ _ hp2
          go_wp2_with fail
          refine (hp2.readAt (by omega) oi).mono ?_
          rintro e w4 ⟨rfl, hp4⟩
          have hr := hp4.rreadAt (by omega) oi
          generalize (⟨(st2.readV oi).toArray⟩ : ByteArray) = X at hr ⊢
          generalize st2.wrong oi = y at hr ⊢
          obtain ⟨-, q2, -, -⟩ := Hcells.out _ _ _ hp4
          clear hp2 q1
          go_wp2_with fail
          refine hr.mono ?_
          rintro e w5 ⟨rfl, rfl⟩
          have hgo := hp4.gone
          have hnu := hp4.num
          have hd := hp4.deadQ
          have hn := hp4.callsQ
          have hp5 := fun n => hp4.drewN n
          have HP5 := Lib.hid hp5
          clear hp5 hp4 hr q2
          go_wp2_with fail
          go_quiet (first | (go_at_call 12; refine Calls.quiet_of_same (hd _)) | (go_at_call 13; refine Calls.quiet_of_same (hn _)))
          clear hgo hnu hd hn
          go_wp2_with fail
          go_roundw
          case rel => exact ⟨k + 1, st2, _, by omega, by go_num, (HP5.out _).reframe (fun _ h => h.elim), b1, b2⟩
          case measure => simp [intOf]; omega
        · have hpA : P2 ⟨b, w, fun k => False ∨ k = wr.heap.size, wr.alloc (.cells #[.int .i64 3, .int .i64 oi, .string os, .int .u64 (okeep : Int)] 38)⟩ (wr.alloc (.cells #[.int .i64 3, .int .i64 oi, .string os, .int .u64 (okeep : Int)] 38)) b st c st := hp.alloc (.cells #[.int .i64 3, .int .i64 oi, .string os, .int .u64 (okeep : Int)] 38)
          have hcl : ∀ w' st' sr', P2 ⟨b, w, fun k => False ∨ k = wr.heap.size, wr.alloc (.cells #[.int .i64 3, .int .i64 oi, .string os, .int .u64 (okeep : Int)] 38)⟩ w' b st' c sr' →
              w'.cell? ⟨wr.heap.size, 0, none⟩ = some (.int .i64 3) ∧ w'.cell? ⟨wr.heap.size, 1, none⟩ = some (.int .i64 oi) ∧ w'.cell? ⟨wr.heap.size, 2, none⟩ = some (.string os) ∧ w'.cell? ⟨wr.heap.size, 3, none⟩ = some (.int .u64 (okeep : Int)) :=
            fun w' st' sr' h => ⟨kept_cells h 0 _ rfl, kept_cells h 1 _ rfl, kept_cells h 2 _ rfl, kept_cells h 3 _ rfl⟩
          have Hcells := Lib.hid hcl
          have HPA := Lib.hid hpA
          clear hp hcl hpA
          go_wp2_with fail
          generalize hW : wr.alloc (.cells #[.int .i64 3, .int .i64 oi, .string os, .int .u64 (okeep : Int)] 38) = W at HPA Hcells ⊢
          generalize hob : wr.heap.size = ob at HPA Hcells ⊢
          clear hW hob c0 c1 c2 c3
          have hpA := HPA.out
          clear HPA
          have b1 : (st.crash okeep).calls ≤ k + 1 := by rw [PS.calls_crash]; omega
          have b2 : (st.crash okeep).wait.length ≤ k + 1 := Nat.le_trans (PS.wait_crash _ _) (by omega)
          refine (hpA.crash (by omega) okeep hf3).mono ?_
          rintro e w1 ⟨rfl, hp1⟩
          have hs := hp1.rcrash (by omega) okeep hf3
          obtain ⟨-, -, -, q3⟩ := Hcells.out _ _ _ hp1
          generalize st.crash okeep = st2 at hs hp1 b1 b2
          clear hpA
          go_wp2_with fail
          refine hs.mono ?_
          rintro e w2 ⟨rfl, hp2⟩
          clear hs hp1 q3
          obtain ⟨-, q1, -, -⟩ := Hcells.out _ _ _ hp2
          go_wp2_with fail
          refine (hp2.readAt (by omega) oi).mono ?_
          rintro e w4 ⟨rfl, hp4⟩
          have hr := hp4.rreadAt (by omega) oi
          generalize (⟨(st2.readV oi).toArray⟩ : ByteArray) = X at hr ⊢
          generalize st2.wrong oi = y at hr ⊢
          obtain ⟨-, q2, -, -⟩ := Hcells.out _ _ _ hp4
          clear hp2 q1
          go_wp2_with fail
          refine hr.mono ?_
          rintro e w5 ⟨rfl, rfl⟩
          have hgo := hp4.gone
          have hnu := hp4.num
          have hd := hp4.deadQ
          have hn := hp4.callsQ
          have hp5 := fun n => hp4.drewN n
          have HP5 := Lib.hid hp5
          clear hp5 hp4 hr q2
          go_wp2_with fail
          go_quiet (first | (go_at_call 12; refine Calls.quiet_of_same (hd _)) | (go_at_call 13; refine Calls.quiet_of_same (hn _)))
          clear hgo hnu hd hn
          go_wp2_with fail
          go_roundw
          case rel => exact ⟨k + 1, st2, _, by omega, by go_num, (HP5.out _).reframe (fun _ h => h.elim), b1, b2⟩
          case measure => simp [intOf]; omega
        · have hpA : P2 ⟨b, w, fun k => False ∨ k = wr.heap.size, wr.alloc (.cells #[.int .i64 4, .int .i64 oi, .string os, .int .u64 (okeep : Int)] 38)⟩ (wr.alloc (.cells #[.int .i64 4, .int .i64 oi, .string os, .int .u64 (okeep : Int)] 38)) b st c st := hp.alloc (.cells #[.int .i64 4, .int .i64 oi, .string os, .int .u64 (okeep : Int)] 38)
          have hcl : ∀ w' st' sr', P2 ⟨b, w, fun k => False ∨ k = wr.heap.size, wr.alloc (.cells #[.int .i64 4, .int .i64 oi, .string os, .int .u64 (okeep : Int)] 38)⟩ w' b st' c sr' →
              w'.cell? ⟨wr.heap.size, 0, none⟩ = some (.int .i64 4) ∧ w'.cell? ⟨wr.heap.size, 1, none⟩ = some (.int .i64 oi) ∧ w'.cell? ⟨wr.heap.size, 2, none⟩ = some (.string os) ∧ w'.cell? ⟨wr.heap.size, 3, none⟩ = some (.int .u64 (okeep : Int)) :=
            fun w' st' sr' h => ⟨kept_cells h 0 _ rfl, kept_cells h 1 _ rfl, kept_cells h 2 _ rfl, kept_cells h 3 _ rfl⟩
          have Hcells := Lib.hid hcl
          have HPA := Lib.hid hpA
          clear hp hcl hpA
          go_wp2_with fail
          generalize hW : wr.alloc (.cells #[.int .i64 4, .int .i64 oi, .string os, .int .u64 (okeep : Int)] 38) = W at HPA Hcells ⊢
          generalize hob : wr.heap.size = ob at HPA Hcells ⊢
          clear hW hob c0 c1 c2 c3
          have hpA := HPA.out
          clear HPA
          have b1 : st.power.calls ≤ k + 1 := Nat.le_trans hcal (by omega)
          have b2 : st.power.wait.length ≤ k + 1 := Nat.le_trans hwt (by omega)
          refine hpA.power.mono ?_
          rintro e w1 ⟨rfl, hp1⟩
          have hs := hp1.rpower
          generalize st.power = st2 at hs hp1 b1 b2
          clear hpA
          go_wp2_with fail
          refine hs.mono ?_
          rintro e w2 ⟨rfl, hp2⟩
          clear hs hp1
          obtain ⟨-, q1, -, -⟩ := Hcells.out _ _ _ hp2
          go_wp2_with fail
          refine (hp2.readAt (by omega) oi).mono ?_
          rintro e w4 ⟨rfl, hp4⟩
          have hr := hp4.rreadAt (by omega) oi
          generalize (⟨(st2.readV oi).toArray⟩ : ByteArray) = X at hr ⊢
          generalize st2.wrong oi = y at hr ⊢
          obtain ⟨-, q2, -, -⟩ := Hcells.out _ _ _ hp4
          clear hp2 q1
          go_wp2_with fail
          refine hr.mono ?_
          rintro e w5 ⟨rfl, rfl⟩
          have hgo := hp4.gone
          have hnu := hp4.num
          have hd := hp4.deadQ
          have hn := hp4.callsQ
          have hp5 := fun n => hp4.drewN n
          have HP5 := Lib.hid hp5
          clear hp5 hp4 hr q2
          go_wp2_with fail
          go_quiet (first | (go_at_call 12; refine Calls.quiet_of_same (hd _)) | (go_at_call 13; refine Calls.quiet_of_same (hn _)))
          clear hgo hnu hd hn
          go_wp2_with fail
          go_roundw
          case rel => exact ⟨k + 1, st2, _, by omega, by go_num, (HP5.out _).reframe (fun _ h => h.elim), b1, b2⟩
          case measure => simp [intOf]; omega
        · have k0 : (kd == 0) = false := by simpa using h0
          have k1 : (kd == 1) = false := by simpa using h1
          have k2 : (kd == 2) = false := by simpa using h2
          have k3 : (kd == 3) = false := by simpa using h3
          have k4 : (kd == 4) = false := by simpa using h4
          clear h0 h1 h2 h3 h4
          have hpA : P2 ⟨b, w, fun k => False ∨ k = wr.heap.size, wr.alloc (.cells #[.int .i64 kd, .int .i64 oi, .string os, .int .u64 (okeep : Int)] 38)⟩ (wr.alloc (.cells #[.int .i64 kd, .int .i64 oi, .string os, .int .u64 (okeep : Int)] 38)) b st c st := hp.alloc (.cells #[.int .i64 kd, .int .i64 oi, .string os, .int .u64 (okeep : Int)] 38)
          have hcl : ∀ w' st' sr', P2 ⟨b, w, fun k => False ∨ k = wr.heap.size, wr.alloc (.cells #[.int .i64 kd, .int .i64 oi, .string os, .int .u64 (okeep : Int)] 38)⟩ w' b st' c sr' →
              w'.cell? ⟨wr.heap.size, 0, none⟩ = some (.int .i64 kd) ∧ w'.cell? ⟨wr.heap.size, 1, none⟩ = some (.int .i64 oi) ∧ w'.cell? ⟨wr.heap.size, 2, none⟩ = some (.string os) ∧ w'.cell? ⟨wr.heap.size, 3, none⟩ = some (.int .u64 (okeep : Int)) :=
            fun w' st' sr' h => ⟨kept_cells h 0 _ rfl, kept_cells h 1 _ rfl, kept_cells h 2 _ rfl, kept_cells h 3 _ rfl⟩
          have Hcells := Lib.hid hcl
          have HPA := Lib.hid hpA
          clear hp hcl hpA
          go_wp2_with fail
          generalize hW : wr.alloc (.cells #[.int .i64 kd, .int .i64 oi, .string os, .int .u64 (okeep : Int)] 38) = W at HPA Hcells ⊢
          generalize hob : wr.heap.size = ob at HPA Hcells ⊢
          clear hW hob c0 c1 c2 c3
          have hpA := HPA.out
          clear HPA
          have b1 : st.calls ≤ k + 1 := by omega
          have b2 : st.wait.length ≤ k + 1 := by omega
          have hp2 := hpA
          clear hpA hcal hwt k0 k1 k2 k3 k4
          obtain ⟨-, q1, -, -⟩ := Hcells.out _ _ _ hp2
          refine (hp2.readAt (by omega) oi).mono ?_
          rintro e w4 ⟨rfl, hp4⟩
          have hr := hp4.rreadAt (by omega) oi
          generalize (⟨(st.readV oi).toArray⟩ : ByteArray) = X at hr ⊢
          generalize st.wrong oi = y at hr ⊢
          obtain ⟨-, q2, -, -⟩ := Hcells.out _ _ _ hp4
          clear hp2 q1
          go_wp2_with fail
          refine hr.mono ?_
          rintro e w5 ⟨rfl, rfl⟩
          have hgo := hp4.gone
          have hnu := hp4.num
          have hd := hp4.deadQ
          have hn := hp4.callsQ
          have hp5 := fun n => hp4.drewN n
          have HP5 := Lib.hid hp5
          clear hp5 hp4 hr q2
          go_wp2_with fail
          go_quiet (first | (go_at_call 12; refine Calls.quiet_of_same (hd _)) | (go_at_call 13; refine Calls.quiet_of_same (hn _)))
          clear hgo hnu hd hn
          go_wp2_with fail
          go_roundw
          case rel => exact ⟨k + 1, st, _, by omega, by go_num, (HP5.out _).reframe (fun _ h => h.elim), b1, b2⟩
          case measure => simp [intOf]; omega
        -- END BRANCHES
      · go_wp2_with fail
        refine hp.power.mono ?_
        rintro e w3 ⟨rfl, hp1⟩
        have hs := hp1.rpower
        have hwt2 : st.power.wait.length ≤ 200 := Nat.le_trans hwt (by omega)
        generalize st.power = st2 at hs hp1 hwt2
        clear hp hcal hwt
        go_wp2_with fail
        refine hs.mono ?_
        rintro e w4 ⟨rfl, hp2⟩
        clear hs hp1
        have hl2 : st2.is.length ≤ 128 := by have := hp2.ok.len; have := hp2.ok.hi; omega
        go_wp2_with fail
        go_loopw [13] (fun i wr => ∃ j : Int, -1 ≤ j ∧ j ≤ (st2.is.length : Int) + 1 ∧ i = .int .i64 j ∧ P2 ⟨b, w, fun _ => False, wk⟩ wr b st2 c st2)
          (fun i _ => ((st2.is.length : Int) + 1 - intOf i).toNat)
        case atStart => exact ⟨-1, by omega, by omega, rfl, hp2⟩
        case round =>
          clear hp2
          obtain ⟨j, hj1, hj2, rfl, hp⟩ := hrel
          obtain ⟨a2, cap2, hc2⟩ := hp.isLen
          by_cases hj : j ≤ (st2.is.length : Int)
          · go_wp2_with fail
            refine (hp.readAt (by omega) j).mono ?_
            rintro e w4 ⟨rfl, hp4⟩
            have hr := hp4.rreadAt (by omega) j
            generalize (⟨(st2.readV j).toArray⟩ : ByteArray) = X at hr ⊢
            generalize st2.wrong j = y at hr ⊢
            clear hp hc2
            go_wp2_with fail
            refine hr.mono ?_
            rintro e w5 ⟨rfl, rfl⟩
            clear hr
            go_wp2_with fail
            go_roundw
            case rel => exact ⟨j + 1, by omega, by omega, by go_num, hp4⟩
            case measure => simp [intOf]; omega
          · go_wp2_with fail
            go_ret
            exact ⟨rfl, by rw [HB.out]; exact hp.below⟩
  · rw [hhv] at hh
    clear hhv
    go_enter Try.func7, Try.ntmps7
    go_wp2_with fail
    refine hh.mono ?_
    rintro e w1 ⟨rfl, rfl⟩
    go_wp2_with fail
    go_ret
    exact ⟨rfl, Below.refl _ _⟩
end Go.Proofs.Ytahmnehfadiegaa
