/- BagTwice: its walk. -/
import Derived.Test.YtibpkdaiaoccjaaBag1
import Derived.Test.YtibpkdaiaoccjaaCount
import Derived.Test.YtibpkdaiaoccjaaSteps
import Derived.Deep.RegionHeld3
namespace Go.Proofs.Ytibpkdaiaoccjaa
open Go.RowKit
theorem ArgRow.mslice {w : World} {v : Value} {l : List Ms} (h : ArgRow w v 8 (l.map Ms.cells)) : ∃ base cap, v = .slice base l.length cap ∧ l.length ≤ maxLen := by
  obtain ⟨base, cap, hv, hm, _⟩ := h
  simp only [List.length_map] at hv hm
  exact ⟨base, cap, hv, hm⟩
theorem ArgRow.mat {w : World} {v : Value} {l : List Ms} (h : ArgRow w v 8 (l.map Ms.cells)) {k : Nat} {s : Ms} (hk : l[k]? = some s) :
    ∃ b off cap, v = .slice (some ⟨b, off, none⟩) l.length cap ∧ b < w.heap.size ∧ ∀ j x, s.cells[j]? = some x → w.cell? ⟨b, off + k * 8 + j, none⟩ = some x := by
  obtain ⟨base, cap, hv, hm, hr⟩ := h
  obtain ⟨b, off, rfl, h2, h3⟩ := hr k s.cells (by rw [List.getElem?_map, hk]; rfl)
  exact ⟨b, off, cap, by rw [hv, List.length_map], h2, h3⟩
theorem wrap_mid (x : Int) (h : -9223372036854775808 ≤ x) (h2 : x < 9223372036854775808) : IntKind.i64.wrap x = x := by rw [IntKind.wrap_i64]; omega
theorem fin_cnt {a b c : Nat} (h1 : b ≤ 1000) (h2 : c ≤ 1) (h : (a : Int) = (b : Int) + 1 - (c : Int)) : ((a : Int) == IntKind.i64.wrap (IntKind.i64.wrap ((b : Int) + 1) - (c : Int))) = true := by
  rw [beq_iff_eq, wrap_mid ((b : Int) + 1) (by omega) (by omega), wrap_mid _ (by omega) (by omega)]
  exact h
/-- A row of messages, wherever it lies; what keeps all rows. -/
def RowM (W : World) (v : Value) (l : List Ms) : Prop := W.ownsRow 0 23 8 v l.length (mrows l)
theorem RowM.alloc {W : World} {v : Value} {l : List Ms} (h : RowM W v l) (o : Obj) : RowM (W.alloc o) v l := World.ownsRow.alloc h o
theorem RowM.one (W : World) (x : Ms) : RowM (W.alloc (.cells x.cells.toArray 23)) (.slice (some ⟨W.heap.size, 0, none⟩) 1 1) [x] :=
  World.ownsRow_lit (base := 0) (size := 8) (e := 23) W x.cells.toArray 1 (Nat.zero_le _) (by unfold maxLen; omega) (by simp [len_mcells])
def KeepsM (W W' : World) : Prop := ∀ v l, RowM W v l → RowM W' v l
theorem KeepsM.of {W W' : World} (h : Below W.heap.size W W') : KeepsM W W' := fun _ _ hr => ownsRow_keep hr fun k hk => h.block k (hr.lt k hk).2
set_option maxRecDepth 100000 in
set_option maxHeartbeats 8000000 in
theorem bagtwice_any {v : Value} {l : List Ms} {w : World} (ha : ArgRow w v 8 (l.map Ms.cells)) (hf : ∀ s ∈ l, s.fits) (at_ : Nat) (hat : at_ < 256) :
    Calls Try.prog 5 #[v, .int .u8 (at_ : Int)] w fun e w' => e = .returned (.bool true) ∧ Below w.heap.size w w' := by
  obtain ⟨base, cap, rfl, hm⟩ := ha.mslice
  unfold maxLen at hm
  have hst : ∀ wr, Below w.heap.size w wr → ∀ k s, l[k]? = some s → _ := fun wr hb k s hk => (ha.below hb).mat (k := k) (s := s) hk
  have Hst := Lib.hid hst
  have Hf := Lib.hid hf
  clear hst ha hf
  by_cases hl0 : l.length = 0 ∨ 30 < l.length
  · have hsh : ∀ wr : World, Below w.heap.size w wr → Hid (Below w.heap.size w (wr.alloc (.cells Ms.zero.cells.toArray 23))) := fun wr h => h.alloc h.size _
    have Hsh := Lib.hid hsh
    by_cases hle : l.length = 0
    · have e1 : ((l.length : Int) == 0) = true := beq_iff_eq.2 (by omega)
      clear hl0 hle hsh
      go_enter Try.func5, Try.ntmps5
      go_wp2_with fail
      refine (bnew_any (w := w)).mono ?_
      rintro e w6 ⟨rfl, hb6, hbe6⟩
      have hnt := newtake_any _ hb6
      unfold Ms.val at hnt
      go_wp2_with fail
      refine hnt.mono ?_
      rintro e w7 ⟨rfl, hT7⟩
      have HQ := Lib.hid (Hsh.out _ (newtake_below hbe6 hT7))
      clear hnt hT7 hb6 hbe6
      go_wp2_with fail
      go_ret
      exact ⟨rfl, HQ.out⟩
    · have e1 : ((l.length : Int) == 0) = false := beq_eq_false_iff_ne.2 (by omega)
      have e2 : decide ((30 : Int) < (l.length : Int)) = true := by simp; omega
      clear hl0 hle hsh
      go_enter Try.func5, Try.ntmps5
      go_wp2_with fail
      refine (bnew_any (w := w)).mono ?_
      rintro e w6 ⟨rfl, hb6, hbe6⟩
      have hnt := newtake_any _ hb6
      unfold Ms.val at hnt
      go_wp2_with fail
      refine hnt.mono ?_
      rintro e w7 ⟨rfl, hT7⟩
      have HQ := Lib.hid (Hsh.out _ (newtake_below hbe6 hT7))
      clear hnt hT7 hb6 hbe6
      go_wp2_with fail
      go_ret
      exact ⟨rfl, HQ.out⟩
  · have e1 : ((l.length : Int) == 0) = false := beq_eq_false_iff_ne.2 (by omega)
    have e2 : decide ((30 : Int) < (l.length : Int)) = false := by simp; omega
    have hl30 : l.length ≤ 30 := by omega
    clear hl0
    go_enter Try.func5, Try.ntmps5
    go_wp2_with fail
    refine (bnew_any (w := w)).mono ?_
    rintro e w1 ⟨rfl, hbag, hbe⟩
    have hB := B1.made (w0 := w) (K := fun _ => False) (B := w.heap.size) (Nat.le_refl _) (Below.refl _ _) (fun k hk => hk.elim) hbag hbe
    have HB := Lib.hid hB
    clear hbag hbe hB
    go_wp2_with fail
    go_loopw [8, 9] (fun c i wr => ∃ (k : Nat) (L : List Ms), k ≤ l.length ∧ i = .int .i64 (k : Int) ∧ c = .int .i64 (L.length : Int) ∧ L.length ≤ k ∧ B1 ⟨w.heap.size, w, fun _ => False, w⟩ wr w.heap.size L ∧ good L) (fun _ i _ => l.length - (intOf i).toNat)
    case atStart => exact ⟨0, [], Nat.zero_le _, rfl, rfl, Nat.le_refl _, HB.out, good.nil⟩
    case round =>
      clear HB
      obtain ⟨k, L, hk, rfl, rfl, hLk, hp, hg⟩ := hrel
      by_cases hlt : k < l.length
      · obtain ⟨s, hs⟩ : ∃ s, l[k]? = some s := ⟨_, List.getElem?_eq_getElem hlt⟩
        obtain ⟨b, off, cap', hv, hbl, hc⟩ := Hst.out wr hp.below k s hs
        simp only [Value.slice.injEq, true_and] at hv
        obtain ⟨rfl, rfl⟩ := hv
        have hsf := Hf.out s (List.mem_of_getElem? hs)
        have q7 := hc 7 _ rfl
        have hdm := hsf.2.2.2.2.2.2.2
        unfold maxLen at hdm
        by_cases hbig : 1024 < s.data.size
        · have e3 : decide ((1024 : Int) < (s.data.size : Int)) = true := by simp; omega
          have HP := Lib.hid hp
          clear hc hs hsf hp hg
          go_wp2_with fail
          refine (bnew_any (w := wr)).mono ?_
          rintro e w6 ⟨rfl, hb6, hbe6⟩
          have hnt := newtake_any _ hb6
          unfold Ms.val at hnt
          go_wp2_with fail
          refine hnt.mono ?_
          rintro e w7 ⟨rfl, hT7⟩
          have hp7 := HP.out.quiet (newtake_below hbe6 hT7)
          have HQ := Lib.hid (hp7.alloc (.cells Ms.zero.cells.toArray 23)).below
          clear hnt hT7 hb6 hbe6 hp7 q7
          go_wp2_with fail
          go_ret
          exact ⟨rfl, HQ.out⟩
        · have e3 : decide ((1024 : Int) < (s.data.size : Int)) = false := by simp; omega
          have hsd := hp.send hg.1 s hsf
          have hg2 := hg.send hsf
          have q0 := hc 0 _ rfl
          rw [Nat.add_zero] at q0
          have q1 := hc 1 _ rfl
          have q2 := hc 2 _ rfl
          have q3 := hc 3 _ rfl
          have q4 := hc 4 _ rfl
          have q5 := hc 5 _ rfl
          have q6 := hc 6 _ rfl
          by_cases hok : sendE L s = 0
          · have hln : (sendS L s).length = L.length + 1 := by
              unfold sendE at hok; unfold sendS
              split at hok
              · split at hok
                · rename_i h1 h2; rw [if_pos ⟨h1, h2⟩]; simp
                · omega
              · contradiction
            rw [hok] at hsd
            have Hln := Lib.hid hln
            unfold Ms.val at hsd
            clear hc hs hp hg hsf hok hln
            go_wp2_with fail
            refine hsd.mono ?_
            rintro e w2 ⟨rfl, hp2⟩
            have HP := Lib.hid hp2
            clear hsd hp2 q0 q1 q2 q3 q4 q5 q6 q7
            go_wp2_with fail
            go_roundw
            case rel => exact ⟨k + 1, _, by omega, by go_num, by rw [Hln.out]; go_num, by rw [Hln.out]; omega, HP.out, hg2⟩
            case measure => simp [intOf]; omega
          · have hln : sendS L s = L := by
              unfold sendE at hok; unfold sendS
              rw [if_neg]
              rintro ⟨h1, h2⟩
              rw [if_pos h1, if_pos h2] at hok
              exact hok rfl
            rw [hln] at hsd
            have eok : (sendE L s == 0) = false := by simpa using hok
            generalize sendE L s = ee at hsd eok
            have hg' := hg
            unfold Ms.val at hsd
            clear hc hs hp hg hsf hok hln hg2
            go_wp2_with fail
            refine hsd.mono ?_
            rintro e w2 ⟨rfl, hp2⟩
            have HP := Lib.hid hp2
            clear hsd hp2 q0 q1 q2 q3 q4 q5 q6 q7
            go_wp2_with fail
            go_roundw
            case rel => exact ⟨k + 1, L, by omega, by go_num, rfl, by omega, HP.out, hg'⟩
            case measure => simp [intOf]; omega
      · have hg' := hg
        have HP := Lib.hid hp
        clear hp hg
        go_wp2_with fail
        refine (bnew_any (w := wr)).mono ?_
        rintro e w6 ⟨rfl, hb6, hbe6⟩
        have hnt := newtake_any _ hb6
        unfold Ms.val at hnt
        go_wp2_with fail
        refine hnt.mono ?_
        rintro e w7 ⟨rfl, hT7⟩
        have hp7 := (HP.out.quiet (newtake_below hbe6 hT7)).alloc (.cells Ms.zero.cells.toArray 23)
        clear HP hnt hT7 hb6 hbe6
        by_cases hz : L.length = 0
        · have e4 : ((L.length : Int) == 0) = true := beq_iff_eq.2 (by omega)
          have HQ := Lib.hid hp7.below
          clear hz hp7
          go_wp2_with fail
          go_ret
          exact ⟨rfl, HQ.out⟩
        · have e4 : ((L.length : Int) == 0) = false := beq_eq_false_iff_ne.2 (by omega)
          have hls := hp7.list (Nat.le_trans hg'.1 (by omega))
          have HP := Lib.hid hp7
          clear hp7
          go_wp2_with fail
          refine hls.mono ?_
          rintro e w8 ⟨v8, rfl, ho8, hp8, hb8⟩
          obtain ⟨a8, cap8, rfl⟩ := row_len ho8
          have hkl : at_ % L.length < L.length := Nat.mod_lt _ (by omega)
          have hmod : ((at_ : Int) % (L.length : Int)) = ((at_ % L.length : Nat) : Int) := by simp
          generalize at_ % L.length = kk at hkl hmod
          have hLe : 0 < L.length := by omega
          obtain ⟨m, x, L4, hmk, hx, t1, t2, t3, t4, t5, t6, t7, t8, t9⟩ := twice_end L (by omega) kk hkl
          have hLp : (0 : Int) < (L.length : Int) := by omega
          obtain ⟨g8, cap8', hv8, -, hc8⟩ := row_at ho8 hmk
          simp only [Value.slice.injEq, true_and] at hv8
          obtain ⟨rfl, rfl⟩ := hv8
          have c0 := hc8 0 _ rfl
          rw [Nat.add_zero] at c0
          have c1 := hc8 1 _ rfl
          have c2 := hc8 2 _ rfl
          have c3 := hc8 3 _ rfl
          have c4 := hc8 4 _ rfl
          have c5 := hc8 5 _ rfl
          have c6 := hc8 6 _ rfl
          have c7 := hc8 7 _ rfl
          have Ho8 := Lib.hid ho8
          have hs8 := hb8.size
          have hq := HP.out.more (K' := fun k => (Value.slice (some ⟨g8, 0, none⟩) L.length cap8).ownBlock = some k ∨ k = w8.heap.size) (w' := w8.alloc (.cells m.cells.toArray 23)) (hb8.trans ((Below.refl _ _).alloc (Nat.le_refl _) _ |>.mono hs8)) (fun k hk => by
            rcases hk with h | h
            · have := ho8.lt k h
              exact ⟨by simp; omega, .inr this.1⟩
            · subst h; exact ⟨by simp, .inr hs8⟩)
          have hr8 : ∀ w' L', B1 ⟨w.heap.size, w, fun k => (Value.slice (some ⟨g8, 0, none⟩) L.length cap8).ownBlock = some k ∨ k = w8.heap.size, w8.alloc (.cells m.cells.toArray 23)⟩ w' w.heap.size L' →
              w'.ownsRow (w7.alloc (.cells Ms.zero.cells.toArray 23)).heap.size 23 8 (.slice (some ⟨g8, 0, none⟩) L.length cap8) L.length (mrows L) ∧ Boxed w' w8.heap.size m := fun w' L' h =>
            ⟨h.row (ho8.alloc _) fun k hk => .inl hk, (Boxed.made w8 m 23).keep (h.kept (.inr rfl)) (by obtain ⟨_, _, _, h4⟩ := h; have := (h4.2 w8.heap.size (.inr rfl)).1; simp; omega)⟩
          generalize (fun k => (Value.slice (some ⟨g8, 0, none⟩) L.length cap8).ownBlock = some k ∨ k = w8.heap.size) = K' at hq hr8
          have hqf : ∃ wk, wk = w8.alloc (.cells m.cells.toArray 23) := ⟨_, rfl⟩
          obtain ⟨wk, hwk⟩ := hqf
          have htw : Calls Try.prog 13 #[.pointer (some ⟨w.heap.size, 0, none⟩), .int .i64 (kk : Int)] (w8.alloc (.cells m.cells.toArray 23)) fun e w' => e = .returned (.int .i64 0) ∧ B1 ⟨w.heap.size, w, K', wk⟩ w' w.heap.size (twiceL L kk) := by
            have := hq.twice hg'.1 kk
            rw [t1, ← hwk] at this
            rw [← hwk]; exact this
          rw [← hwk] at hr8
          have hgt := hg'.twice (kk : Int)
          generalize twiceL L (kk : Int) = L2 at htw hgt t2 t3 t4 t5 t6 t7
          have hla : ∀ w', B1 ⟨w.heap.size, w, K', wk⟩ w' w.heap.size L2 → Calls Try.prog 20 #[.pointer (some ⟨w.heap.size, 0, none⟩), .int .i64 0] w' fun e w' => e = .returned (.int .i64 0) ∧ B1 ⟨w.heap.size, w, K', wk⟩ w' w.heap.size (lateL L2 0) := fun w' h => by
            have := h.late hgt.1 0
            rw [t3] at this
            exact this
          have hgl := hgt.late 0
          generalize lateL L2 0 = L3 at hla hgl t5 t6 t7
          have htk : ∀ w', B1 ⟨w.heap.size, w, K', wk⟩ w' w.heap.size L3 → Calls Try.prog 14 #[.pointer (some ⟨w.heap.size, 0, none⟩), .int .i64 (L.length : Int)] w' fun e w' => e = .returned (.tuple #[x.val, .int .i64 0]) ∧ B1 ⟨w.heap.size, w, K', wk⟩ w' w.heap.size L4 := fun w' h => by
            have := h.take hgl.1 (L.length : Int)
            rw [t5, t6, t7] at this
            exact this
          unfold Ms.val at htk
          have Hla := Lib.hid hla
          have Htk := Lib.hid htk
          have Hr8 := Lib.hid hr8
          have Hx := Lib.hid hx
          have T8 := Lib.hid t8
          have T9 := Lib.hid t9
          clear hls ho8 hp8 hb8 t1 t2 t3 t4 t5 t6 t7 t8 t9 hmk hx hc8 hla htk hr8 hwk hq HP Ho8
          go_wp2_with fail
          refine htw.mono ?_
          rintro e w9 ⟨rfl, hp9⟩
          have hl9 := Hla.out _ hp9
          clear htw hp9 c0 c1 c2 c3 c4 c5 c6 c7
          go_wp2_with fail
          refine hl9.mono ?_
          rintro e w10 ⟨rfl, hp10⟩
          have hl10 := Htk.out _ hp10
          clear hl9 hp10
          go_wp2_with fail
          refine hl10.mono ?_
          rintro e w11 ⟨rfl, hp11⟩
          obtain ⟨r8, bx8⟩ := Hr8.out _ _ hp11
          clear hl10
          go_wp2_with fail
          have hp12 := hp11.alloc (.cells x.cells.toArray 23)
          have bx11 := Boxed.made w11 x 23
          have hlt11 : w8.heap.size < w11.heap.size := bx8.1
          have hunf : (.cells x.cells.toArray 23 : Obj) = .cells #[.int .i64 x.kind, .int .i64 x.src, .int .i64 x.dst, .int .i64 x.epoch, .int .i64 x.seq, .int .i64 x.off, .int .i64 x.len, .string x.data] 23 := rfl
          rw [hunf] at hp12 bx11
          generalize w11.alloc (.cells #[.int .i64 x.kind, .int .i64 x.src, .int .i64 x.dst, .int .i64 x.epoch, .int .i64 x.seq, .int .i64 x.off, .int .i64 x.len, .string x.data] 23) = X at hp12 bx11 ⊢
          generalize w11.heap.size = u at bx11 hlt11 ⊢
          obtain ⟨r12, bx12⟩ := Hr8.out _ _ hp12
          obtain ⟨g8', cap9, hv9, -, hc9⟩ := row_at r12 Hx.out
          simp only [Value.slice.injEq, Option.some.injEq, Addr.mk.injEq, and_true, true_and] at hv9
          obtain ⟨rfl, rfl⟩ := hv9
          have d0 := hc9 0 _ rfl
          have d1 := hc9 1 _ rfl
          have d2 := hc9 2 _ rfl
          have d3 := hc9 3 _ rfl
          have d4 := hc9 4 _ rfl
          have d5 := hc9 5 _ rfl
          have d6 := hc9 6 _ rfl
          have d7 := hc9 7 _ rfl
          simp only [Nat.zero_mul, Nat.zero_add] at d0 d1 d2 d3 d4 d5 d6 d7
          obtain ⟨y0, y1, y2, y3, y4, y5, y6, y7⟩ := bx11.all
          have HB8 := Lib.hid bx8
          have HX := Lib.hid hp12
          have HBX := Lib.hid bx11
          clear hc9 r8 bx8 hp11 r12 bx12 hunf bx11 hp12
          go_quiet (fail)
          have hlt12 : u < X.heap.size := HBX.out.1
          have hY : ∀ W, Below (X.drewN nq).heap.size (X.drewN nq) W → Boxed W u x ∧ Boxed W w8.heap.size m ∧ W.ownsRow (w7.alloc (.cells Ms.zero.cells.toArray 23)).heap.size 23 8 (.slice (some ⟨g8, 0, none⟩) L.length cap8) L.length (mrows L) ∧ B1 ⟨w.heap.size, w, K', wk⟩ W w.heap.size L4 := fun W hb => by
            have hp := (HX.out.drewN nq).quiet hb
            obtain ⟨h1, h2⟩ := Hr8.out _ _ hp
            exact ⟨(HBX.out.keep rfl (Nat.le_refl _) : Boxed (X.drewN nq) u x).below hb, h2, h1, hp⟩
          generalize X.drewN nq = Y at hY ⊢
          generalize hum : w8.heap.size = um at hY ⊢
          have hS : ∀ w', Below Y.heap.size Y w' → (w'.cell? ⟨um, 0, none⟩ = some (.int .i64 m.kind) ∧ w'.cell? ⟨um, 1, none⟩ = some (.int .i64 m.src) ∧ w'.cell? ⟨um, 2, none⟩ = some (.int .i64 m.dst) ∧ w'.cell? ⟨um, 3, none⟩ = some (.int .i64 m.epoch) ∧ w'.cell? ⟨um, 4, none⟩ = some (.int .i64 m.seq) ∧ w'.cell? ⟨um, 5, none⟩ = some (.int .i64 m.off) ∧ w'.cell? ⟨um, 6, none⟩ = some (.int .i64 m.len) ∧ w'.cell? ⟨um, 7, none⟩ = some (.string m.data) ∧ w'.cell? ⟨u, 0, none⟩ = some (.int .i64 x.kind) ∧ w'.cell? ⟨u, 1, none⟩ = some (.int .i64 x.src) ∧ w'.cell? ⟨u, 2, none⟩ = some (.int .i64 x.dst) ∧ w'.cell? ⟨u, 3, none⟩ = some (.int .i64 x.epoch) ∧ w'.cell? ⟨u, 4, none⟩ = some (.int .i64 x.seq) ∧ w'.cell? ⟨u, 5, none⟩ = some (.int .i64 x.off) ∧ w'.cell? ⟨u, 6, none⟩ = some (.int .i64 x.len) ∧ w'.cell? ⟨u, 7, none⟩ = some (.string x.data)) := fun w' hb => by
            obtain ⟨h1, h2, -, -⟩ := hY w' hb
            obtain ⟨x0, x1, x2, x3, x4, x5, x6, x7⟩ := h1.all
            obtain ⟨m0, m1, m2, m3, m4, m5, m6, m7⟩ := h2.all
            exact ⟨m0, m1, m2, m3, m4, m5, m6, m7, x0, x1, x2, x3, x4, x5, x6, x7⟩
          have HY := Lib.hid hY
          have HS := Lib.hid hS
          have hz0 := hS Y.drew (Below.refl _ _).drew
          have hL4 : L4.length ≤ 1000 := by rw [T8.out]; omega
          have hL1 : L.length ≤ 1000 := by omega
          clear d0 d1 d2 d3 d4 d5 d6 d7 y0 y1 y2 y3 y4 y5 y6 y7 hY hS HX HBX HB8 Hr8 Htk Hla hlt11 hlt12 hum hgt hgl
          go_wp2_with fail
          have hLst : ∀ W, Below Y.heap.size Y W → Calls Try.prog 12 #[.pointer (some ⟨w.heap.size, 0, none⟩)] W fun e w' => ∃ v', e = .returned v' ∧ RowM w' v' L4 ∧ Below Y.heap.size Y w' ∧ KeepsM W w' := fun W hW =>
            ((HY.out W hW).2.2.2.list hL4).mono fun e w' ⟨v', h1, h2, h3, h4⟩ => ⟨v', h1, ownsRow_base h2 fun k hk => Nat.zero_le _, hW.trans (h4.mono hW.size), KeepsM.of h4⟩
          have hCnt : ∀ W v l', Below Y.heap.size Y W → RowM W v l' → l'.length ≤ 1000 → Calls Try.prog 21 #[v, m.val] W fun e w' => e = .returned (.int .i64 (cnt m l' : Int)) ∧ Below Y.heap.size Y w' ∧ KeepsM W w' := fun W v l' hW hr hl =>
            (count_any hr hl m).mono fun e w' ⟨h1, h4⟩ => ⟨h1, hW.trans (h4.mono hW.size), KeepsM.of h4⟩
          have hAll : ∀ W, Below Y.heap.size Y W → RowM W (.slice (some ⟨g8, 0, none⟩) L.length cap8) L := fun W hW => ownsRow_base (HY.out W hW).2.2.1 fun k hk => Nat.zero_le _
          have hOne : ∀ W : World, RowM (W.alloc (.cells x.cells.toArray 23)) (.slice (some ⟨W.heap.size, 0, none⟩) 1 1) [x] := fun W => RowM.one W x
          unfold Ms.val at hCnt
          have hfin : ((cnt m L4 : Int) == IntKind.i64.wrap (IntKind.i64.wrap ((cnt m L : Int) + 1) - (cnt m [x] : Int))) = true := by
            exact fin_cnt (Nat.le_trans (cnt_le m L) hL1) (cnt_le m [x]) T9.out
          have HLst := Lib.hid hLst
          have HCnt := Lib.hid hCnt
          have HAll := Lib.hid hAll
          have HOne := Lib.hid hOne
          have g : Below Y.heap.size Y Y := Below.refl _ _
          clear hLst hCnt hAll hOne
          go_region_held3 (fun w' => w'.cell? ⟨um, 0, none⟩ = some (.int .i64 m.kind) ∧ w'.cell? ⟨um, 1, none⟩ = some (.int .i64 m.src) ∧ w'.cell? ⟨um, 2, none⟩ = some (.int .i64 m.dst) ∧ w'.cell? ⟨um, 3, none⟩ = some (.int .i64 m.epoch) ∧ w'.cell? ⟨um, 4, none⟩ = some (.int .i64 m.seq) ∧ w'.cell? ⟨um, 5, none⟩ = some (.int .i64 m.off) ∧ w'.cell? ⟨um, 6, none⟩ = some (.int .i64 m.len) ∧ w'.cell? ⟨um, 7, none⟩ = some (.string m.data) ∧ w'.cell? ⟨u, 0, none⟩ = some (.int .i64 x.kind) ∧ w'.cell? ⟨u, 1, none⟩ = some (.int .i64 x.src) ∧ w'.cell? ⟨u, 2, none⟩ = some (.int .i64 x.dst) ∧ w'.cell? ⟨u, 3, none⟩ = some (.int .i64 x.epoch) ∧ w'.cell? ⟨u, 4, none⟩ = some (.int .i64 x.seq) ∧ w'.cell? ⟨u, 5, none⟩ = some (.int .i64 x.off) ∧ w'.cell? ⟨u, 6, none⟩ = some (.int .i64 x.len) ∧ w'.cell? ⟨u, 7, none⟩ = some (.string x.data)) (first | exact hz0 | exact HS.out _ (by first | exact g | exact g.drew | exact g.alloc g.size _ | exact (g.alloc g.size _).drew | exact g.drew.alloc g.drew.size _))
            ((first
              | (go_at_call 12
                 refine (HLst.out _ ?_).mono ?_
                 · first | exact g | exact g.drew | exact g.alloc g.size _ | exact (g.alloc g.size _).drew | exact g.drew.alloc g.drew.size _
                 rintro e wA ⟨vA, rfl, rA, g, kp⟩
                 try have rS := kp _ _ (HOne.out _))
              | (go_at_call 21
                 refine (HCnt.out _ _ L4 ?_ ?_ hL4).mono ?_
                 · first | exact g | exact g.drew | exact g.alloc g.size _ | exact (g.alloc g.size _).drew | exact g.drew.alloc g.drew.size _
                 · first | exact rA | exact rA.alloc _
                 rintro e wB ⟨rfl, g, kp⟩
                 try have rS := kp _ _ (by first | exact rS | exact HOne.out _))
              | (go_at_call 21
                 refine (HCnt.out _ _ L ?_ ?_ hL1).mono ?_
                 · first | exact g | exact g.drew | exact g.alloc g.size _ | exact (g.alloc g.size _).drew | exact g.drew.alloc g.drew.size _
                 · exact HAll.out _ (by first | exact g | exact g.drew | exact g.alloc g.size _ | exact (g.alloc g.size _).drew | exact g.drew.alloc g.drew.size _)
                 rintro e wC ⟨rfl, g, kp⟩
                 try have rS := kp _ _ (by first | exact rS | exact HOne.out _))
              | (go_at_call 21
                 refine (HCnt.out _ _ [x] ?_ ?_ (by simp)).mono ?_
                 · first | exact g | exact g.drew | exact g.alloc g.size _ | exact (g.alloc g.size _).drew | exact g.drew.alloc g.drew.size _
                 · first | exact rS | exact HOne.out _
                 rintro e wD ⟨rfl, g, kp⟩)))
          all_goals
            have HQ := Lib.hid (HY.out _ g).2.2.2.below
            clear hfin
            go_wp2_with fail
            go_ret
            exact ⟨rfl, HQ.out⟩
end Go.Proofs.Ytibpkdaiaoccjaa
