/- Lemmas of the proof of TopAgrees, in one text: the parts Ra, Rb, Rc, Rd, Re. Each part's own comment says what it shows. No condition but those that each lemma names. -/
import Derived.Test.YtfjfkmoofmncnaaDoorSpD
import Derived.Test.YtfjfkmoofmncnaaDoorMc
import Derived.Deep.DeepCutAuto
import Derived.Deep.CutRange
import Derived.BigRegion
/- The reference's table: Client, Blocks, Meet, mode. -/
namespace Go.Proofs.YtfjfkmoofmncnaaDoor
open Go.RowKit
/-- The reference's table in memory: a slice of holds. -/
structure IsRT (w : World) (b : Nat) (v : Value) (L : List Hd) : Prop where
  c0 : w.cell? ⟨b, 0, none⟩ = some v
  fro : ∀ o, w.frozen? ⟨b, o, none⟩ = false
  row : w.ownsRow 0 57 4 v L.length (hrows L)
  ne : v.ownBlock ≠ some b
def hitB (c k : Nat) (h : Hd) : Bool := decide (h.c = c) && (decide (h.a ≤ k) && decide (k < h.b))
def modeL (L : List Hd) (c k : Nat) : Nat := match L.find? (hitB c k) with
  | some h => h.m
  | none => 0
section
variable {w w' : World} {b : Nat} {v : Value} {L : List Hd}
theorem IsRT.lt (h : IsRT w b v L) : b < w.heap.size := World.block_lt_of_cell? w _ h.c0
theorem IsRT.keep (h : IsRT w b v L) (hk : ∀ k, k = b ∨ v.ownBlock = some k → w'.heap[k]? = w.heap[k]?) : IsRT w' b v L :=
  ⟨(World.cell?_of_block (a := ⟨b, 0, none⟩) (hk b (.inl rfl))).trans h.c0, fun o => (World.frozen?_of_block (a := ⟨b, o, none⟩) (hk b (.inl rfl))).trans (h.fro o), ownsRow_keep h.row fun k hv => hk k (.inr hv), h.ne⟩
theorem IsRT.below (h : IsRT w b v L) (hb : Below w.heap.size w w') : IsRT w' b v L := h.keep fun k hk => hb.block k (by rcases hk with rfl | hk; exact h.lt; exact (h.row.lt k hk).2)
set_option maxRecDepth 100000 in
theorem rclient_any (c : Nat) : Calls Tryd.prog 58 #[.int .i64 (c : Int)] w fun e w' => e = .returned (.bool (decide (c < 8))) ∧ w = w' := by
  have e1 : decide ((0 : Int) ≤ (c : Int)) = true := by simp
  have e2 : decide ((c : Int) < 8) = decide (c < 8) := by
    by_cases h : c < 8
    · rw [decide_eq_true h, decide_eq_true]; omega
    · rw [decide_eq_false h, decide_eq_false]; omega
  go_enter Tryd.func58, Tryd.ntmps58
  go_wp2_with fail
  go_ret
  exact ⟨by first | rfl | simp, rfl⟩
set_option maxRecDepth 100000 in
theorem rblocks_any (a z : Nat) : Calls Tryd.prog 76 #[rng a z] w fun e w' => e = .returned (.bool (decide (a < z ∧ z ≤ 256))) ∧ Below w.heap.size w w' := by
  have e1 : decide ((0 : Int) ≤ (a : Int)) = true := by simp
  have hb : Below w.heap.size w (w.alloc (.cells #[.int .i64 (a : Int), .int .i64 (z : Int)] 34)) := (Below.refl _ _).alloc (Nat.le_refl _) _
  have HB := Lib.hid hb
  clear hb
  unfold rng
  by_cases h1 : a < z
  · have e2 : decide ((a : Int) < (z : Int)) = true := by simp; omega
    by_cases h2 : z ≤ 256
    · have e3 : decide ((z : Int) ≤ 256) = true := by simp; omega
      rw [decide_eq_true ⟨h1, h2⟩]
      go_enter Tryd.func76, Tryd.ntmps76
      go_wp2_with fail
      go_ret
      exact ⟨rfl, HB.out⟩
    · have e3 : decide ((z : Int) ≤ 256) = false := by simp; omega
      rw [decide_eq_false (fun e => h2 e.2)]
      go_enter Tryd.func76, Tryd.ntmps76
      go_wp2_with fail
      go_ret
      exact ⟨rfl, HB.out⟩
  · have e2 : decide ((a : Int) < (z : Int)) = false := by simp; omega
    rw [decide_eq_false (fun e => h1 e.1)]
    go_enter Tryd.func76, Tryd.ntmps76
    go_wp2_with fail
    go_ret
    exact ⟨rfl, HB.out⟩
set_option maxRecDepth 100000 in
set_option maxHeartbeats 4000000 in
theorem mode_any (h : IsRT w b v L) (hl : L.length ≤ 1000000) (c k : Nat) : Calls Tryd.prog 87 #[.pointer (some ⟨b, 0, none⟩), .int .i64 (c : Int), .int .i64 (k : Int)] w fun e w' => e = .returned (.int .i64 (modeL L c k : Int)) ∧ Below w.heap.size w w' := by
  obtain ⟨va, vc, rfl⟩ := row_lens h.row
  have H := Lib.hid h
  clear h
  go_enter Tryd.func87, Tryd.ntmps87
  go_wp2_with fail
  go_loopw [7, 8] (fun i _ wr => ∃ j : Nat, j ≤ L.length ∧ i = .int .i64 (j : Int) ∧ Below w.heap.size w wr ∧ ∀ q x, q < j → L[q]? = some x → hitB c k x = false) (fun i _ _ => L.length - (intOf i).toNat)
  case atStart => exact ⟨0, Nat.zero_le _, rfl, Below.refl _ _, fun q x hq => by omega⟩
  case round =>
    obtain ⟨j, hj, rfl, hb, hno⟩ := hrel
    have hT := H.out.below hb
    have c0 := hT.c0
    by_cases hlt : j < L.length
    · obtain ⟨x, hx⟩ : ∃ x, L[j]? = some x := ⟨_, List.getElem?_eq_getElem hlt⟩
      have e0 : decide ((j : Int) < (L.length : Int)) = true := by simpa using hlt
      obtain ⟨g, cap', ev, hc⟩ := hrowcell hT.row hx
      injection ev with ev1 ev2 ev3
      subst ev1
      have d0 := hc 0 _ rfl
      have d1 := hc 1 _ rfl
      have d2 := hc 2 _ rfl
      have d3 := hc 3 _ rfl
      rw [Nat.add_zero] at d0
      have HBA := Lib.hid (hb.trans (((Below.refl wr.heap.size wr).alloc (Nat.le_refl _) (.cells #[.int .i64 (x.a : Int), .int .i64 (x.b : Int), .int .i64 (x.c : Int), .int .i64 (x.m : Int)] 57)).mono hb.size))
      have HNO := Lib.hid hno
      have HXj := Lib.hid hx
      clear hT hb hc ev2 ev3 hno hx
      cases hit : hitB c k x with
      | true =>
        have hm : modeL L c k = x.m := by
          unfold modeL
          have hfd : L.find? (hitB c k) = some x := (List.find?_eq_some_iff_getElem.2 ⟨hit, j, hlt, by have := HXj.out; rw [List.getElem?_eq_getElem hlt] at this; exact Option.some.inj this, fun q hq => by have := HNO.out q (L[q]'(by omega)) hq (List.getElem?_eq_getElem _); simpa using this⟩)
          rw [hfd]
        have HMD := Lib.hid hm
        unfold hitB at hit
        simp only [Bool.and_eq_true, decide_eq_true_eq] at hit
        obtain ⟨h1, h2, h3⟩ := hit
        have e1 : ((x.c : Int) == (c : Int)) = true := by simp; omega
        have e2 : decide ((x.a : Int) ≤ (k : Int)) = true := by simp; omega
        have e3 : decide ((k : Int) < (x.b : Int)) = true := by simp; omega
        clear h1 hm
        go_wp2_with fail
        go_ret
        rw [HMD.out]
        exact ⟨rfl, HBA.out⟩
      | false =>
        have hno2 : ∀ q y, q < j + 1 → L[q]? = some y → hitB c k y = false := fun q y hq hy => by
          by_cases e : q = j
          · subst e; rw [HXj.out] at hy; cases hy; exact hit
          · exact HNO.out q y (by omega) hy
        have HNO2 := Lib.hid hno2
        have hcs : ((x.c : Int) == (c : Int)) = false ∨ (((x.c : Int) == (c : Int)) = true ∧ ¬ x.a ≤ k) ∨ (((x.c : Int) == (c : Int)) = true ∧ x.a ≤ k ∧ ¬ k < x.b) := by
          unfold hitB at hit
          by_cases q1 : x.c = c
          · by_cases q2 : x.a ≤ k
            · right; right
              refine ⟨by simp [q1], q2, ?_⟩
              simp [q1, q2] at hit
              omega
            · right; left; exact ⟨by simp [q1], q2⟩
          · left; simp; omega
        clear hno2 hit HNO
        rcases hcs with e1 | ⟨e1, e2⟩ | ⟨e1, e2, e3⟩
        all_goals
          go_wp2_with fail
          go_roundw
          case rel => exact ⟨j + 1, by omega, by go_num, HBA.out, HNO2.out⟩
          case measure => simp [intOf]; omega
    · have ej : j = L.length := by omega
      have e0 : decide ((j : Int) < (L.length : Int)) = false := by simp; omega
      have hm : modeL L c k = 0 := by
        unfold modeL
        rw [List.find?_eq_none.2 fun x hx => by
          obtain ⟨q, hq⟩ := List.mem_iff_getElem?.1 hx
          rw [hno q x (by have := (List.getElem?_eq_some_iff.1 hq).1; omega) hq]
          decide]
      have HMD := Lib.hid hm
      have HB := Lib.hid hb
      clear hT hb hm hno
      go_wp2_with fail
      go_ret
      rw [HMD.out]
      exact ⟨rfl, HB.out⟩
end
end Go.Proofs.YtfjfkmoofmncnaaDoor
/- The reference's table, in plain Lean: what mode finds; what set builds. -/
namespace Go.Proofs.YtfjfkmoofmncnaaDoor
open Go.RowKit
theorem mem_holds {R : Nat → Nat → Nat} {h : Hd} (hm : h ∈ holdsOf R) : h.c < 8 ∧ RunOk (R h.c) 0 256 ⟨h.a, h.b, h.m⟩ := by
  unfold holdsOf someOf at hm
  obtain ⟨c, hc, h1⟩ := List.mem_flatMap.1 hm
  unfold someRow at h1
  obtain ⟨r, hr, rfl⟩ := List.mem_map.1 h1
  exact ⟨List.mem_range.1 hc, runsTo_mem (List.mem_filter.1 hr).1⟩
theorem holds_mem {R : Nat → Nat → Nat} {c : Nat} (hc : c < 8) {r : Run} (hr : r ∈ runsTo (R c) 0 256) : (⟨r.a, r.b, c, r.m⟩ : Hd) ∈ holdsOf R := by
  unfold holdsOf someOf
  refine List.mem_flatMap.2 ⟨c, List.mem_range.2 hc, ?_⟩
  unfold someRow
  exact List.mem_map.2 ⟨r, List.mem_filter.2 ⟨hr, rfl⟩, rfl⟩
theorem mode_holds (R : Nat → Nat → Nat) {c k : Nat} (hc : c < 8) (hk : k < 256) : modeL (holdsOf R) c k = R c k := by
  unfold modeL
  cases hf : (holdsOf R).find? (hitB c k) with
  | some h =>
    have h1 := List.mem_of_find?_eq_some hf
    have h2 := List.find?_some hf
    unfold hitB at h2
    simp only [Bool.and_eq_true, decide_eq_true_eq] at h2
    obtain ⟨h3, h4, h5⟩ := h2
    have h6 := (mem_holds h1).2
    rw [h3] at h6
    exact (h6.all k h4 h5).symm
  | none =>
    refine Classical.byContradiction fun hne => ?_
    obtain ⟨r, hr, h1, h2⟩ := runsTo_has (R c) 0 256 k (Nat.zero_le _) hk (fun e => hne e.symm)
    have := List.find?_eq_none.1 hf _ (holds_mem hc hr)
    unfold hitB at this
    simp at this
    omega
def yesP : Nat → Nat → Bool := fun _ _ => true
/-- What set has built before block k of client c. -/
def upto (R : Nat → Nat → Nat) (c k : Nat) : List Hd := someOf R 0 256 yesP c ++ someRow yesP c (runsTo (R c) 0 k)
theorem someRow_yes (c : Nat) (l : List Run) : someRow yesP c l = l.map fun r => ⟨r.a, r.b, c, r.m⟩ := by
  unfold someRow yesP
  rw [List.filter_eq_self.2 fun _ _ => rfl]
theorem upto_at0 (R : Nat → Nat → Nat) (c : Nat) : upto R c 0 = someOf R 0 256 yesP c := by
  unfold upto
  rw [show runsTo (R c) 0 0 = [] from rfl, show someRow yesP c [] = [] from rfl, List.append_nil]
theorem upto_start (R : Nat → Nat → Nat) : upto R 0 0 = [] := by rw [upto_at0]; simp [someOf]
theorem upto_next (R : Nat → Nat → Nat) (c : Nat) : upto R c 256 = upto R (c + 1) 0 := by
  rw [upto_at0, someOf_succ]
  rfl
theorem upto_end (R : Nat → Nat → Nat) : upto R 8 0 = holdsOf R := by
  rw [upto_at0]
  rfl
theorem upto_zero (R : Nat → Nat → Nat) {c k : Nat} (h : R c k = 0) : upto R c (k + 1) = upto R c k := by
  unfold upto
  rw [runsTo_zero (R c) (Nat.zero_le _) h]
theorem upto_new (R : Nat → Nat → Nat) {c k : Nat} (h0 : R c k ≠ 0) (hl : k = 0 ∨ R c (k - 1) ≠ R c k) : upto R c (k + 1) = upto R c k ++ [⟨k, k + 1, c, R c k⟩] := by
  unfold upto
  rw [runsTo_new (R c) (Nat.zero_le _) h0 hl, someRow_yes, someRow_yes]
  simp
theorem upto_more (R : Nat → Nat → Nat) {c k : Nat} (hk : 0 < k) (h0 : R c k ≠ 0) (hl : R c (k - 1) = R c k) : ∃ l x, upto R c k = l ++ [x] ∧ upto R c (k + 1) = l ++ [⟨x.a, k + 1, x.c, x.m⟩] := by
  obtain ⟨l, r, h1, h2⟩ := (runsTo_ok (R c) 0 k).2 hk (by rw [hl]; exact h0)
  refine ⟨someOf R 0 256 yesP c ++ l.map fun r => ⟨r.a, r.b, c, r.m⟩, ⟨r.a, r.b, c, r.m⟩, ?_, ?_⟩
  · unfold upto
    rw [h1, someRow_yes]
    simp
  · unfold upto
    rw [runsTo_more (R c) hk h0 hl, h1, extend_snoc, someRow_yes]
    simp
theorem upto_len (R : Nat → Nat → Nat) (c k : Nat) (hc : c ≤ 8) (hk : k ≤ 256) : (upto R c k).length ≤ 2304 := by
  unfold upto
  rw [List.length_append]
  have h1 := someOf_len R 0 256 yesP c
  have h2 := someRow_len yesP c (runsTo (R c) 0 k)
  have h3 := runsTo_len (R c) 0 k
  omega
/-- What stands against a hold in the reference's table. -/
def metB (x o : Hd) : Bool := decide (o.c ≠ x.c) && (decide (max o.a x.a < min o.b x.b) && (decide (o.m = 2) || decide (x.m = 2)))
theorem met_any (R : Nat → Nat → Nat) (x : Hd) : (holdsOf R).any (metB x) = decide (0 < (someOf R x.a x.b (agP x) 8).length) := by
  rw [Bool.eq_iff_iff, List.any_eq_true, decide_eq_true_eq, List.length_pos_iff_exists_mem]
  constructor
  · rintro ⟨o, ho, hb⟩
    obtain ⟨h1, h2⟩ := mem_holds ho
    unfold metB at hb
    simp only [Bool.and_eq_true, decide_eq_true_eq] at hb
    obtain ⟨b1, b2, b3⟩ := hb
    have hhi : o.b ≤ 256 := h2.hi
    have hk : R o.c (max o.a x.a) = o.m := h2.all _ (by show o.a ≤ _; omega) (by show _ < o.b; omega)
    obtain ⟨r, hr, r1, r2⟩ := runsTo_has (R o.c) x.a (min x.b 256) (max o.a x.a) (by omega) (by omega) (by rw [hk]; exact h2.m)
    have hm : r.m = o.m := by rw [← (runsTo_mem hr).all _ r1 r2, hk]
    refine ⟨⟨r.a, r.b, o.c, r.m⟩, ?_⟩
    unfold someOf
    refine List.mem_flatMap.2 ⟨o.c, List.mem_range.2 h1, ?_⟩
    unfold someRow
    refine List.mem_map.2 ⟨r, List.mem_filter.2 ⟨hr, ?_⟩, rfl⟩
    unfold agP
    rw [hm, decide_eq_true b1]
    simpa using b3
  · rintro ⟨o, ho⟩
    unfold someOf at ho
    obtain ⟨c, hc, h1⟩ := List.mem_flatMap.1 ho
    unfold someRow at h1
    obtain ⟨r, hr, rfl⟩ := List.mem_map.1 h1
    obtain ⟨h2, h3⟩ := List.mem_filter.1 hr
    have hok := runsTo_mem h2
    have hc8 := List.mem_range.1 hc
    have q1 := hok.lo
    have q2 := hok.lt
    have q3 := hok.hi
    have hRr := hok.all r.a (Nat.le_refl _) q2
    obtain ⟨r', hr', g1, g2⟩ := runsTo_has (R c) 0 256 r.a (Nat.zero_le _) (by omega) (by rw [hRr]; exact hok.m)
    have hm : r'.m = r.m := by rw [← (runsTo_mem hr').all _ g1 g2, hRr]
    refine ⟨⟨r'.a, r'.b, c, r'.m⟩, holds_mem hc8 hr', ?_⟩
    unfold agP at h3
    unfold metB
    simp only [Bool.and_eq_true, decide_eq_true_eq] at h3 ⊢
    refine ⟨h3.1, by show max r'.a x.a < min r'.b x.b; omega, ?_⟩
    have := h3.2
    simp only [hm]
    simpa using this
end Go.Proofs.YtfjfkmoofmncnaaDoor
/- The reference's table: set. -/
namespace Go.Proofs.YtfjfkmoofmncnaaDoor
open Go.RowKit
theorem ownsRow_put {w : World} {base : Nat} {e : TypeId} {size g n cap : Nat} {xs : List Value} (h : w.ownsRow base e size (.slice (some ⟨g, 0, none⟩) n cap) n xs) (i : Nat) (u : Value) : (w.setCell ⟨g, i, none⟩ u).ownsRow base e size (.slice (some ⟨g, 0, none⟩) n cap) n (xs.set i u) := by
  obtain ⟨hl, h2⟩ := h
  refine ⟨by rw [List.length_set]; exact hl, .inr ?_⟩
  rcases h2 with ⟨h1, _⟩ | ⟨g', cap', cur, e1, hb, hh, hn, hm, hs, ht⟩
  · cases h1
  · cases e1
    refine ⟨g, cap, cur.setIfInBounds i u, rfl, hb, ?_, hn, hm, by simpa using hs, ?_⟩
    · unfold World.setCell
      rw [Array.getElem?_modify, if_pos rfl, hh]
      simp
    · rw [Array.toList_setIfInBounds, ← ht, List.take_set]
theorem hrows_set_last (l : List Hd) (x : Hd) (k : Nat) : (hrows (l ++ [x])).set (l.length * 4 + 1) (.int .i64 ((k : Nat) : Int)) = hrows (l ++ [⟨x.a, k, x.c, x.m⟩]) := by
  rw [hrows_app, hrows_app, List.set_append_right _ _ (by rw [length_hrows]; omega), length_hrows, show l.length * 4 + 1 - l.length * 4 = 1 by omega]
  simp [hrows, Hd.cells]
/-- The numbers by which set tells: a slice of three. -/
structure ToRow (w : World) (tv : Value) (g : Nat → Nat) (tg : Nat) : Prop where
  v : tv = .slice (some ⟨tg, 0, none⟩) 3 3
  c : ∀ i, i < 3 → w.cell? ⟨tg, i, none⟩ = some (.int .i64 (g i : Int))
section
variable {w w' : World} {b : Nat} {v : Value} {R : Nat → Nat → Nat}
set_option maxRecDepth 100000 in
set_option maxHeartbeats 8000000 in
theorem rset_any (h : IsRT w b v (holdsOf R)) (hR : Small R) (c a z : Nat) (g : Nat → Nat) (hg : ∀ m, m ≤ 2 → g m ≤ 2) {tv : Value} {tg : Nat} (ht : ToRow w tv g tg) :
    Calls Tryd.prog 80 #[.pointer (some ⟨b, 0, none⟩), .int .i64 (c : Int), rng a z, tv] w fun e w' => e = .returned (.tuple #[]) ∧ ∃ v', IsRT w' b v' (holdsOf (setR R c a z g)) ∧ Moves (fun k => k = b) w w' ∧ ∀ k, v'.ownBlock = some k → w.heap.size ≤ k := by
  obtain ⟨rfl, htc⟩ := ht
  obtain ⟨i0, hi0, hz0, hz1, hz2⟩ := info_parts Tryd.infoHold
  have Hi := Lib.hid hi0
  have Hz := Lib.hid hz0
  have Hz1 := Lib.hid hz1
  have Hz2 := Lib.hid hz2
  clear hi0 hz0 hz1 hz2
  have htg : tg < w.heap.size := World.block_lt_of_cell? w _ (htc 0 (by omega))
  have hbl := h.lt
  obtain ⟨W0, hW0⟩ : ∃ W0, W0 = (w.alloc (.cells #[.int .i64 (a : Int), .int .i64 (z : Int)] 34)).alloc (.cells #[] 57) := ⟨_, rfl⟩
  have hb0 : Below w.heap.size w W0 := by rw [hW0]; exact ((Below.refl _ _).alloc (Nat.le_refl _) _).alloc (by simp) _
  have hsz : W0.heap.size = w.heap.size + 1 + 1 := by rw [hW0]; simp
  have hrow0 : W0.ownsRow (w.heap.size + 1) 57 4 (.slice (some ⟨w.heap.size + 1, 0, none⟩) 0 0) 0 [] := by
    have := World.ownsRow_made (base := w.heap.size + 1) (e := 57) (size := 4) (w.alloc (.cells #[.int .i64 (a : Int), .int .i64 (z : Int)] 34)) #[] 0 (by simp) (Nat.zero_le _) rfl
    rw [World.size_alloc] at this
    rw [hW0]
    exact this
  have hbA : Below (w.alloc (.cells #[.int .i64 (a : Int), .int .i64 (z : Int)] 34)).heap.size (w.alloc (.cells #[.int .i64 (a : Int), .int .i64 (z : Int)] 34)) W0 := by rw [hW0]; exact (Below.refl _ _).alloc (Nat.le_refl _) _
  have q0 : W0.cell? ⟨w.heap.size, 0, none⟩ = some (.int .i64 (a : Int)) := by rw [made_cell hbA 0]; rfl
  have q1 : W0.cell? ⟨w.heap.size, 1, none⟩ = some (.int .i64 (z : Int)) := by rw [made_cell hbA 1]; rfl
  have HB0 := Lib.hid hb0
  have HW0 := Lib.hid hW0
  have HSZ := Lib.hid hsz
  have HROW0 := Lib.hid hrow0
  have HQ0 := Lib.hid q0
  have HQ1 := Lib.hid q1
  have HT := Lib.hid h
  have HTC := Lib.hid htc
  have hR' : ∀ i k, i < 8 → k < 256 → setR R c a z g i k ≤ 2 := small_set hR c a z g hg
  have HR' := Lib.hid hR'
  clear hb0 hW0 hsz hrow0 hbA q0 q1 h htc hR'
  unfold rng
  go_enter Tryd.func80, Tryd.ntmps80
  go_wp2_with fail
  rw [← HW0.out]
  go_loopw [8, 9, 10, 11, 12] (fun ov ci _ _ _ wr => ∃ cc : Nat, cc ≤ 8 ∧ ci = .int .i64 (cc : Int) ∧ Moves (fun q => q = w.heap.size + 1) W0 wr ∧ wr.ownsRow (w.heap.size + 1) 57 4 ov (upto (setR R c a z g) cc 0).length (hrows (upto (setR R c a z g) cc 0))) (fun _ ci _ _ _ _ => 8 - (intOf ci).toNat)
  case atStart => exact ⟨0, Nat.zero_le _, rfl, Moves.refl _ _, by rw [upto_start]; exact HROW0.out⟩
  case round =>
    obtain ⟨cc, hcc, rfl, hmv, hrow⟩ := hrel
    by_cases hlt : cc < 8
    · have e0 : decide ((cc : Int) < 8) = true := by simp; omega
      have HMV := Lib.hid hmv
      have HROW := Lib.hid hrow
      clear hmv hrow
      go_wp2_with fail
      go_loopw [8, 10, 11, 12] (fun ov la ki _ wr => ∃ k : Nat, k ≤ 256 ∧ ki = .int .i64 (k : Int) ∧ la = .int .i64 ((if k = 0 then 0 else setR R c a z g cc (k - 1) : Nat) : Int) ∧ Moves (fun q => q = w.heap.size + 1) W0 wr ∧ wr.ownsRow (w.heap.size + 1) 57 4 ov (upto (setR R c a z g) cc k).length (hrows (upto (setR R c a z g) cc k))) (fun _ _ ki _ _ => 256 - (intOf ki).toNat)
      case atStart => exact ⟨0, Nat.zero_le _, rfl, rfl, HMV.out, HROW.out⟩
      case round =>
        obtain ⟨k, hk, rfl, rfl, hmv, hrow⟩ := hrel
        by_cases hlk : k < 256
        · have e1 : decide ((k : Int) < 256) = true := by simp; omega
          have hTr : IsRT wr b v (holdsOf R) := (HT.out.below HB0.out).keep fun q hq => hmv.block q (by rcases hq with rfl | hq; exact Nat.lt_of_lt_of_le HT.out.lt HB0.out.size; exact Nat.lt_of_lt_of_le (HT.out.row.lt q hq).2 HB0.out.size) (fun e => by rcases hq with rfl | hq; have := HT.out.lt; omega; have := (HT.out.row.lt q hq).2; omega)
          have hmode := mode_any hTr (Nat.le_trans (someOf_len R 0 256 _ 8) (by omega)) cc k
          rw [mode_holds R hlt hlk] at hmode
          obtain ⟨la, hla⟩ : ∃ la : Nat, la = (if k = 0 then 0 else setR R c a z g cc (k - 1)) := ⟨_, rfl⟩
          obtain ⟨M, hM⟩ : ∃ M, setR R c a z g cc k = M := ⟨_, rfl⟩
          rw [← hla]
          have HLA := Lib.hid hla
          have HM := Lib.hid hM
          have hm2 : R cc k ≤ 2 := hR cc k hlt hlk
          clear hla hM
          obtain ⟨T, hTT⟩ : ∃ T, T = decide (cc = c ∧ a ≤ k ∧ k < z) := ⟨_, rfl⟩
          have HTT := Lib.hid hTT
          clear hTT
          go_upto_region 10 with (go_at_call 87
                                  refine hmode.mono ?_
                                  clear hmode
                                  rintro e w1 ⟨rfl, hb1⟩
                                  have HMV1 := Lib.hid (hmv.trans (Moves.of_below (F := fun _ => False) hb1) (fun _ h => h.elim))
                                  have HROW1 := Lib.hid (ownsRow_keep hrow fun q hq => hb1.block q (hrow.lt q hq).2)
                                  clear hb1 hmv hrow)
          go_cut [40] from 22 to 40 (fun s40 wx => s40 = .bool T ∧ wx = w1)
          case first =>
            have p0 : w1.cell? ⟨w.heap.size, 0, none⟩ = some (.int .i64 (a : Int)) := (World.cell?_of_block (a := ⟨w.heap.size, 0, none⟩) (HMV1.out.block w.heap.size (by rw [HSZ.out]; omega) (by omega))).trans HQ0.out
            have p1 : w1.cell? ⟨w.heap.size, 1, none⟩ = some (.int .i64 (z : Int)) := (World.cell?_of_block (a := ⟨w.heap.size, 1, none⟩) (HMV1.out.block w.heap.size (by rw [HSZ.out]; omega) (by omega))).trans HQ1.out
            have hcs : (((cc : Int) == (c : Int)) = false ∧ T = false) ∨ (((cc : Int) == (c : Int)) = true ∧ ¬ a ≤ k ∧ T = false) ∨ (((cc : Int) == (c : Int)) = true ∧ a ≤ k ∧ ¬ k < z ∧ T = false) ∨ (((cc : Int) == (c : Int)) = true ∧ a ≤ k ∧ k < z ∧ T = true) := by
              by_cases h1 : cc = c
              · by_cases h2 : a ≤ k
                · by_cases h3 : k < z
                  · right; right; right; exact ⟨by simp [h1], h2, h3, by rw [HTT.out]; simp [h1, h2, h3]⟩
                  · right; right; left; exact ⟨by simp [h1], h2, h3, by rw [HTT.out]; simp [h1, h2, h3]⟩
                · right; left; exact ⟨by simp [h1], h2, by rw [HTT.out]; simp [h1, h2]⟩
              · left; exact ⟨by simp; omega, by rw [HTT.out]; simp [h1]⟩
            rcases hcs with ⟨t1, tt⟩ | ⟨t1, t2, tt⟩ | ⟨t1, t2, t3, tt⟩ | ⟨t1, t2, t3, tt⟩
            all_goals
              have TT := Lib.hid tt
              clear tt
              go_wp2_with fail
              go_meet
              exact ⟨by rw [TT.out], rfl⟩
          case rest =>
            obtain ⟨rfl, rfl⟩ := hcut
            have HMV2 := HMV1
            clear HMV1
            go_upto_if 40 with (fail)
            go_cut [12] from 40 to 45 (fun s12 wx => s12 = .int .i64 (M : Int) ∧ wx = wc)
            case first =>
              cases T with
              | true =>
                have ht := of_decide_eq_true HTT.out.symm
                have tm : g (R cc k) = M := by rw [← HM.out]; unfold setR; rw [if_pos ht]
                have dT : wc.cell? ⟨tg, R cc k, none⟩ = some (.int .i64 (M : Int)) := by
                  rw [← tm]
                  exact (World.cell?_of_block (a := ⟨tg, R cc k, none⟩) ((HMV2.out.block tg (by rw [HSZ.out]; omega) (by omega)).trans (HB0.out.block tg htg))).trans (HTC.out _ (by omega))
                have i1 : (R cc k : Int) < 3 := by omega
                clear ht tm
                go_wp2_with fail
                go_meet
                exact ⟨rfl, rfl⟩
              | false =>
                have ht := of_decide_eq_false HTT.out.symm
                have tm : R cc k = M := by rw [← HM.out]; unfold setR; rw [if_neg ht]
                have TM := Lib.hid tm
                clear ht tm
                go_wp2_with fail
                go_meet
                exact ⟨by rw [TM.out], rfl⟩
            case rest =>
              obtain ⟨rfl, rfl⟩ := hcut
              have hul := upto_len (setR R c a z g) cc k hcc hk
              by_cases hM0 : M = 0
              · have HUP := Lib.hid (upto_zero (setR R c a z g) (c := cc) (k := k) (by rw [HM.out]; exact hM0))
                have e4 : decide ((0 : Int) < (M : Int)) = false := by simp; omega
                have HM0 := Lib.hid hM0
                have e4' : ¬ 0 < M := by omega
                clear hM0 hul
                go_wp2_with fail
                go_roundw
                case rel => exact ⟨k + 1, by omega, by go_num, by rw [if_neg (by omega), show k + 1 - 1 = k from rfl, HM.out, HM0.out], HMV2.out, by rw [HUP.out]; exact HROW1.out⟩
                case measure => simp [intOf]; omega
              · have e4 : 0 < M := by omega
                by_cases hsame : 0 < k ∧ setR R c a z g cc (k - 1) = M
                · have hlm : la = M := by rw [HLA.out, if_neg (by omega)]; exact hsame.2
                  obtain ⟨l, x, hu1, hu2⟩ := upto_more (setR R c a z g) (c := cc) (k := k) hsame.1 (by rw [HM.out]; exact hM0) (by rw [HM.out]; exact hsame.2)
                  have hrow := HROW1.out
                  rw [hu1] at hrow hul
                  have hlen : (l ++ [x]).length = l.length + 1 := by simp
                  rw [hlen] at hrow hul
                  rcases ownsRow_form hrow with ⟨-, h1⟩ | ⟨og, ocap, rfl, hog1, hog2, -, -, hra, hof⟩
                  · have := h1.1; omega
                  have hra1 : wc.cell? ⟨og, l.length * 4 + 1, none⟩ = some (.int .i64 (x.b : Int)) := by
                    have := hra (l.length * 4 + 1) (.int .i64 (x.b : Int)) (by
                      rw [hrows_app, List.getElem?_append_right (by rw [length_hrows]; omega), length_hrows, show l.length * 4 + 1 - l.length * 4 = 1 by omega]
                      rfl)
                    rwa [Nat.zero_add] at this
                  have hof1 := hof (l.length * 4 + 1)
                  have hw1 : wrap64 ((l.length : Int) + 1 - 1) = (l.length : Int) := by unfold wrap64; omega
                  have hw2 : wrap64 (l.length : Int) = (l.length : Int) := by unfold wrap64; omega
                  subst hlm
                  have HU2 := Lib.hid hu2
                  have hset := ownsRow_put hrow (l.length * 4 + 1) (.int .i64 ((k + 1 : Nat) : Int))
                  rw [hrows_set_last] at hset
                  have HSET := Lib.hid hset
                  have HMV6 := Lib.hid (HMV2.out.setCell ⟨og, l.length * 4 + 1, none⟩ (.int .i64 ((k + 1 : Nat) : Int)) (by show og = w.heap.size + 1 ∨ W0.heap.size ≤ og; rw [HSZ.out]; omega))
                  clear hu1 hu2 hlen hra hof hsame hul hM0 hset hog1 hog2 hrow
                  go_wp2_with fail
                  go_roundw
                  case rel => exact ⟨k + 1, by omega, by go_num, by rw [if_neg (by omega), show k + 1 - 1 = k from rfl, HM.out], HMV6.out, by rw [HU2.out, show (l ++ [(⟨x.a, k + 1, x.c, x.m⟩ : Hd)]).length = l.length + 1 by simp]; exact HSET.out⟩
                  case measure => simp [intOf]; omega
                · have HUP := Lib.hid (upto_new (setR R c a z g) (c := cc) (k := k) (by rw [HM.out]; exact hM0) (by rw [HM.out]; by_cases e : k = 0; exact .inl e; exact .inr fun h => hsame ⟨by omega, h⟩))
                  have hne : ¬ M = la := fun e => by
                    rw [HLA.out] at e
                    by_cases h0 : k = 0
                    · rw [if_pos h0] at e; exact hM0 e
                    · rw [if_neg h0] at e; exact hsame ⟨by omega, e.symm⟩
                  have hrow := HROW1.out
                  obtain ⟨oa, oc, rfl⟩ := row_lens hrow
                  have hoA := World.ownsRow.alloc hrow (.cells #[.int .i64 (k : Int), .int .i64 ((k : Int) + 1), .int .i64 (cc : Int), .int .i64 (M : Int)] 57)
                  have hcl : ∀ j u, (Hd.cells ⟨k, k + 1, cc, M⟩)[j]? = some u → (wc.alloc (.cells #[.int .i64 (k : Int), .int .i64 ((k : Int) + 1), .int .i64 (cc : Int), .int .i64 (M : Int)] 57)).cell? ((⟨wc.heap.size, 0, none⟩ : Addr).add j) = some u := fun j u hj => by
                    rw [Addr.add_mid, Nat.zero_add, World.cell?_alloc_new]
                    simpa [Hd.cells] using hj
                  have hbs : w.heap.size + 1 ≤ (wc.alloc (.cells #[.int .i64 (k : Int), .int .i64 ((k : Int) + 1), .int .i64 (cc : Int), .int .i64 (M : Int)] 57)).heap.size := by have h1 := HMV2.out.size; rw [HSZ.out] at h1; rw [World.size_alloc]; omega
                  have HOA := Lib.hid hoA
                  have Hcl := Lib.hid hcl
                  have HBS := Lib.hid hbs
                  have HUL := Lib.hid hul
                  clear hsame hM0 hrow hoA hcl hbs hul
                  go_wp2_with (refine wpList_append_own_at _ rfl (.tmp 68) (.tmp 76) 47 rfl (w.heap.size + 1) 57 i0 _ 4 32 Tryd.underlying47 Hi.out Hz.out Hz1.out Hz2.out rfl (by decide) _ (upto (setR R c a z g) cc k).length (hrows (upto (setR R c a z g) cc k)) rfl HOA.out ⟨wc.heap.size, 0, none⟩ 1 1 (Hd.cells ⟨k, k + 1, cc, M⟩) rfl rfl Hcl.out (one_hcells _) (by have := HUL.out; unfold maxLen; omega) (by have := HUL.out; omega) HBS.out ?_)
                  intro v5 w5 hown5 hgrow _ _
                  have HMV5 := Lib.hid ((HMV2.out.alloc (.cells #[.int .i64 (k : Int), .int .i64 ((k : Int) + 1), .int .i64 (cc : Int), .int .i64 (M : Int)] 57)).grown hgrow (fun q hq => by have h1 := (HROW1.out.lt q hq).1; rw [HSZ.out]; omega))
                  have HROW5 := Lib.hid hown5
                  clear hown5 hgrow
                  go_wp2_with fail
                  go_roundw
                  case rel => exact ⟨k + 1, by omega, by go_num, by rw [if_neg (by omega), show k + 1 - 1 = k from rfl, HM.out], HMV5.out, by rw [HUP.out, HM.out, List.length_append, hrows_app]; simpa [hrows] using HROW5.out⟩
                  case measure => simp [intOf]; omega
        · have ek : k = 256 := by omega
          have e1 : decide ((k : Int) < 256) = false := by simp; omega
          rw [ek, upto_next] at hrow
          have HMV2 := Lib.hid hmv
          have HROW2 := Lib.hid hrow
          clear hmv hrow ek
          go_wp2_with fail
          go_roundw
          case rel => exact ⟨cc + 1, by omega, by go_num, HMV2.out, HROW2.out⟩
          case measure => simp [intOf]; omega
    · have ec : cc = 8 := by omega
      have e0 : decide ((cc : Int) < 8) = false := by simp; omega
      rw [ec, upto_end] at hrow
      obtain ⟨oa, oc, rfl⟩ := row_lens hrow
      have hTr : IsRT wr b v (holdsOf R) := (HT.out.below HB0.out).keep fun q hq => hmv.block q (by rcases hq with rfl | hq; exact Nat.lt_of_lt_of_le HT.out.lt HB0.out.size; exact Nat.lt_of_lt_of_le (HT.out.row.lt q hq).2 HB0.out.size) (fun e => by rcases hq with rfl | hq; have := HT.out.lt; omega; have := (HT.out.row.lt q hq).2; omega)
      have c0 := hTr.c0
      have f0 := hTr.fro 0
      have hge : ∀ q, (Value.slice oa (holdsOf (setR R c a z g)).length oc).ownBlock = some q → w.heap.size + 1 ≤ q := fun q hq => (hrow.lt q hq).1
      have hfin : IsRT (wr.setCell ⟨b, 0, none⟩ (.slice oa (holdsOf (setR R c a z g)).length oc)) b (.slice oa (holdsOf (setR R c a z g)).length oc) (holdsOf (setR R c a z g)) :=
        ⟨World.cell?_setCell_same _ _ _ c0, fun o => by rw [World.frozen?_setCell]; exact hTr.fro o, ownsRow_keep (ownsRow_base hrow fun _ _ => Nat.zero_le _) fun q hq => Below.heap_setCell _ _ _ _ (show q ≠ b from fun e => by have := hge q hq; omega), fun e => by have := hge b e; omega⟩
      have hmf : Moves (fun q => q = b) w (wr.setCell ⟨b, 0, none⟩ (.slice oa (holdsOf (setR R c a z g)).length oc)) := ((Moves.of_below (F := fun q => q = b) HB0.out).trans hmv (fun i hi => .inr (by omega))).setCell ⟨b, 0, none⟩ _ (.inl rfl)
      have HF := Lib.hid hfin
      have HMF := Lib.hid hmf
      have HGE := Lib.hid hge
      clear hTr hfin hmf hge hrow hmv
      go_wp2_with fail
      go_end0
      exact ⟨rfl, _, HF.out, HMF.out, fun q hq => by have := HGE.out q hq; omega⟩
end
end Go.Proofs.YtfjfkmoofmncnaaDoor
/- The reference's table: Meet, Against, Some. -/
namespace Go.Proofs.YtfjfkmoofmncnaaDoor
open Go.RowKit
section
variable {w w' : World} {b : Nat} {v : Value} {L : List Hd}
set_option maxRecDepth 100000 in
set_option maxHeartbeats 2000000 in
theorem meet_any (a z a' z' : Nat) : Calls Tryd.prog 84 #[rng a z, rng a' z'] w fun e w' => e = .returned (rng (max a a') (min z z')) ∧ Below w.heap.size w w' := by
  have hb : ∀ o, Below w.heap.size w (((w.alloc (.cells #[.int .i64 (a : Int), .int .i64 (z : Int)] 34)).alloc (.cells #[.int .i64 (a' : Int), .int .i64 (z' : Int)] 34)).alloc o) := fun o => (((Below.refl _ _).alloc (Nat.le_refl _) _).alloc (by simp) _).alloc (by simp; omega) _
  have HB := Lib.hid hb
  clear hb
  unfold rng
  go_enter Tryd.func84, Tryd.ntmps84
  go_wp2_with fail
  all_goals first
    | (refine bodyPost_ret (v := .agg #[.int .i64 (a' : Int), .int .i64 (z' : Int)]) (by simp [results, Tryd.results84, go_sem]) rfl ?_; exact ⟨by rw [show max a a' = a' by omega, show min z z' = z' by omega], HB.out _⟩)
    | (refine bodyPost_ret (v := .agg #[.int .i64 (a' : Int), .int .i64 (z : Int)]) (by simp [results, Tryd.results84, go_sem]) rfl ?_; exact ⟨by rw [show max a a' = a' by omega, show min z z' = z by omega], HB.out _⟩)
    | (refine bodyPost_ret (v := .agg #[.int .i64 (a : Int), .int .i64 (z' : Int)]) (by simp [results, Tryd.results84, go_sem]) rfl ?_; exact ⟨by rw [show max a a' = a by omega, show min z z' = z' by omega], HB.out _⟩)
    | (refine bodyPost_ret (v := .agg #[.int .i64 (a : Int), .int .i64 (z : Int)]) (by simp [results, Tryd.results84, go_sem]) rfl ?_; exact ⟨by rw [show max a a' = a by omega, show min z z' = z by omega], HB.out _⟩)
/-- A hold's own block. -/
structure HX (w : World) (g : Nat) (h : Hd) : Prop where
  lt : g < w.heap.size
  c0 : w.cell? ⟨g, 0, none⟩ = some (.int .i64 (h.a : Int))
  c1 : w.cell? ⟨g, 1, none⟩ = some (.int .i64 (h.b : Int))
  c2 : w.cell? ⟨g, 2, none⟩ = some (.int .i64 (h.c : Int))
  c3 : w.cell? ⟨g, 3, none⟩ = some (.int .i64 (h.m : Int))
theorem HX.keep {g : Nat} {x : Hd} (h : HX w g x) (hs : w.heap.size ≤ w'.heap.size) (hk : w'.heap[g]? = w.heap[g]?) : HX w' g x :=
  ⟨Nat.lt_of_lt_of_le h.lt hs, (World.cell?_of_block (a := ⟨g, 0, none⟩) hk).trans h.c0, (World.cell?_of_block (a := ⟨g, 1, none⟩) hk).trans h.c1, (World.cell?_of_block (a := ⟨g, 2, none⟩) hk).trans h.c2, (World.cell?_of_block (a := ⟨g, 3, none⟩) hk).trans h.c3⟩
theorem HX.below {g : Nat} {x : Hd} (h : HX w g x) (hb : Below w.heap.size w w') : HX w' g x := h.keep hb.size (hb.block g h.lt)
theorem HX.made (w : World) (x : Hd) (T : TypeId) : HX (w.alloc (.cells #[.int .i64 (x.a : Int), .int .i64 (x.b : Int), .int .i64 (x.c : Int), .int .i64 (x.m : Int)] T)) w.heap.size x :=
  ⟨by simp, by rw [World.cell?_alloc_new]; rfl, by rw [World.cell?_alloc_new]; rfl, by rw [World.cell?_alloc_new]; rfl, by rw [World.cell?_alloc_new]; rfl⟩
/-- A range's own block. -/
structure RX (w : World) (g a z : Nat) : Prop where
  lt : g < w.heap.size
  c0 : w.cell? ⟨g, 0, none⟩ = some (.int .i64 (a : Int))
  c1 : w.cell? ⟨g, 1, none⟩ = some (.int .i64 (z : Int))
theorem RX.keep {g a z : Nat} (h : RX w g a z) (hs : w.heap.size ≤ w'.heap.size) (hk : w'.heap[g]? = w.heap[g]?) : RX w' g a z :=
  ⟨Nat.lt_of_lt_of_le h.lt hs, (World.cell?_of_block (a := ⟨g, 0, none⟩) hk).trans h.c0, (World.cell?_of_block (a := ⟨g, 1, none⟩) hk).trans h.c1⟩
theorem RX.below {g a z : Nat} (h : RX w g a z) (hb : Below w.heap.size w w') : RX w' g a z := h.keep hb.size (hb.block g h.lt)
theorem RX.made (w : World) (a z : Nat) (T : TypeId) : RX (w.alloc (.cells #[.int .i64 (a : Int), .int .i64 (z : Int)] T)) w.heap.size a z :=
  ⟨by simp, by rw [World.cell?_alloc_new]; rfl, by rw [World.cell?_alloc_new]; rfl⟩
theorem any_take {p : Hd → Bool} {L : List Hd} {j n : Nat} {o : Hd} (ho : L[j]? = some o) (h : decide (0 < n) = (L.take j).any p) : decide (0 < (if p o then n + 1 else n)) = (L.take (j + 1)).any p := by
  rw [List.take_add_one, ho, List.any_append, ← h]
  cases hp : p o <;> simp [hp]
set_option maxRecDepth 100000 in
set_option maxHeartbeats 8000000 in
theorem against_ref (h : IsRT w b v L) (hl : L.length ≤ 100000) (x : Hd) : Calls Tryd.prog 79 #[.pointer (some ⟨b, 0, none⟩), x.val] w fun e w' => (∃ v n xs, e = .returned v ∧ w'.ownsRow w.heap.size 57 4 v n xs ∧ decide (0 < n) = L.any (metB x)) ∧ Below w.heap.size w w' := by
  obtain ⟨va, vc, rfl⟩ := row_lens h.row
  obtain ⟨i0, hi0, hz0, hz1, hz2⟩ := info_parts Tryd.infoHold
  have Hi := Lib.hid hi0
  have Hz := Lib.hid hz0
  have Hz1 := Lib.hid hz1
  have Hz2 := Lib.hid hz2
  have H := Lib.hid h
  have hsz : 0 < w.heap.size := Nat.lt_of_le_of_lt (Nat.zero_le _) h.lt
  clear hi0 hz0 hz1 hz2 h
  unfold Hd.val
  go_enter Tryd.func79, Tryd.ntmps79
  go_wp2_with fail
  obtain ⟨W0, hW0⟩ : ∃ W0, W0 = (w.alloc (.cells #[.int .i64 (x.a : Int), .int .i64 (x.b : Int), .int .i64 (x.c : Int), .int .i64 (x.m : Int)] 57)).alloc (.cells #[] 57) := ⟨_, rfl⟩
  rw [← hW0]
  have hb0 : Below w.heap.size w W0 := by rw [hW0]; exact ((Below.refl _ _).alloc (Nat.le_refl _) _).alloc (by simp) _
  have hs0 : W0.heap.size = w.heap.size + 1 + 1 := by rw [hW0]; simp
  have hx0 : HX W0 w.heap.size x := by rw [hW0]; exact (HX.made w x _).below ((Below.refl _ _).alloc (Nat.le_refl _) _)
  have hrow0 : W0.ownsRow (w.heap.size + 1) 57 4 (.slice (some ⟨w.heap.size + 1, 0, none⟩) 0 0) 0 [] := by
    have := World.ownsRow_made (base := w.heap.size + 1) (e := 57) (size := 4) (w.alloc (.cells #[.int .i64 (x.a : Int), .int .i64 (x.b : Int), .int .i64 (x.c : Int), .int .i64 (x.m : Int)] 57)) #[] 0 (by simp) (Nat.zero_le _) rfl
    rw [World.size_alloc] at this
    rw [hW0]
    exact this
  have HB0 := Lib.hid hb0
  have HS0 := Lib.hid hs0
  have HX0 := Lib.hid hx0
  have HR0 := Lib.hid hrow0
  clear hb0 hs0 hx0 hrow0 hW0
  go_loopw [5, 6, 7, 8] (fun ov i _ _ wr => ∃ (j n : Nat) (xs : List Value), j ≤ L.length ∧ i = .int .i64 (j : Int) ∧ n ≤ j ∧ Moves (fun q => q = w.heap.size + 1) W0 wr ∧ wr.ownsRow (w.heap.size + 1) 57 4 ov n xs ∧ decide (0 < n) = (L.take j).any (metB x)) (fun _ i _ _ _ => L.length - (intOf i).toNat)
  case atStart => exact ⟨0, 0, [], Nat.zero_le _, rfl, Nat.le_refl _, Moves.refl _ _, HR0.out, by simp⟩
  case round =>
    obtain ⟨j, n, xs, hj, rfl, hn, hmv, hrow, hany⟩ := hrel
    have hT : IsRT wr b (.slice va L.length vc) L := (H.out.below HB0.out).keep fun q hq => hmv.block q (by rcases hq with rfl | hq; exact Nat.lt_of_lt_of_le H.out.lt HB0.out.size; exact Nat.lt_of_lt_of_le (H.out.row.lt q hq).2 HB0.out.size) (fun e => by rcases hq with rfl | hq; have := H.out.lt; omega; have := (H.out.row.lt q hq).2; omega)
    have c0 := hT.c0
    by_cases hlt : j < L.length
    · obtain ⟨o, ho⟩ : ∃ o, L[j]? = some o := ⟨_, List.getElem?_eq_getElem hlt⟩
      have e0 : decide ((j : Int) < (L.length : Int)) = true := by simpa using hlt
      obtain ⟨g, cap', ev, hc⟩ := hrowcell hT.row ho
      injection ev with ev1 ev2 ev3
      subst ev1
      have d0 := hc 0 _ rfl
      have d1 := hc 1 _ rfl
      have d2 := hc 2 _ rfl
      have d3 := hc 3 _ rfl
      rw [Nat.add_zero] at d0
      have hxw := HX0.out.keep hmv.size (hmv.block _ HX0.out.lt (by omega))
      have hbA : Below wr.heap.size wr (wr.alloc (.cells #[.int .i64 (o.a : Int), .int .i64 (o.b : Int), .int .i64 (o.c : Int), .int .i64 (o.m : Int)] 57)) := (Below.refl _ _).alloc (Nat.le_refl _) _
      have hxa := hxw.below hbA
      have hoa := HX.made wr o 57
      have x0 := hxa.c0
      have x1 := hxa.c1
      have HMV := Lib.hid (hmv.trans (Moves.of_below (F := fun _ => False) hbA) (fun _ h => h.elim))
      have HROW := Lib.hid (ownsRow_keep hrow fun q hq => hbA.block q (hrow.lt q hq).2)
      have HXA := Lib.hid hxa
      have HOA := Lib.hid hoa
      have HANY := Lib.hid (any_take ho hany)
      have hmeet := meet_any (w := wr.alloc (.cells #[.int .i64 (o.a : Int), .int .i64 (o.b : Int), .int .i64 (o.c : Int), .int .i64 (o.m : Int)] 57)) o.a o.b x.a x.b
      clear hT hc ev2 ev3 ho hxw hbA hxa hoa hmv hrow hany
      unfold rng at hmeet
      go_upto_region 7 with (go_at_call 84
                             refine hmeet.mono ?_
                             clear hmeet
                             rintro e w1 ⟨rfl, hb1⟩
                             have hbB : Below w1.heap.size w1 (w1.alloc (.cells #[.int .i64 ((max o.a x.a : Nat) : Int), .int .i64 ((min o.b x.b : Nat) : Int)] 34)) := (Below.refl _ _).alloc (Nat.le_refl _) _
                             have hbC := hb1.trans (hbB.mono hb1.size)
                             have HMV1 := Lib.hid (HMV.out.trans (Moves.of_below (F := fun _ => False) hbC) (fun _ h => h.elim))
                             have HROW1 := Lib.hid (ownsRow_keep HROW.out fun q hq => hbC.block q (HROW.out.lt q hq).2)
                             have HX1 := Lib.hid (HXA.out.below hbC)
                             have HO1 := Lib.hid (HOA.out.below hbC)
                             clear hb1 hbB hbC)
      have q0 : (w1.alloc (.cells #[.int .i64 ((max o.a x.a : Nat) : Int), .int .i64 ((min o.b x.b : Nat) : Int)] 34)).cell? ⟨w1.heap.size, 0, none⟩ = some (.int .i64 ((max o.a x.a : Nat) : Int)) := by rw [World.cell?_alloc_new]; rfl
      have q1 : (w1.alloc (.cells #[.int .i64 ((max o.a x.a : Nat) : Int), .int .i64 ((min o.b x.b : Nat) : Int)] 34)).cell? ⟨w1.heap.size, 1, none⟩ = some (.int .i64 ((min o.b x.b : Nat) : Int)) := by rw [World.cell?_alloc_new]; rfl
      generalize w1.alloc (.cells #[.int .i64 ((max o.a x.a : Nat) : Int), .int .i64 ((min o.b x.b : Nat) : Int)] 34) = W1 at HMV1 HROW1 HX1 HO1 q0 q1 ⊢
      obtain ⟨T, hT⟩ : ∃ T, T = metB x o := ⟨_, rfl⟩
      have HT := Lib.hid hT
      have hcs : (((o.c : Int) != (x.c : Int)) = false ∧ T = false) ∨ (((o.c : Int) != (x.c : Int)) = true ∧ ¬ max o.a x.a < min o.b x.b ∧ T = false) ∨ (((o.c : Int) != (x.c : Int)) = true ∧ max o.a x.a < min o.b x.b ∧ ((o.m : Int) == 2) = true ∧ T = true) ∨ (((o.c : Int) != (x.c : Int)) = true ∧ max o.a x.a < min o.b x.b ∧ ((o.m : Int) == 2) = false ∧ ((x.m : Int) == 2) = true ∧ T = true) ∨ (((o.c : Int) != (x.c : Int)) = true ∧ max o.a x.a < min o.b x.b ∧ ((o.m : Int) == 2) = false ∧ ((x.m : Int) == 2) = false ∧ T = false) := by
        rw [hT]
        unfold metB
        by_cases h1 : o.c = x.c
        · left; exact ⟨by simp [h1], by simp [h1]⟩
        · by_cases h2 : max o.a x.a < min o.b x.b
          · by_cases h3 : o.m = 2
            · right; right; left; exact ⟨by simp; omega, h2, by simp [h3], by rw [decide_eq_true h1, decide_eq_true h2, decide_eq_true h3]; rfl⟩
            · by_cases h4 : x.m = 2
              · right; right; right; left; exact ⟨by simp; omega, h2, by simp; omega, by simp [h4], by rw [decide_eq_true h1, decide_eq_true h2, decide_eq_true h4]; simp⟩
              · right; right; right; right; exact ⟨by simp; omega, h2, by simp; omega, by simp; omega, by rw [decide_eq_false h3, decide_eq_false h4]; simp⟩
          · right; left; exact ⟨by simp; omega, h2, by rw [decide_eq_false h2]; simp⟩
      clear hT
      obtain ⟨MA, hMA⟩ : ∃ MA, MA = max o.a x.a := ⟨_, rfl⟩
      obtain ⟨MB, hMB⟩ : ∃ MB, MB = min o.b x.b := ⟨_, rfl⟩
      rw [← hMA, ← hMB] at hcs
      rw [← hMA] at q0
      rw [← hMB] at q1
      clear hMA hMB
      go_cut [52] from 10 to 61 (fun s52 wx => s52 = .bool T ∧ wx = W1)
      case first =>
        have o0 := HO1.out.c0
        have o1 := HO1.out.c1
        have o2 := HO1.out.c2
        have o3 := HO1.out.c3
        have y2 := HX1.out.c2
        have y3 := HX1.out.c3
        rcases hcs with ⟨t1, tt⟩ | ⟨t1, t2, tt⟩ | ⟨t1, t2, t3, tt⟩ | ⟨t1, t2, t3, t4, tt⟩ | ⟨t1, t2, t3, t4, tt⟩
        all_goals
          have TT := Lib.hid tt
          clear tt
          go_wp2_with fail
          go_meet
          exact ⟨by rw [TT.out], rfl⟩
      case rest =>
        obtain ⟨rfl, rfl⟩ := hcut
        clear hcs
        cases T with
        | false =>
          go_wp2_with fail
          go_roundw
          case rel => exact ⟨j + 1, n, xs, by omega, by go_num, by omega, HMV1.out, HROW1.out, by have := HANY.out; rw [← HT.out] at this; exact this⟩
          case measure => simp [intOf]; omega
        | true =>
          obtain ⟨oa, oc, rfl⟩ := row_lens HROW1.out
          have o2 := HO1.out.c2
          have o3 := HO1.out.c3
          have o1 := HO1.out.c1
          have o0 := HO1.out.c0
          have hoA := World.ownsRow.alloc HROW1.out (.cells #[.int .i64 (MA : Int), .int .i64 (MB : Int), .int .i64 (o.c : Int), .int .i64 (o.m : Int)] 57)
          have hcl : ∀ q u, (Hd.cells ⟨MA, MB, o.c, o.m⟩)[q]? = some u → (wc.alloc (.cells #[.int .i64 (MA : Int), .int .i64 (MB : Int), .int .i64 (o.c : Int), .int .i64 (o.m : Int)] 57)).cell? ((⟨wc.heap.size, 0, none⟩ : Addr).add q) = some u := fun q u hq => by
            rw [Addr.add_mid, Nat.zero_add, World.cell?_alloc_new]
            simpa [Hd.cells] using hq
          have hbs : w.heap.size + 1 ≤ (wc.alloc (.cells #[.int .i64 (MA : Int), .int .i64 (MB : Int), .int .i64 (o.c : Int), .int .i64 (o.m : Int)] 57)).heap.size := by have h1 := HMV1.out.size; rw [HS0.out] at h1; rw [World.size_alloc]; omega
          have HOB := Lib.hid hoA
          have Hcl := Lib.hid hcl
          have HBS := Lib.hid hbs
          clear hoA hcl hbs
          go_wp2_with (refine wpList_append_own_at _ rfl (.tmp 53) (.tmp 60) 47 rfl (w.heap.size + 1) 57 i0 _ 4 32 Tryd.underlying47 Hi.out Hz.out Hz1.out Hz2.out rfl (by decide) _ n xs rfl HOB.out ⟨wc.heap.size, 0, none⟩ 1 1 (Hd.cells ⟨MA, MB, o.c, o.m⟩) rfl rfl Hcl.out (one_hcells _) (by unfold maxLen; omega) (by omega) HBS.out ?_)
          intro v5 w5 hown5 hgrow _ _
          have HMV5 := Lib.hid ((HMV1.out.alloc (.cells #[.int .i64 (MA : Int), .int .i64 (MB : Int), .int .i64 (o.c : Int), .int .i64 (o.m : Int)] 57)).grown hgrow (fun q hq => by have h1 := (HROW1.out.lt q hq).1; rw [HS0.out]; omega))
          have HROW5 := Lib.hid hown5
          clear hown5 hgrow
          go_wp2_with fail
          go_roundw
          case rel => exact ⟨j + 1, n + 1, _, by omega, by go_num, by omega, HMV5.out, HROW5.out, by have := HANY.out; rw [← HT.out] at this; exact this⟩
          case measure => simp [intOf]; omega
    · have ej : j = L.length := by omega
      have e0 : decide ((j : Int) < (L.length : Int)) = false := by simp; omega
      rw [ej, List.take_length] at hany
      obtain ⟨oa, oc, rfl⟩ := row_lens hrow
      have HANY := Lib.hid hany
      have HMV := Lib.hid hmv
      have HROW := Lib.hid (ownsRow_base (base' := w.heap.size) hrow fun q hq => by have := (hrow.lt q hq).1; omega)
      clear hT hany hmv hrow ej
      go_wp2_with fail
      go_ret
      exact ⟨⟨_, n, xs, rfl, HROW.out, HANY.out⟩, HB0.out.trans (HMV.out.below (B := w.heap.size) HB0.out.size fun q hq => by omega)⟩
set_option maxRecDepth 100000 in
set_option maxHeartbeats 8000000 in
theorem some_ref (h : IsRT w b v L) (hl : L.length ≤ 100000) (c a z m : Nat) : Calls Tryd.prog 67 #[.pointer (some ⟨b, 0, none⟩), .int .i64 (c : Int), rng a z, .int .i64 (m : Int)] w fun e w' => (∃ v n xs, e = .returned v ∧ w'.ownsRow w.heap.size 57 4 v n xs) ∧ Below w.heap.size w w' := by
  obtain ⟨va, vc, rfl⟩ := row_lens h.row
  obtain ⟨i0, hi0, hz0, hz1, hz2⟩ := info_parts Tryd.infoHold
  have Hi := Lib.hid hi0
  have Hz := Lib.hid hz0
  have Hz1 := Lib.hid hz1
  have Hz2 := Lib.hid hz2
  have H := Lib.hid h
  have hsz : 0 < w.heap.size := Nat.lt_of_le_of_lt (Nat.zero_le _) h.lt
  clear hi0 hz0 hz1 hz2 h
  unfold rng
  go_enter Tryd.func67, Tryd.ntmps67
  go_wp2_with fail
  obtain ⟨W0, hW0⟩ : ∃ W0, W0 = (w.alloc (.cells #[.int .i64 (a : Int), .int .i64 (z : Int)] 34)).alloc (.cells #[] 57) := ⟨_, rfl⟩
  rw [← hW0]
  have hb0 : Below w.heap.size w W0 := by rw [hW0]; exact ((Below.refl _ _).alloc (Nat.le_refl _) _).alloc (by simp) _
  have hs0 : W0.heap.size = w.heap.size + 1 + 1 := by rw [hW0]; simp
  have hx0 : RX W0 w.heap.size a z := by rw [hW0]; exact (RX.made w a z _).below ((Below.refl _ _).alloc (Nat.le_refl _) _)
  have hrow0 : W0.ownsRow (w.heap.size + 1) 57 4 (.slice (some ⟨w.heap.size + 1, 0, none⟩) 0 0) 0 [] := by
    have := World.ownsRow_made (base := w.heap.size + 1) (e := 57) (size := 4) (w.alloc (.cells #[.int .i64 (a : Int), .int .i64 (z : Int)] 34)) #[] 0 (by simp) (Nat.zero_le _) rfl
    rw [World.size_alloc] at this
    rw [hW0]
    exact this
  have HB0 := Lib.hid hb0
  have HS0 := Lib.hid hs0
  have HX0 := Lib.hid hx0
  have HR0 := Lib.hid hrow0
  clear hb0 hs0 hx0 hrow0 hW0
  go_loopw [9, 10, 11, 12] (fun ov i _ _ wr => ∃ (j n : Nat) (xs : List Value), j ≤ L.length ∧ i = .int .i64 (j : Int) ∧ n ≤ j ∧ Moves (fun q => q = w.heap.size + 1) W0 wr ∧ wr.ownsRow (w.heap.size + 1) 57 4 ov n xs) (fun _ i _ _ _ => L.length - (intOf i).toNat)
  case atStart => exact ⟨0, 0, [], Nat.zero_le _, rfl, Nat.le_refl _, Moves.refl _ _, HR0.out⟩
  case round =>
    obtain ⟨j, n, xs, hj, rfl, hn, hmv, hrow⟩ := hrel
    have hT : IsRT wr b (.slice va L.length vc) L := (H.out.below HB0.out).keep fun q hq => hmv.block q (by rcases hq with rfl | hq; exact Nat.lt_of_lt_of_le H.out.lt HB0.out.size; exact Nat.lt_of_lt_of_le (H.out.row.lt q hq).2 HB0.out.size) (fun e => by rcases hq with rfl | hq; have := H.out.lt; omega; have := (H.out.row.lt q hq).2; omega)
    have c0 := hT.c0
    by_cases hlt : j < L.length
    · obtain ⟨o, ho⟩ : ∃ o, L[j]? = some o := ⟨_, List.getElem?_eq_getElem hlt⟩
      have e0 : decide ((j : Int) < (L.length : Int)) = true := by simpa using hlt
      obtain ⟨g, cap', ev, hc⟩ := hrowcell hT.row ho
      injection ev with ev1 ev2 ev3
      subst ev1
      have d0 := hc 0 _ rfl
      have d1 := hc 1 _ rfl
      have d2 := hc 2 _ rfl
      have d3 := hc 3 _ rfl
      rw [Nat.add_zero] at d0
      have hxw := HX0.out.keep hmv.size (hmv.block _ HX0.out.lt (by omega))
      have hbA : Below wr.heap.size wr (wr.alloc (.cells #[.int .i64 (o.a : Int), .int .i64 (o.b : Int), .int .i64 (o.c : Int), .int .i64 (o.m : Int)] 57)) := (Below.refl _ _).alloc (Nat.le_refl _) _
      have hxa := hxw.below hbA
      have hoa := HX.made wr o 57
      have x0 := hxa.c0
      have x1 := hxa.c1
      have HMV := Lib.hid (hmv.trans (Moves.of_below (F := fun _ => False) hbA) (fun _ h => h.elim))
      have HROW := Lib.hid (ownsRow_keep hrow fun q hq => hbA.block q (hrow.lt q hq).2)
      have HXA := Lib.hid hxa
      have HOA := Lib.hid hoa
      have hmeet := meet_any (w := wr.alloc (.cells #[.int .i64 (o.a : Int), .int .i64 (o.b : Int), .int .i64 (o.c : Int), .int .i64 (o.m : Int)] 57)) o.a o.b a z
      clear hT hc ev2 ev3 ho hxw hbA hxa hoa hmv hrow
      unfold rng at hmeet
      go_upto_region 7 with (go_at_call 84
                             refine hmeet.mono ?_
                             clear hmeet
                             rintro e w1 ⟨rfl, hb1⟩
                             have hbB : Below w1.heap.size w1 (w1.alloc (.cells #[.int .i64 ((max o.a a : Nat) : Int), .int .i64 ((min o.b z : Nat) : Int)] 34)) := (Below.refl _ _).alloc (Nat.le_refl _) _
                             have hbC := hb1.trans (hbB.mono hb1.size)
                             have HMV1 := Lib.hid (HMV.out.trans (Moves.of_below (F := fun _ => False) hbC) (fun _ h => h.elim))
                             have HROW1 := Lib.hid (ownsRow_keep HROW.out fun q hq => hbC.block q (HROW.out.lt q hq).2)
                             have HX1 := Lib.hid (HXA.out.below hbC)
                             have HO1 := Lib.hid (HOA.out.below hbC)
                             clear hb1 hbB hbC)
      have q0 : (w1.alloc (.cells #[.int .i64 ((max o.a a : Nat) : Int), .int .i64 ((min o.b z : Nat) : Int)] 34)).cell? ⟨w1.heap.size, 0, none⟩ = some (.int .i64 ((max o.a a : Nat) : Int)) := by rw [World.cell?_alloc_new]; rfl
      have q1 : (w1.alloc (.cells #[.int .i64 ((max o.a a : Nat) : Int), .int .i64 ((min o.b z : Nat) : Int)] 34)).cell? ⟨w1.heap.size, 1, none⟩ = some (.int .i64 ((min o.b z : Nat) : Int)) := by rw [World.cell?_alloc_new]; rfl
      generalize w1.alloc (.cells #[.int .i64 ((max o.a a : Nat) : Int), .int .i64 ((min o.b z : Nat) : Int)] 34) = W1 at HMV1 HROW1 HX1 HO1 q0 q1 ⊢
      have hcs : (((o.c : Int) == (c : Int)) = false) ∨ (((o.c : Int) == (c : Int)) = true ∧ ¬ max o.a a < min o.b z) ∨ (((o.c : Int) == (c : Int)) = true ∧ max o.a a < min o.b z ∧ ((m : Int) == 0) = true) ∨ (((o.c : Int) == (c : Int)) = true ∧ max o.a a < min o.b z ∧ ((m : Int) == 0) = false ∧ ((o.m : Int) == (m : Int)) = true) ∨ (((o.c : Int) == (c : Int)) = true ∧ max o.a a < min o.b z ∧ ((m : Int) == 0) = false ∧ ((o.m : Int) == (m : Int)) = false) := by
        by_cases h1 : o.c = c
        · by_cases h2 : max o.a a < min o.b z
          · by_cases h3 : m = 0
            · right; right; left; exact ⟨by simp; omega, h2, by simp [h3]⟩
            · by_cases h4 : o.m = m
              · right; right; right; left; exact ⟨by simp; omega, h2, by simp; omega, by simp [h4]⟩
              · right; right; right; right; exact ⟨by simp; omega, h2, by simp; omega, by simp; omega⟩
          · right; left; exact ⟨by simp; omega, h2⟩
        · left; simp; omega
      obtain ⟨MA, hMA⟩ : ∃ MA, MA = max o.a a := ⟨_, rfl⟩
      obtain ⟨MB, hMB⟩ : ∃ MB, MB = min o.b z := ⟨_, rfl⟩
      rw [← hMA, ← hMB] at hcs
      rw [← hMA] at q0
      rw [← hMB] at q1
      clear hMA hMB
      go_cut [54] from 14 to 62 (fun s54 wx => (∃ T, s54 = .bool T) ∧ wx = W1)
      case first =>
        have o0 := HO1.out.c0
        have o1 := HO1.out.c1
        have o2 := HO1.out.c2
        have o3 := HO1.out.c3
        rcases hcs with t1 | ⟨t1, t2⟩ | ⟨t1, t2, t3⟩ | ⟨t1, t2, t3, t4⟩ | ⟨t1, t2, t3, t4⟩
        all_goals
          go_wp2_with fail
          go_meet
          exact ⟨⟨_, rfl⟩, rfl⟩
      case rest =>
        obtain ⟨⟨T, rfl⟩, rfl⟩ := hcut
        clear hcs
        cases T with
        | false =>
          go_wp2_with fail
          go_roundw
          case rel => exact ⟨j + 1, n, xs, by omega, by go_num, by omega, HMV1.out, HROW1.out⟩
          case measure => simp [intOf]; omega
        | true =>
          obtain ⟨oa, oc, rfl⟩ := row_lens HROW1.out
          have o2 := HO1.out.c2
          have o3 := HO1.out.c3
          have o1 := HO1.out.c1
          have o0 := HO1.out.c0
          have hoA := World.ownsRow.alloc HROW1.out (.cells #[.int .i64 (MA : Int), .int .i64 (MB : Int), .int .i64 (c : Int), .int .i64 (o.m : Int)] 57)
          have hcl : ∀ q u, (Hd.cells ⟨MA, MB, c, o.m⟩)[q]? = some u → (wc.alloc (.cells #[.int .i64 (MA : Int), .int .i64 (MB : Int), .int .i64 (c : Int), .int .i64 (o.m : Int)] 57)).cell? ((⟨wc.heap.size, 0, none⟩ : Addr).add q) = some u := fun q u hq => by
            rw [Addr.add_mid, Nat.zero_add, World.cell?_alloc_new]
            simpa [Hd.cells] using hq
          have hbs : w.heap.size + 1 ≤ (wc.alloc (.cells #[.int .i64 (MA : Int), .int .i64 (MB : Int), .int .i64 (c : Int), .int .i64 (o.m : Int)] 57)).heap.size := by have h1 := HMV1.out.size; rw [HS0.out] at h1; rw [World.size_alloc]; omega
          have HOB := Lib.hid hoA
          have Hcl := Lib.hid hcl
          have HBS := Lib.hid hbs
          clear hoA hcl hbs
          go_wp2_with (refine wpList_append_own_at _ rfl (.tmp 55) (.tmp 61) 47 rfl (w.heap.size + 1) 57 i0 _ 4 32 Tryd.underlying47 Hi.out Hz.out Hz1.out Hz2.out rfl (by decide) _ n xs rfl HOB.out ⟨wc.heap.size, 0, none⟩ 1 1 (Hd.cells ⟨MA, MB, c, o.m⟩) rfl rfl Hcl.out (one_hcells _) (by unfold maxLen; omega) (by omega) HBS.out ?_)
          intro v5 w5 hown5 hgrow _ _
          have HMV5 := Lib.hid ((HMV1.out.alloc (.cells #[.int .i64 (MA : Int), .int .i64 (MB : Int), .int .i64 (c : Int), .int .i64 (o.m : Int)] 57)).grown hgrow (fun q hq => by have h1 := (HROW1.out.lt q hq).1; rw [HS0.out]; omega))
          have HROW5 := Lib.hid hown5
          clear hown5 hgrow
          go_wp2_with fail
          go_roundw
          case rel => exact ⟨j + 1, n + 1, _, by omega, by go_num, by omega, HMV5.out, HROW5.out⟩
          case measure => simp [intOf]; omega
    · have ej : j = L.length := by omega
      have e0 : decide ((j : Int) < (L.length : Int)) = false := by simp; omega
      obtain ⟨oa, oc, rfl⟩ := row_lens hrow
      have HMV := Lib.hid hmv
      have HROW := Lib.hid (ownsRow_base (base' := w.heap.size) hrow fun q hq => by have := (hrow.lt q hq).1; omega)
      clear hT hmv hrow ej
      go_wp2_with fail
      go_ret
      exact ⟨⟨_, n, xs, rfl, HROW.out⟩, HB0.out.trans (HMV.out.below (B := w.heap.size) HB0.out.size fun q hq => by omega)⟩
end
end Go.Proofs.YtfjfkmoofmncnaaDoor
/- The reference's table: Put, Cut, Weaken, Drop. -/
namespace Go.Proofs.YtfjfkmoofmncnaaDoor
open Go.RowKit
theorem ToRow.made (w : World) (p q r : Int) (g : Nat → Nat) (T : TypeId) (h0 : (g 0 : Int) = p) (h1 : (g 1 : Int) = q) (h2 : (g 2 : Int) = r) : ToRow (w.alloc (.cells #[.int .i64 p, .int .i64 q, .int .i64 r] T)) (.slice (some ⟨w.heap.size, 0, none⟩) 3 3) g w.heap.size :=
  ⟨rfl, fun i hi => by
    rw [World.cell?_alloc_new]
    match i, hi with
    | 0, _ => rw [h0]; rfl
    | 1, _ => rw [h1]; rfl
    | 2, _ => rw [h2]; rfl⟩
/-- What the table's methods leave. -/
def RTPost (w : World) (b : Nat) (R : Nat → Nat → Nat) (w' : World) : Prop := ∃ v', IsRT w' b v' (holdsOf R) ∧ Moves (fun k => k = b) w w' ∧ ∀ k, v'.ownBlock = some k → w.heap.size ≤ k
section
variable {w w' : World} {b : Nat} {v : Value} {R : Nat → Nat → Nat}
theorem rholds_len (R : Nat → Nat → Nat) : (holdsOf R).length ≤ 100000 := Nat.le_trans (someOf_len R 0 256 _ 8) (by omega)
set_option maxRecDepth 100000 in
set_option maxHeartbeats 4000000 in
theorem rcut_any (h : IsRT w b v (holdsOf R)) (hR : Small R) (c a z : Nat) : Calls Tryd.prog 59 #[.pointer (some ⟨b, 0, none⟩), .int .i64 (c : Int), rng a z] w fun e w' => (∃ v, e = .returned v) ∧ RTPost w b (setR R c a z (fun _ => 0)) w' := by
  have hbA : Below w.heap.size w (w.alloc (.cells #[.int .i64 (a : Int), .int .i64 (z : Int)] 34)) := (Below.refl _ _).alloc (Nat.le_refl _) _
  have hxa := RX.made w a z 34
  have hT := h.below hbA
  have hsome := some_ref hT (rholds_len R) c a z 0
  have x0 := hxa.c0
  have x1 := hxa.c1
  have HT := Lib.hid hT
  have HXA := Lib.hid hxa
  have HBA := Lib.hid hbA
  have HLT := Lib.hid h.lt
  clear hbA hxa hT h
  unfold rng at hsome ⊢
  go_enter Tryd.func59, Tryd.ntmps59
  go_wp2_with (first
    | (go_at_call 67
       refine hsome.mono ?_
       clear hsome
       rintro e w1 ⟨⟨sv, n, xs, rfl, hsr⟩, hb1⟩
       obtain ⟨sva, svc, rfl⟩ := row_lens hsr
       have hbB : Below w1.heap.size w1 (w1.alloc (.cells #[.int .i64 0, .int .i64 0, .int .i64 0] 3)) := (Below.refl _ _).alloc (Nat.le_refl _) _
       have hx1 := HXA.out.below (hb1.trans (hbB.mono hb1.size))
       have x0 := hx1.c0
       have x1 := hx1.c1
       have hset := rset_any ((HT.out.below hb1).below hbB) hR c a z (fun _ => 0) (fun _ _ => by omega) (ToRow.made w1 0 0 0 (fun _ => 0) 3 rfl rfl rfl)
       have HB1 := Lib.hid (HBA.out.trans ((hb1.trans (hbB.mono hb1.size)).mono HBA.out.size))
       clear hb1 hbB hx1 hsr
       unfold rng at hset)
    | (go_at_call 80
       refine hset.mono ?_
       clear hset
       rintro e w2 ⟨rfl, v', h2, hm2, hv2⟩
       have H2 := Lib.hid h2
       have HM2 := Lib.hid hm2
       have HV2 := Lib.hid hv2
       clear h2 hm2 hv2))
  go_ret
  exact ⟨⟨_, rfl⟩, _, H2.out, (Moves.of_below HB1.out).trans HM2.out fun _ h => .inl h, fun k hk => Nat.le_trans HB1.out.size (HV2.out k hk)⟩
set_option maxRecDepth 100000 in
set_option maxHeartbeats 4000000 in
theorem rweaken_any (h : IsRT w b v (holdsOf R)) (hR : Small R) (c a z : Nat) : Calls Tryd.prog 60 #[.pointer (some ⟨b, 0, none⟩), .int .i64 (c : Int), rng a z] w fun e w' => (∃ v, e = .returned v) ∧ RTPost w b (setR R c a z (fun m => min m 1)) w' := by
  have hbA : Below w.heap.size w (w.alloc (.cells #[.int .i64 (a : Int), .int .i64 (z : Int)] 34)) := (Below.refl _ _).alloc (Nat.le_refl _) _
  have hxa := RX.made w a z 34
  have hT := h.below hbA
  have hsome := some_ref hT (rholds_len R) c a z 2
  have x0 := hxa.c0
  have x1 := hxa.c1
  have HT := Lib.hid hT
  have HXA := Lib.hid hxa
  have HBA := Lib.hid hbA
  have HLT := Lib.hid h.lt
  clear hbA hxa hT h
  unfold rng at hsome ⊢
  go_enter Tryd.func60, Tryd.ntmps60
  go_wp2_with (first
    | (go_at_call 67
       refine hsome.mono ?_
       clear hsome
       rintro e w1 ⟨⟨sv, n, xs, rfl, hsr⟩, hb1⟩
       obtain ⟨sva, svc, rfl⟩ := row_lens hsr
       have hbB : Below w1.heap.size w1 (w1.alloc (.cells #[.int .i64 0, .int .i64 1, .int .i64 1] 3)) := (Below.refl _ _).alloc (Nat.le_refl _) _
       have hx1 := HXA.out.below (hb1.trans (hbB.mono hb1.size))
       have x0 := hx1.c0
       have x1 := hx1.c1
       have hset := rset_any ((HT.out.below hb1).below hbB) hR c a z (fun m => min m 1) (fun _ _ => by omega) (ToRow.made w1 0 1 1 (fun m => min m 1) 3 rfl rfl rfl)
       have HB1 := Lib.hid (HBA.out.trans ((hb1.trans (hbB.mono hb1.size)).mono HBA.out.size))
       clear hb1 hbB hx1 hsr
       unfold rng at hset)
    | (go_at_call 80
       refine hset.mono ?_
       clear hset
       rintro e w2 ⟨rfl, v', h2, hm2, hv2⟩
       have H2 := Lib.hid h2
       have HM2 := Lib.hid hm2
       have HV2 := Lib.hid hv2
       clear h2 hm2 hv2))
  go_ret
  exact ⟨⟨_, rfl⟩, _, H2.out, (Moves.of_below HB1.out).trans HM2.out fun _ h => .inl h, fun k hk => Nat.le_trans HB1.out.size (HV2.out k hk)⟩
set_option maxRecDepth 100000 in
set_option maxHeartbeats 4000000 in
theorem rdrop_any (h : IsRT w b v (holdsOf R)) (hR : Small R) (c : Nat) : Calls Tryd.prog 68 #[.pointer (some ⟨b, 0, none⟩), .int .i64 (c : Int)] w fun e w' => (∃ v, e = .returned v) ∧ RTPost w b (setR R c 0 256 (fun _ => 0)) w' := by
  have hcut := rcut_any h hR c 0 256
  unfold rng at hcut
  clear h
  go_enter Tryd.func68, Tryd.ntmps68
  go_wp2_with (go_at_call 59
               refine hcut.mono ?_
               clear hcut
               rintro e w1 ⟨⟨v, rfl⟩, h1⟩
               have H1 := Lib.hid h1
               clear h1)
  go_ret
  exact ⟨⟨_, rfl⟩, H1.out⟩
theorem HX.cell {g : Nat} {x : Hd} (h : HX w g x) : w.cell? ⟨g, 0, none⟩ = some (.int .i64 (x.a : Int)) ∧ w.cell? ⟨g, 1, none⟩ = some (.int .i64 (x.b : Int)) ∧ w.cell? ⟨g, 2, none⟩ = some (.int .i64 (x.c : Int)) ∧ w.cell? ⟨g, 3, none⟩ = some (.int .i64 (x.m : Int)) := ⟨h.c0, h.c1, h.c2, h.c3⟩
/-- What Put leaves: the table has it; or it is full, and as it was. -/
def PutRef (w : World) (b : Nat) (v : Value) (R : Nat → Nat → Nat) (x : Hd) (e : Ending) (w' : World) : Prop :=
  (fitsB R x = true ∧ e = .returned (.int .i64 0) ∧ RTPost w b (putR R x) w') ∨ (fitsB R x = false ∧ e = .returned (.int .i64 2) ∧ IsRT w' b v (holdsOf R) ∧ Moves (fun k => k = b) w w')
set_option maxRecDepth 100000 in
set_option maxHeartbeats 4000000 in
theorem rput_any (h : IsRT w b v (holdsOf R)) (hR : Small R) (x : Hd) (hx : HdOk x) (hf : (holdsOf R).any (metB x) = false) : Calls Tryd.prog 78 #[.pointer (some ⟨b, 0, none⟩), x.val] w (PutRef w b v R x) := by
  obtain ⟨vo, vd, rfl⟩ := row_lens h.row
  have hbA : Below w.heap.size w (w.alloc (.cells #[.int .i64 (x.a : Int), .int .i64 (x.b : Int), .int .i64 (x.c : Int), .int .i64 (x.m : Int)] 57)) := (Below.refl _ _).alloc (Nat.le_refl _) _
  have hxa := HX.made w x 57
  obtain ⟨x0, x1, x2, x3⟩ := hxa.cell
  have hT := h.below hbA
  have hcl := rclient_any (w := w.alloc (.cells #[.int .i64 (x.a : Int), .int .i64 (x.b : Int), .int .i64 (x.c : Int), .int .i64 (x.m : Int)] 57)) x.c
  rw [decide_eq_true hx.c] at hcl
  have hbl := rblocks_any (w := w.alloc (.cells #[.int .i64 (x.a : Int), .int .i64 (x.b : Int), .int .i64 (x.c : Int), .int .i64 (x.m : Int)] 57)) x.a x.b
  rw [decide_eq_true ⟨hx.ab, hx.b⟩] at hbl
  have HT := Lib.hid hT
  have HXA := Lib.hid hxa
  have HBA := Lib.hid hbA
  have HF := Lib.hid hf
  have H := Lib.hid h
  have hm12 := hx.m
  have t1 : ((x.m : Int) != 1) = decide (x.m = 2) := by
    rcases hm12 with e | e <;> simp [e]
  have t2 : ((x.m : Int) != 2) = decide (x.m = 1) := by
    rcases hm12 with e | e <;> simp [e]
  have hg0 : (((fun m => max m x.m) 0 : Nat) : Int) = (x.m : Int) := by show ((max 0 x.m : Nat) : Int) = _; omega
  have hg1 : (((fun m => max m x.m) 1 : Nat) : Int) = (x.m : Int) := by show ((max 1 x.m : Nat) : Int) = _; omega
  have hg2 : (((fun m => max m x.m) 2 : Nat) : Int) = (2 : Int) := by show ((max 2 x.m : Nat) : Int) = _; omega
  have HG0 := Lib.hid hg0
  have HG1 := Lib.hid hg1
  have HG2 := Lib.hid hg2
  have hm2 : ∀ m, m ≤ 2 → max m x.m ≤ 2 := fun m hm => by omega
  have HM2 := Lib.hid hm2
  have hL := rholds_len R
  clear hbA hxa hT h hf hg0 hg1 hg2 hm2 hx
  unfold rng at hbl
  unfold Hd.val
  have HM12 := Lib.hid hm12
  clear hm12
  have hfit : fitsB R x = decide ((holdsOf (setR R x.c x.a x.b fun m => max m x.m)).length ≤ 256) := rfl
  have HFIT := Lib.hid hfit
  clear hfit
  cases hq : fitsB R x
  all_goals
    have HQ := Lib.hid hq
    have hlq := HFIT.out
    rw [hq] at hlq
    clear hq
    first
      | (have e9 : decide ((256 : Int) < ((holdsOf (setR R x.c x.a x.b fun m => max m x.m)).length : Int)) = true := by
           have := of_decide_eq_false hlq.symm
           simp only [decide_eq_true_eq]; omega)
      | (have e9 : decide ((256 : Int) < ((holdsOf (setR R x.c x.a x.b fun m => max m x.m)).length : Int)) = false := by
           have := of_decide_eq_true hlq.symm
           simp only [decide_eq_false_iff_not]; omega)
    clear hlq
    rcases HM12.out with hm | hm
    all_goals
      have t3 : decide (x.m = 1) = decide (x.m = 1) := rfl
      first
        | (have t1' : ((x.m : Int) != 1) = false := by rw [t1, hm]; rfl)
        | (have t1' : ((x.m : Int) != 1) = true := by rw [t1, hm]; rfl)
      first
        | (have t2' : ((x.m : Int) != 2) = false := by rw [t2, hm]; rfl)
        | (have t2' : ((x.m : Int) != 2) = true := by rw [t2, hm]; rfl)
      clear t1 t2 t3 hm
      go_enter Tryd.func78, Tryd.ntmps78
      go_wp2_with (first
        | (go_at_call 58
           refine hcl.mono ?_
           clear hcl
           rintro e w1 ⟨rfl, rfl⟩)
        | (go_at_call 76
           refine hbl.mono ?_
           clear hbl
           rintro e w1 ⟨rfl, hb1⟩
           have hx1 := HXA.out.below hb1
           obtain ⟨y0, y1, y2, y3⟩ := hx1.cell
           have hag := against_ref (HT.out.below hb1) hL x
           unfold Hd.val at hag
           have HX1 := Lib.hid hx1
           have HB1 := Lib.hid (HBA.out.trans (hb1.mono HBA.out.size))
           have HT1 := Lib.hid (HT.out.below hb1)
           clear hx1 hb1)
        | (go_at_call 79
           refine hag.mono ?_
           clear hag
           rintro e w2 ⟨⟨sv, n, xs, rfl, hsr, hn⟩, hb2⟩
           obtain ⟨sva, svc, rfl⟩ := row_lens hsr
           rw [HF.out] at hn
           obtain rfl : n = 0 := by have := of_decide_eq_false hn; omega
           have hT2 := HT1.out.below hb2
           have hx2 := HX1.out.below hb2
           obtain ⟨z0, z1, z2, z3⟩ := hx2.cell
           have c0 := hT2.c0
           have hbC : Below w2.heap.size w2 (w2.alloc (.cells #[.int .i64 (x.m : Int), .int .i64 (x.m : Int), .int .i64 2] 3)) := (Below.refl _ _).alloc (Nat.le_refl _) _
           obtain ⟨k0, k1, k2, k3⟩ := (hx2.below hbC).cell
           have hset := rset_any (hT2.below hbC) hR x.c x.a x.b (fun m => max m x.m) HM2.out (ToRow.made w2 (x.m : Int) (x.m : Int) 2 _ 3 HG0.out HG1.out HG2.out)
           unfold rng at hset
           have HB2 := Lib.hid (HB1.out.trans ((hb2.trans (hbC.mono hb2.size)).mono HB1.out.size))
           clear hsr hn hT2 hx2 hbC hb2)
        | (go_at_call 80
           refine hset.mono ?_
           clear hset
           rintro e w3 ⟨rfl, v', h3, hm3, hv3⟩
           obtain ⟨va, vc, rfl⟩ := row_lens h3.row
           have c3 := h3.c0
           have f3 := h3.fro 0
           have H3 := Lib.hid h3
           have HM3 := Lib.hid hm3
           have HV3 := Lib.hid hv3
           clear h3 hm3 hv3))
      go_ret
      first
        | exact .inl ⟨HQ.out, rfl, _, H3.out, (Moves.of_below HB2.out).trans HM3.out fun _ h => .inl h, fun k hk => Nat.le_trans HB2.out.size (HV3.out k hk)⟩
        | (have hmv := ((Moves.of_below (F := fun k => k = b) HB2.out).trans HM3.out fun _ h => .inl h).setCell ⟨b, 0, none⟩ (.slice vo (holdsOf R).length vd) (.inl rfl)
           have hkp : ∀ k, (Value.slice vo (holdsOf R).length vd).ownBlock = some k → (w3.setCell ⟨b, 0, none⟩ (.slice vo (holdsOf R).length vd)).heap[k]? = w.heap[k]? := fun k hk => hmv.block k (H.out.row.lt k hk).2 (fun e => H.out.ne (e ▸ hk))
           exact .inr ⟨HQ.out, rfl, ⟨World.cell?_setCell_same _ _ _ H3.out.c0, fun o => by rw [World.frozen?_setCell]; exact H3.out.fro o, ownsRow_keep H.out.row hkp, H.out.ne⟩, hmv⟩)
end
end Go.Proofs.YtfjfkmoofmncnaaDoor
