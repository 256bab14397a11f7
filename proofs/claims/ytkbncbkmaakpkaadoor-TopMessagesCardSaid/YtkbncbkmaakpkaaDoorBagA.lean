/- The bag's New, put, at, List. -/
import Derived.Test.YtkbncbkmaakpkaaDoorBagMem
import Derived.Deep.AppendLies
import Derived.Deep.RegionLaw
import Derived.Laws.OwnMore
import Derived.Laws.AppendOwnNone
import Derived.Maps.AppendAt
import Derived.BigQuiet
import Derived.Lib.BufferMore
namespace Go.Proofs.YtkbncbkmaakpkaaDoor
open Go.RowKit
theorem Tryd.infoMsg : (Tryd.prog.info? 51).map (fun i => (i.zero, i.size, i.bytes)) = some (some (Ms.val Ms.zero), 8, 72) := by kernel_rfl
theorem news_last (w : World) (cs : List Value) (t : TypeId) : ∀ j u, cs[j]? = some u → (w.alloc (.cells cs.toArray t)).cell? ((⟨w.heap.size, 0, none⟩ : Addr).add j) = some u := by
  intro j u hu
  rw [Addr.add_mid, Nat.zero_add, World.cell?_alloc_new]
  simpa using hu
/-- A row of its own, appended onto a row of its own: either may be empty. -/
theorem wpList_append_rows {P : Program} {w : World} {ops : Array Oper} {rest : List Oper} {o : Oper} {a : Act} {Q : Exit → Act → World → Prop} (hgd : o.guard = none) (s x : Operand) (t : TypeId)
    (ho : o.op = .call { callee := .builtin .append, args := #[s, x], argTypes := #[t, t] })
    (base : Nat) (e : TypeId) (i : TypeInfo) (z : Value) (size bytes : Nat) (ht : P.underlying t = some (.slice e)) (hi : P.info? e = some i) (hz : i.zero = some z)
    (hsize : i.size = size) (hby : i.bytes = bytes) (hzs : z.cells.size = size) (hsz : 0 < size)
    (v : Value) (n : Nat) (xs : List Value) (hs : a.eval s = v) (hown : w.ownsRow base e size v n xs)
    (u : Value) (b2 m : Nat) (news : List Value) (hx : a.eval x = u) (hu : w.ownsRow b2 e size u m news) (h1 : ∀ q ∈ news, q.oneCell' = true)
    (h63 : n + m ≤ maxLen) (hbytes : (n + m) * bytes ≤ 140737488355328) (hbase : base ≤ w.heap.size)
    (h : ∀ v' w', w'.ownsRow base e size v' (n + m) (xs ++ news) → w.grownBy w' v.ownBlock → (v'.ownBlock = v.ownBlock ∨ v'.ownBlock = some w.heap.size) → wpList P ops Q rest (a.put o.dst v') w') :
    wpList P ops Q (o :: rest) a w := by
  rcases hu.2 with ⟨rfl, rfl⟩ | ⟨g, cap, cur, rfl, _, _, _, _, _, _⟩
  · have hn : news = [] := List.length_eq_zero_iff.1 (by have := hu.1; simpa using this)
    subst hn
    refine wpList_append_own_none hgd s x t ho base e i size ht hi v n xs hs hown hx (h v w ?_ ⟨rfl, rfl, rfl, Nat.le_refl _, fun _ _ _ => rfl⟩ (.inl rfl))
    simpa using hown
  · exact wpList_append_own_at w hgd s x t ho base e i z size bytes ht hi hz hsize hby hzs hsz v n xs hs hown ⟨g, 0, none⟩ m cap news hx hu.1 (hu.cells rfl) h1 h63 hbytes hbase fun v' w' h2 h3 _ h5 => h v' w' h2 h3 h5
/-- What is behind a row that has grown by one, at the world of the store. -/
theorem Has.grown {w w1 : World} {b : Nat} {v : Value} {l : List Ms} {m : Ms} {o : Obj} {g cap H : Nat} (h : Has w b v l) (hg : (w.alloc o).grownBy w1 v.ownBlock) (hat : v.ownBlock = some g ∨ g = H) (hH : w.heap.size ≤ H)
    (hown : w1.ownsRow 0 51 8 (.slice (some ⟨g, 0, none⟩) (l.length + 1) cap) (l.length + 1) (mrows l ++ m.cells)) (hm : m.fits) :
    Turned w b v (l ++ [m]) (w1.setCell ⟨b, 0, none⟩ (.slice (some ⟨g, 0, none⟩) (l.length + 1) cap)) ∧ w1.heap[b]? = w.heap[b]? := by
  have hb := h.lt b (.inl rfl)
  have hb1 : w1.heap[b]? = w.heap[b]? := (hg.block b (by simp; omega) (fun e => h.ne e.symm)).trans (Below.heap_alloc _ _ _ hb)
  have hne : (Value.slice (some ⟨g, 0, none⟩) (l.length + 1) cap).ownBlock ≠ some b := by
    simp only [Value.ownBlock, ne_eq, Option.some.injEq]
    rcases hat with h1 | h1
    · intro e; subst e; exact h.ne h1
    · omega
  refine ⟨⟨_, h.told hb1 ?_ hne ?_, (((Moves.refl _ w).alloc o).grown hg (fun k hk => .inl (.inr hk))).setCell _ _ (.inl (.inl rfl)), fun k hk => ?_, fun q hq => ?_⟩, hb1⟩
  · rw [List.length_append, mrows_snoc]; exact hown
  · intro x hx
    rcases List.mem_append.1 hx with h1 | h1
    · exact h.fits x h1
    · simp at h1; rw [h1]; exact hm
  · rcases hk with hk | hk
    · exact .inl (.inl hk)
    · simp only [Value.ownBlock, Option.some.injEq] at hk
      subst hk
      rcases hat with h1 | h1
      · exact .inl (.inr h1)
      · exact .inr (by omega)
  · exact (World.cell?_setCell_other _ _ _ _ (by simp <;> exact fun e => hq e.symm)).trans (World.cell?_of_block (a := ⟨b, q, none⟩) hb1)
section
variable {w : World} {b : Nat} {v : Value} {l : List Ms}
set_option maxRecDepth 100000 in
set_option maxHeartbeats 2000000 in
theorem put_any (h : IsBag w b v l) (hl : l.length ≤ 64) (m : Ms) (hm : m.fits) :
    Calls Tryd.prog 55 #[.pointer (some ⟨b, 0, none⟩), m.val] w fun e w' => e = .returned (.bool (decide (l.length < 64))) ∧ Turned w b v (if l.length < 64 then l ++ [m] else l) w' := by
  obtain ⟨hh, hmost⟩ := h
  have hbl := hh.lt b (.inl rfl)
  have hA := hh.alloc (.cells m.cells.toArray 51)
  have hmv : Moves (fun k => bfp b v k) w (w.alloc (.cells m.cells.toArray 51)) := (Moves.refl _ w).alloc _
  have ho : ∀ o, (w.alloc (.cells m.cells.toArray 51)).cell? ⟨b, o, none⟩ = w.cell? ⟨b, o, none⟩ := fun o => World.cell?_alloc_lt _ _ _ hbl
  have hfx : ∀ n, ¬ l.length < 64 → Turned w b v l ((w.alloc (.cells m.cells.toArray 51)).drewN n) := fun n _ => .quiet hh ((Below.refl _ _).alloc (Nat.le_refl _) _ |>.trans ⟨rfl, rfl, rfl, Nat.le_refl _, fun _ _ => rfl⟩)
  have c0 : (w.alloc (.cells m.cells.toArray 51)).cell? ⟨b, 0, none⟩ = some v := hA.c0
  have c1 : (w.alloc (.cells m.cells.toArray 51)).cell? ⟨b, 1, none⟩ = some (.int .i64 64) := (ho 1).trans hmost
  have hunf : m.cells.toArray = #[.int .i64 m.kind, .int .i64 m.src, .int .i64 m.dst, .int .i64 m.epoch, .int .i64 m.seq, .int .i64 m.off, .int .i64 m.len, .string m.data] := rfl
  rw [hunf] at c0 c1
  obtain ⟨i0, hi0, hz0, hz1, hz2⟩ := info_parts Tryd.infoMsg
  have Hi := Lib.hid hi0
  have Hz := Lib.hid hz0
  have Hz1 := Lib.hid hz1
  have Hz2 := Lib.hid hz2
  have HA := Lib.hid hA
  have HM := Lib.hid hmv
  have HO := Lib.hid ho
  have HF := Lib.hid hfx
  obtain ⟨a, cap, rfl⟩ := hh.lens
  clear hi0 hz0 hz1 hz2 hA hmv ho hfx hunf
  go_enter Tryd.func55, Tryd.ntmps55
  unfold Ms.val
  go_wp2_with fail
  by_cases hlt : l.length < 64
  · have hi1 : decide ((64 : Int) ≤ (l.length : Int)) = false := by simp; omega
    have h1c := one_mcells m
    have hml : l.length + 1 ≤ maxLen := by unfold maxLen; omega
    go_quiet (fail)
    have hB := (HA.out.drewN nq).drew
    have HBo := Lib.hid (hB.own.alloc (.cells m.cells.toArray 51))
    have HB := Lib.hid hB
    have d0 : ((w.alloc (.cells m.cells.toArray 51)).drewN nq).drew.cell? ⟨b, 0, none⟩ = some (.slice a l.length cap) := hB.c0
    have d1 : (((w.alloc (.cells m.cells.toArray 51)).drewN nq).drew.alloc (.cells m.cells.toArray 51)).cell? ⟨b, 0, none⟩ = some (.slice a l.length cap) := (hB.alloc _).c0
    have hnl : ∀ j u, m.cells[j]? = some u → (((w.alloc (.cells m.cells.toArray 51)).drewN nq).drew.alloc (.cells m.cells.toArray 51)).cell? ((⟨w.heap.size + 1, 0, none⟩ : Addr).add j) = some u := by
      have e := news_last ((w.alloc (.cells m.cells.toArray 51)).drewN nq).drew m.cells 51
      have e2 : ((w.alloc (.cells m.cells.toArray 51)).drewN nq).drew.heap.size = w.heap.size + 1 := by simp
      rwa [e2] at e
    have Hnl := Lib.hid hnl
    clear hB hnl
    go_wp2_with fail
    go_region_law (first
      | (refine step_append_lies _ rfl (.tmp 19) (.tmp 21) 41 rfl 0 51 i0 _ 8 72 Tryd.underlying41 Hi.out Hz.out Hz1.out Hz2.out rfl (by decide) (.slice a l.length cap) l.length (mrows l) rfl HBo.out ⟨w.heap.size + 1, 0, none⟩ 1 1 m.cells rfl rfl Hnl.out h1c (by decide) hml (by omega) (Nat.zero_le _) _ rfl ?_
         intro g capn w7 hown hgrow hat hlt3
         have hgr := HB.out.grown hgrow hat (by simp) hown hm
         have e0 : w7.cell? ⟨b, 0, none⟩ = some (.slice a l.length cap) := (World.cell?_of_block (a := ⟨b, 0, none⟩) hgr.2).trans HB.out.c0
         have e1 : w7.frozen? ⟨b, 0, none⟩ = false := (World.frozen?_of_block (a := ⟨b, 0, none⟩) hgr.2).trans (HB.out.fro 0)
         have HG := Lib.hid hgr.1
         clear hown hgrow hat hgr))
    all_goals
      have hT := Turned.trans ((HM.out.drewN nq).drew) (fun _ hk => .inl hk) (fun o _ => HO.out o) HG.out
      have HT := Lib.hid hT
      clear hT
      go_wp2_with fail
      go_ret
      exact ⟨rfl, HT.out⟩
  · have hi1 : decide ((64 : Int) ≤ (l.length : Int)) = true := by simp; omega
    go_quiet (fail)
    have hq := HF.out nq hlt
    go_wp2_with fail
    go_ret
    exact ⟨rfl, hq⟩
set_option maxRecDepth 100000 in
theorem bnew_any : Calls Tryd.prog 16 #[] w fun e w' => e = .returned (.pointer (some ⟨w.heap.size, 0, none⟩)) ∧ IsBag w' w.heap.size (.slice none 0 0) [] ∧ Below w.heap.size w w' := by
  go_enter Tryd.func16, Tryd.ntmps16
  go_wp2_with fail
  go_ret
  refine ⟨rfl, ⟨⟨?_, World.ownsRow_nil _ _ _ _, fun o => World.frozen?_alloc_new _ _ _ _, by simp [Value.ownBlock], fun m h => by simp at h⟩, ?_⟩, (Below.refl _ _).alloc (Nat.le_refl _) _⟩
  · rw [World.cell?_alloc_new]; rfl
  · rw [World.cell?_alloc_new]; rfl
/-- What at finds. -/
def atB (l : List Ms) (i : Int) : Bool := decide (0 ≤ i) && decide (i < (l.length : Int))
def atM (l : List Ms) (i : Int) : Ms := if 0 ≤ i then l.getD i.toNat Ms.zero else Ms.zero
set_option maxRecDepth 100000 in
set_option maxHeartbeats 1000000 in
theorem at_any (h : Has w b v l) (i : Int) :
    Calls Tryd.prog 56 #[.pointer (some ⟨b, 0, none⟩), .int .i64 i] w fun e w' => e = .returned (.tuple #[(atM l i).val, .bool (atB l i)]) ∧ Below w.heap.size w w' := by
  have hA := h.alloc (.cells Ms.zero.cells.toArray 51)
  have hunf : Ms.zero.cells.toArray = #[.int .i64 0, .int .i64 0, .int .i64 0, .int .i64 0, .int .i64 0, .int .i64 0, .int .i64 0, .string ⟨#[]⟩] := rfl
  rw [hunf] at hA
  have c0 := hA.c0
  by_cases h0 : 0 ≤ i
  · obtain ⟨k, rfl⟩ := Int.eq_ofNat_of_zero_le h0
    by_cases h1 : k < l.length
    · obtain ⟨m, hm⟩ : ∃ m, l[k]? = some m := ⟨_, List.getElem?_eq_getElem h1⟩
      have e1 : atM l (k : Int) = m := by rw [atM, if_pos h0]; simp [List.getD_eq_getElem?_getD, hm]
      have e2 : atB l (k : Int) = true := by rw [atB, decide_eq_true h0, decide_eq_true (by omega)]; rfl
      rw [e1, e2]
      obtain ⟨g, cap, rfl, hg, hc⟩ := hA.at hm
      have q0 := hc 0 _ rfl
      have q1 := hc 1 _ rfl
      have q2 := hc 2 _ rfl
      have q3 := hc 3 _ rfl
      have q4 := hc 4 _ rfl
      have q5 := hc 5 _ rfl
      have q6 := hc 6 _ rfl
      have q7 := hc 7 _ rfl
      rw [Nat.add_zero] at q0
      clear e1 e2 hm hc hA hunf
      unfold Ms.val
      go_enter Tryd.func56, Tryd.ntmps56
      go_wp2_with fail
      refine bodyPost_ret (v := .tuple #[(.agg #[.int .i64 m.kind, .int .i64 m.src, .int .i64 m.dst, .int .i64 m.epoch, .int .i64 m.seq, .int .i64 m.off, .int .i64 m.len, .string m.data]), .bool true]) (by simp [results, Tryd.results56, go_sem]) rfl ?_
      exact ⟨rfl, (Below.refl _ _).alloc (Nat.le_refl _) _⟩
    · have e1 : atM l (k : Int) = Ms.zero := by rw [atM, if_pos h0]; simp [List.getD_eq_getElem?_getD, List.getElem?_eq_none (show l.length ≤ k by omega)]
      have e2 : atB l (k : Int) = false := by rw [atB, decide_eq_false (show ¬ (k : Int) < (l.length : Int) by omega), Bool.and_false]
      rw [e1, e2]
      obtain ⟨a, cap, rfl⟩ := h.lens
      clear e1 e2 hA hunf
      go_enter Tryd.func56, Tryd.ntmps56
      go_wp2_with fail
      refine bodyPost_ret (v := .tuple #[(.agg #[.int .i64 0, .int .i64 0, .int .i64 0, .int .i64 0, .int .i64 0, .int .i64 0, .int .i64 0, .string ⟨#[]⟩]), .bool false]) (by simp [results, Tryd.results56, go_sem]) rfl ?_
      exact ⟨rfl, (Below.refl _ _).alloc (Nat.le_refl _) _⟩
  · have e1 : atM l i = Ms.zero := if_neg h0
    have e2 : atB l i = false := by rw [atB, decide_eq_false h0, Bool.false_and]
    rw [e1, e2]
    clear e1 e2 hA hunf c0
    go_enter Tryd.func56, Tryd.ntmps56
    go_wp2_with fail
    refine bodyPost_ret (v := .tuple #[(.agg #[.int .i64 0, .int .i64 0, .int .i64 0, .int .i64 0, .int .i64 0, .int .i64 0, .int .i64 0, .string ⟨#[]⟩]), .bool false]) (by simp [results, Tryd.results56, go_sem]) rfl ?_
    exact ⟨rfl, (Below.refl _ _).alloc (Nat.le_refl _) _⟩
set_option maxRecDepth 100000 in
set_option maxHeartbeats 1000000 in
/-- A row is copied: the copy lies apart. -/
theorem clone_any {l : List Ms} {v : Value} (h : w.ownsRow 0 51 8 v l.length (mrows l)) (hl : l.length ≤ 1000) :
    Calls Tryd.prog 61 #[v] w fun e w' => ∃ v', e = .returned v' ∧ w'.ownsRow w.heap.size 51 8 v' l.length (mrows l) ∧ Below w.heap.size w w' := by
  obtain ⟨i0, hi0, hz0, hz1, hz2⟩ := info_parts Tryd.infoMsg
  have Hi := Lib.hid hi0
  have Hz := Lib.hid hz0
  have Hz1 := Lib.hid hz1
  have Hz2 := Lib.hid hz2
  clear hi0 hz0 hz1 hz2
  rcases ownsRow_form h with ⟨rfl, h1⟩ | ⟨g, cap, rfl, -, hg, -⟩
  · have e1 : l.length = 0 := h1.1
    have e2 : mrows l = [] := h1.2
    rw [e1, e2]
    clear h h1 e1 e2
    have hnil := fun W => Lib.run_eql_slice_nil_nil (P := Tryd.prog) W 0 0 Tryd.underlying41
    go_enter Tryd.func61, Tryd.ntmps61
    go_wp2_with fail
    go_ret
    exact ⟨_, rfl, World.ownsRow_nil _ _ _ _, Below.refl _ _⟩
  · have hoA := h.alloc (.cells #[] 51)
    have hown0 : (w.alloc (.cells #[] 51)).ownsRow w.heap.size 51 8 (.slice (some ⟨w.heap.size, 0, none⟩) 0 0) 0 [] := World.ownsRow_lit (base := w.heap.size) (size := 8) (e := 51) w #[] 0 (Nat.le_refl _) (by unfold maxLen; omega) rfl
    have hml : 0 + l.length ≤ maxLen := by unfold maxLen; omega
    have hbs : w.heap.size ≤ (w.alloc (.cells #[] 51)).heap.size := by simp
    have hnil := fun W => Lib.run_eql_slice_some_nil (P := Tryd.prog) W ⟨g, 0, none⟩ l.length cap Tryd.underlying41
    go_enter Tryd.func61, Tryd.ntmps61
    go_wp2_with (refine wpList_append_rows rfl (.tmp 5) (.tmp 6) 41 rfl w.heap.size 51 i0 _ 8 72 Tryd.underlying41 Hi.out Hz.out Hz1.out Hz2.out rfl (by decide) _ 0 [] rfl hown0 (.slice (some ⟨g, 0, none⟩) l.length cap) 0 l.length (mrows l) rfl hoA (one_mrows _) hml (by omega) hbs ?_)
    intro v' w1 hown1 hgrow hat
    have hb1 : Below w.heap.size w w1 := ⟨hgrow.os, hgrow.tape, hgrow.output, by have := hgrow.size; simp at this; omega, fun k hk => (hgrow.block k (by simp; omega) (by simp only [Value.ownBlock, ne_eq, Option.some.injEq]; omega)).trans (Below.heap_alloc _ _ _ hk)⟩
    have H1 := Lib.hid hown1
    clear hown1 hgrow hat hoA hown0
    go_wp2_with fail
    go_ret
    exact ⟨_, rfl, H1.out, hb1⟩
set_option maxRecDepth 100000 in
set_option maxHeartbeats 1000000 in
theorem list_any (h : Has w b v l) (hl : l.length ≤ 1000) :
    Calls Tryd.prog 21 #[.pointer (some ⟨b, 0, none⟩)] w fun e w' => ∃ v', e = .returned v' ∧ w'.ownsRow w.heap.size 51 8 v' l.length (mrows l) ∧ Below w.heap.size w w' := by
  have c0 := h.c0
  have hc := clone_any h.own hl
  go_enter Tryd.func21, Tryd.ntmps21
  go_wp2_with fail
  refine hc.mono ?_
  rintro e w1 ⟨v', rfl, h1, h2⟩
  have H1 := Lib.hid h1
  clear h1 hc
  go_wp2_with fail
  go_ret
  exact ⟨_, rfl, H1.out, h2⟩
end
end Go.Proofs.YtkbncbkmaakpkaaDoor
