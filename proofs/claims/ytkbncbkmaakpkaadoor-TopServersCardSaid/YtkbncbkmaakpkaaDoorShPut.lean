/- shelf.Put. Printed by gen_shput.py. -/
import Derived.Test.YtkbncbkmaakpkaaDoorShW
namespace Go.Proofs.YtkbncbkmaakpkaaDoor
open Go.RowKit
/-- Both writes of a record: the error; the plate. -/
def putE (st : PS) (i : Int) (t0 t1 : List UInt8) : Int := if wrE st i t0 = 0 then wrE (wrS st i t0) i t1 else wrE st i t0
def putS (st : PS) (i : Int) (t0 t1 : List UInt8) : PS := if wrE st i t0 = 0 then wrS (wrS st i t0) i t1 else wrS st i t0
theorem Tabs.keep {w w' : World} (h : Tabs w) (hb : w'.heap[3]? = w.heap[3]?) : Tabs w' := fun i hi => (World.cell?_of_block (a := ⟨3, i, none⟩) hb).trans (h i hi)
theorem ShP.own {F X : Nat → Prop} {w w' : World} {b pb am um n : Nat} {A : Int → Option Pl} {U : Int → Bool} {bad err : Value} {st : PS} (h : ShP F w b pb am um n A U bad err st) (hm : Moves X w w') (hX : ∀ k, X k → F k) : ShP F w' b pb am um n A U bad err st := by
  obtain ⟨pv, h1, h2, h3, h4⟩ := h
  exact ⟨pv, h1.moves hm fun k hk hx => (h4 k (hX k hx)).2.2 hk, h2.moves hm fun k hk hx => (h4 k (hX k hx)).2.1 hk, h3, fun k hk => ⟨Nat.lt_of_lt_of_le (h4 k hk).1 hm.size, (h4 k hk).2⟩⟩
theorem id' {p : Prop} (h : p) : p := h
theorem PS.size_wrS (st : PS) (i : Int) (t : List UInt8) : (wrS st i t).size = st.size := by
  unfold wrS; split
  · rw [PS.size_syncS, PS.size_writeS]
  · rw [PS.size_writeS]
theorem PS.calls_wrS (st : PS) (i : Int) (t : List UInt8) : (wrS st i t).calls ≤ st.calls + 2 := by
  have h1 := PS.calls_writeS st i t
  have h2 := PS.calls_syncS (st.writeS i t)
  unfold wrS; split <;> omega
theorem PS.wait_wrS (st : PS) (i : Int) (t : List UInt8) : (wrS st i t).wait.length ≤ st.wait.length + 1 := by
  have h1 := PS.wait_writeS st i t
  have h2 := PS.wait_syncS (st.writeS i t)
  unfold wrS; split <;> omega
def PutPost (F : Nat → Prop) (w : World) (b pb am um n : Nat) (A A' : Int → Option Pl) (U U' : Int → Bool) (bad : Value) (e : Int) (st : PS) : Prop :=
  if e = 0 then ShP F w b pb am um (n + 1) A' U' bad .nilIface st else ShP F w b pb am um n A U bad (errV e .nilIface) st
/-- Both maps have turned. -/
theorem ShP.maps {F : Nat → Prop} {w w' : World} {b pb am um n m : Nat} {A A' : Int → Option Pl} {U U' : Int → Bool} {bad err : Value} {st : PS} (h : ShP F w b pb am um n A U bad err st) (h' : IsSh w' b pb am um m A' U' bad err) (hm : Moves (fun k => k = am ∨ k = um) w w') : ShP F w' b pb am um m A' U' bad err st ∧ Moves (NotF F) w w' := by
  obtain ⟨pv, h1, h2, h3, h4⟩ := h
  exact ⟨⟨pv, h', h2.moves hm fun k hk hb => by
    rcases hb with rfl | rfl
    · exact h3 _ (.inr (.inl rfl)) hk
    · exact h3 _ (.inr (.inr rfl)) hk, h3, fun k hk => ⟨Nat.lt_of_lt_of_le (h4 k hk).1 hm.size, (h4 k hk).2⟩⟩, hm.mono fun k _ hk hF => by
    rcases hk with rfl | rfl
    · exact (h4 _ hF).2.2 (.inr (.inl rfl))
    · exact (h4 _ hF).2.2 (.inr (.inr rfl))⟩
section
variable {F : Nat → Prop} {w : World} {b pb am um n : Nat} {A : Int → Option Pl} {U : Int → Bool} {bad : Value} {st : PS}
set_option maxRecDepth 100000 in
set_option maxHeartbeats 2000000 in
theorem shput_new (h : ShP F w b pb am um n A U bad .nilIface st) (hT : Tabs w) (hF3 : F 3) (hn : n < 1000000) (id ver : Nat) (d : ByteArray) (hi : id < 256) (hv0 : 1 ≤ ver) (hv : ver ≤ 1099511627776) (hd : d.size ≤ 16) (hA : A id = none)
    (m : Nat) (hU : ∀ j : Nat, j < m → U j = true) (hU2 : U m = false) (hms : m < st.size) (hs : st.size ≤ 128) (hoff : st.off = false) (hc : st.calls < 10000) (hw : st.wait.length < 10000) (t0 t1 : List UInt8) (ht0 : t0 = recB id ver d.data.toList 0) (ht1 : t1 = recB id ver d.data.toList 1) :
    Calls Tryd.prog 158 #[.pointer (some ⟨b, 0, none⟩), blkV id ver d] w fun e w' => e = .returned (.int .i64 (putE st m t0 t1)) ∧ Moves (NotF F) w w' ∧
      PutPost F w' b pb am um n A (updA A ⟨id, ver, d, m⟩) U (updU U m true) bad (putE st m t0 t1) (putS st m t0 t1) := by
  have wi : (Lit.int .i64 (id : Int)).wf = true := WalkArith.wf_i64 (by omega)
  have hb0 : Below w.heap.size w (w.alloc (.cells #[.int .i64 (id : Int), .int .i64 (ver : Int), .string d] 107)) := (Below.refl _ w).alloc (Nat.le_refl _) _
  have hr0 := record_ok (w := w.alloc (.cells #[.int .i64 (id : Int), .int .i64 (ver : Int), .string d] 107)) (hT.below hb0 hT.lt) id ver d 1 hi hv0 hv hd (by omega)
  have hbl : w.heap.size < (w.alloc (.cells #[.int .i64 (id : Int), .int .i64 (ver : Int), .string d] 107)).heap.size := by simp
  rw [← ht1] at hr0
  have HR0 := Lib.hid ht0
  have HR1 := Lib.hid ht1
  have l0 : t0.length ≤ 32 := by rw [ht0, length_recB _ _ _ _ hd]; omega
  have l1 : t1.length ≤ 32 := by rw [ht1, length_recB _ _ _ _ hd]; omega
  clear ht0 ht1
  have H := Lib.hid h
  have HT := Lib.hid hT
  have HB0 := Lib.hid hb0
  clear h hT hb0
  unfold blkV at hr0 ⊢
  go_enter Tryd.func158, Tryd.ntmps158
  go_wp2_with fail
  refine hr0.mono ?_
  rintro e w1 ⟨rfl, hb1⟩
  have hB1 := HB0.out.trans (hb1.mono HB0.out.size)
  have hG := H.out.also (G := fun k => F k ∨ k = w.heap.size) hB1 (fun k hk => by
    rcases hk with hk | rfl
    · exact .inl hk
    · exact .inr ⟨Nat.le_refl _, Nat.lt_of_lt_of_le hbl hb1.size⟩)
  obtain ⟨x0, x1, x2⟩ : w1.cell? ⟨w.heap.size, 0, none⟩ = some (.int .i64 (id : Int)) ∧ w1.cell? ⟨w.heap.size, 1, none⟩ = some (.int .i64 (ver : Int)) ∧ w1.cell? ⟨w.heap.size, 2, none⟩ = some (.string d) := by
    have hx : ∀ o, w1.cell? ⟨w.heap.size, o, none⟩ = (w.alloc (.cells #[.int .i64 (id : Int), .int .i64 (ver : Int), .string d] 107)).cell? ⟨w.heap.size, o, none⟩ := fun o => World.cell?_of_block (a := ⟨w.heap.size, o, none⟩) (hb1.block _ hbl)
    exact ⟨(hx 0).trans (by simp), (hx 1).trans (by simp), (hx 2).trans (by simp)⟩
  have hG2 := hG
  obtain ⟨pv, h1, h2, h3, h4⟩ := hG2
  have hpw := shpower_on h1 h2 hoff
  have hlo := lowest_any h1 m (by omega) hU hU2
  have hl1 := look_place (h1.below (Below.refl _ _).drew) id wi
  have hl2 := look_place (h1.below ((Below.refl _ _).alloc (Nat.le_refl _) (.cells #[.int .i64 0, .int .i64 0, .string ⟨#[]⟩, .int .i64 0] 276)).drew) id wi
  rw [hA] at hl1 hl2
  simp only [Option.map_none, Option.getD_none, Option.isSome_none] at hl1 hl2
  have c1 := h1.c1
  have hbx : w.heap.size < w1.heap.size := World.block_lt_of_cell? w1 _ x0
  have hbb := h1.bl
  have HG := Lib.hid hG
  have HB1 := Lib.hid hB1
  clear hr0 hb1 hG h1 h2 h3 h4
  go_wp2_with fail
  refine hpw.mono ?_
  rintro e w1 ⟨rfl, rfl⟩
  clear hpw
  go_wp2_with fail
  refine hlo.mono ?_
  rintro e w1 ⟨rfl, rfl⟩
  clear hlo
  go_wp2_with fail
  go_region_both
  all_goals
    clear hl1 hl2
    generalize hWW : (w1.alloc (.cells #[.int .i64 0, .int .i64 0, .string ⟨#[]⟩, .int .i64 0] 276)).drew = W
    have hbW : Below w1.heap.size w1 W := by rw [← hWW]; exact ((Below.refl _ _).alloc (Nat.le_refl _) _).drew
    have y1 : True := by trivial
    obtain ⟨z0, z1, z2⟩ : W.cell? ⟨w.heap.size, 0, none⟩ = some (.int .i64 (id : Int)) ∧ W.cell? ⟨w.heap.size, 1, none⟩ = some (.int .i64 (ver : Int)) ∧ W.cell? ⟨w.heap.size, 2, none⟩ = some (.string d) := by
      have hx : ∀ o, W.cell? ⟨w.heap.size, o, none⟩ = w1.cell? ⟨w.heap.size, o, none⟩ := fun o => World.cell?_of_block (a := ⟨w.heap.size, o, none⟩) (hbW.block _ hbx)
      exact ⟨(hx 0).trans x0, (hx 1).trans x1, (hx 2).trans x2⟩
    clear hWW
    have hGW := HG.out.below hbW
    have hBW := HB1.out.trans (hbW.mono HB1.out.size)
    obtain ⟨pv, h1, h2, h3, h4⟩ := id' hGW
    have c0 := h1.c0
    have c4 := h1.c4
    have hsz := size_any h2
    have hge : decide ((st.size : Int) ≤ (m : Int)) = false := by simp; omega
    have hWb : w.heap.size < W.heap.size := World.block_lt_of_cell? W _ z0
    have hrc := record_ok (w := W) (HT.out.below hBW HT.out.lt) id ver d 0 hi hv0 hv hd (by omega)
    rw [← HR0.out] at hrc
    unfold blkV at hrc
    have hmm := @run_makeMap Tryd.prog
    have HGW := Lib.hid hGW
    have HBW := Lib.hid hBW
    clear hGW hBW h1 h2 h3 h4 c1 x0 x1 x2 hbW
    go_wp2_with fail
    refine hsz.mono ?_
    rintro e W ⟨rfl, rfl⟩
    clear hsz
    go_wp2_with fail
    refine wp_loop_rounds 3 ?_
    rw [rounds_succ]
    go_wp2_with fail
    refine hrc.mono ?_
    rintro e w3 ⟨rfl, hb3⟩
    have hb3' : Below W.heap.size W (w3.alloc (.map #[] 0)) := hb3.alloc hb3.size _
    have hG4 := HGW.out.also (G := fun k => (F k ∨ k = w.heap.size) ∨ k = w3.heap.size) hb3' (fun k hk => by
      rcases hk with hk | rfl
      · exact .inl hk
      · exact .inr ⟨hb3.size, by simp⟩)
    have hmap : IMap Tryd.prog 3 (w3.alloc (.map #[] 0)) w3.heap.size 0 (fun _ => none) := IMap.made _ _ _
    have hM4 : Moves (NotF F) w (w3.alloc (.map #[] 0)) := Moves.of_below (HBW.out.trans (hb3'.mono HBW.out.size))
    have hT4 : Tabs (w3.alloc (.map #[] 0)) := (HT.out.below HBW.out HT.out.lt).below hb3' (HT.out.below HBW.out HT.out.lt).lt
    have hz4 : ∀ o, (w3.alloc (.map #[] 0)).cell? ⟨w.heap.size, o, none⟩ = W.cell? ⟨w.heap.size, o, none⟩ := fun o => World.cell?_of_block (a := ⟨w.heap.size, o, none⟩) (hb3'.block _ hWb)
    have hwn : w.heap.size ≤ w3.heap.size := Nat.le_trans HBW.out.size hb3.size
    have hwl : w.heap.size < w3.heap.size := Nat.lt_of_lt_of_le hWb hb3.size
    have HG4 := Lib.hid hG4
    have HMAP := Lib.hid hmap
    have HM4 := Lib.hid hM4
    have HT4 := Lib.hid hT4
    have HZ4 := Lib.hid hz4
    clear hrc hb3 hb3' hG4 hmap hM4 hT4 hz4
    go_wp2_with (first
      | (refine wpList_insert_int _ Tryd.underlying3 rfl (.tmp 70) (.tmp 71) (.tmp 72) 162 rfl Tryd.underlying162 w3.heap.size 0 _ rfl HMAP.out (by unfold maxLen; omega) (m : Int) (.string (bstr t0)) rfl rfl (WalkArith.wf_i64 (by omega)) ?_))
    intro w4 hmap4 hmv4
    have hG5 := HG4.out.own hmv4 (fun k hk => .inr hk)
    have hM5 : Moves (NotF F) w w4 := HM4.out.trans hmv4 fun i hi => .inr (by rw [hi]; exact hwn)
    have hT5 : Tabs w4 := HT4.out.keep (hmv4.block 3 HT4.out.lt (by have h1 := HT.out.lt; omega))
    obtain ⟨q0, q1, q2⟩ : w4.cell? ⟨w.heap.size, 0, none⟩ = some (.int .i64 (id : Int)) ∧ w4.cell? ⟨w.heap.size, 1, none⟩ = some (.int .i64 (ver : Int)) ∧ w4.cell? ⟨w.heap.size, 2, none⟩ = some (.string d) := by
      have hx : ∀ o, w4.cell? ⟨w.heap.size, o, none⟩ = W.cell? ⟨w.heap.size, o, none⟩ := fun o => (World.cell?_of_block (a := ⟨w.heap.size, o, none⟩) (hmv4.block w.heap.size (HG4.out.lt (.inl (.inr rfl))) (by omega))).trans (HZ4.out o)
      exact ⟨(hx 0).trans z0, (hx 1).trans z1, (hx 2).trans z2⟩
    have hwr := shwrite_any hG5 w3.heap.size (.inr rfl) m t0 l0 hms hs hmap4 (by omega) (by omega)
    have HM5 := Lib.hid hM5
    have HT5 := Lib.hid hT5
    clear hmap4 hmv4 hG5 hM5 hT5 HMAP HG4 HM4 HT4 HZ4 z0 z1 z2 hmm
    go_wp2_with fail
    refine hwr.mono ?_
    rintro e w5 ⟨rfl, hg6, hm6⟩
    have hM6 := HM5.out.trans hm6 (fun i hi => .inl fun h => hi (.inl (.inl h)))
    have hG6 := hg6.mono (G := fun k => F k ∨ k = w.heap.size) (fun k hk => .inl hk)
    have HM6 := Lib.hid hM6
    have HG6 := Lib.hid hG6
    by_cases he : wrE st m t0 = 0
    case neg =>
      have hpe : putE st m t0 t1 = wrE st m t0 := by unfold putE; rw [if_neg he]
      have hps : putS st m t0 t1 = wrS st m t0 := by unfold putS; rw [if_neg he]
      generalize hE : wrE st m t0 = er at he ⊢
      have hne : (er != 0) = true := by simpa using he
      rw [hE] at hpe
      have HPE := Lib.hid hpe
      have HPS := Lib.hid hps
      have HE := Lib.hid hE
      have HN := Lib.hid he
      clear hpe hps hE he hm6 hg6 hM6 hG6 hwr q0 q1 q2
      go_wp2_with fail
      go_ret
      refine ⟨by rw [HPE.out]; rfl, HM6.out, ?_⟩
      have hx := HG6.out.mono (G := F) fun k hk => .inl hk
      rw [HE.out] at hx
      unfold PutPost
      rw [HPE.out, HPS.out, if_neg HN.out]
      exact hx
    case pos =>
      have hpe : putE st m t0 t1 = wrE (wrS st m t0) m t1 := by unfold putE; rw [if_pos he]
      have hps : putS st m t0 t1 = wrS (wrS st m t0) m t1 := by unfold putS; rw [if_pos he]
      rw [he] at hG6 ⊢
      have hG6' : ShP (fun k => F k ∨ k = w.heap.size) w5 b pb am um n A U bad .nilIface (wrS st m t0) := hG6
      have hT6 : Tabs w5 := HT5.out.keep (hm6.block' HT5.out.lt (.inl (.inl hF3)))
      have hsz6 := PS.size_wrS st m t0
      have hca6 := PS.calls_wrS st m t0
      have hwa6 := PS.wait_wrS st m t0
      generalize wrS st m t0 = s1 at hG6' hpe hps hsz6 hca6 hwa6
      have hq4 : w.heap.size < w4.heap.size := World.block_lt_of_cell? w4 _ q0
      obtain ⟨p0, p1, p2⟩ : w5.cell? ⟨w.heap.size, 0, none⟩ = some (.int .i64 (id : Int)) ∧ w5.cell? ⟨w.heap.size, 1, none⟩ = some (.int .i64 (ver : Int)) ∧ w5.cell? ⟨w.heap.size, 2, none⟩ = some (.string d) := by
        have hx : ∀ o, w5.cell? ⟨w.heap.size, o, none⟩ = w4.cell? ⟨w.heap.size, o, none⟩ := fun o => World.cell?_of_block (a := ⟨w.heap.size, o, none⟩) (hm6.block' hq4 (.inl (.inr rfl)))
        exact ⟨(hx 0).trans q0, (hx 1).trans q1, (hx 2).trans q2⟩
      have hb5l : w.heap.size < w5.heap.size := World.block_lt_of_cell? w5 _ p0
      have hrc := record_ok hT6 id ver d 1 hi hv0 hv hd (by omega)
      rw [← HR1.out] at hrc
      unfold blkV at hrc
      have hmm := @run_makeMap Tryd.prog
      have HPE := Lib.hid hpe
      have HPS := Lib.hid hps
      have HT6 := Lib.hid hT6
      have HG7 := Lib.hid hG6'
      clear hpe hps he hm6 hg6 hM6 hG6 hG6' hT6 hwr q0 q1 q2 HG6
      go_wp2_with fail
      rw [rounds_succ]
      go_wp2_with fail
      refine hrc.mono ?_
      rintro e w6 ⟨rfl, hb6⟩
      have hb6' : Below w5.heap.size w5 (w6.alloc (.map #[] 0)) := hb6.alloc hb6.size _
      have hG8 := HG7.out.also (G := fun k => (F k ∨ k = w.heap.size) ∨ k = w6.heap.size) hb6' (fun k hk => by
        rcases hk with hk | rfl
        · exact .inl hk
        · exact .inr ⟨hb6.size, by simp⟩)
      have hmap : IMap Tryd.prog 3 (w6.alloc (.map #[] 0)) w6.heap.size 0 (fun _ => none) := IMap.made _ _ _
      have hM8 : Moves (NotF F) w (w6.alloc (.map #[] 0)) := HM6.out.trans (Moves.of_below (F := NotF F) hb6') fun i hi => .inl hi
      have hz8 : ∀ o, (w6.alloc (.map #[] 0)).cell? ⟨w.heap.size, o, none⟩ = w5.cell? ⟨w.heap.size, o, none⟩ := fun o => World.cell?_of_block (a := ⟨w.heap.size, o, none⟩) (hb6'.block _ hb5l)
      have hwn6 : w.heap.size ≤ w6.heap.size := Nat.le_trans (Nat.le_of_lt hb5l) hb6.size
      have hwl6 : w.heap.size < w6.heap.size := Nat.lt_of_lt_of_le hb5l hb6.size
      have HG8 := Lib.hid hG8
      have HMAP := Lib.hid hmap
      have HM8 := Lib.hid hM8
      have HZ8 := Lib.hid hz8
      clear hrc hb6 hb6' hG8 hmap hM8 hz8 HM6
      go_wp2_with (first
        | (refine wpList_insert_int _ Tryd.underlying3 rfl (.tmp 70) (.tmp 71) (.tmp 72) 162 rfl Tryd.underlying162 w6.heap.size 0 _ rfl HMAP.out (by unfold maxLen; omega) (m : Int) (.string (bstr t1)) rfl rfl (WalkArith.wf_i64 (by omega)) ?_))
      intro w7 hmap7 hmv7
      have hG9 := HG8.out.own hmv7 (fun k hk => .inr hk)
      have hM9 : Moves (NotF F) w w7 := HM8.out.trans hmv7 fun i hi => .inr (by rw [hi]; exact hwn6)
      obtain ⟨r0, r1, r2⟩ : w7.cell? ⟨w.heap.size, 0, none⟩ = some (.int .i64 (id : Int)) ∧ w7.cell? ⟨w.heap.size, 1, none⟩ = some (.int .i64 (ver : Int)) ∧ w7.cell? ⟨w.heap.size, 2, none⟩ = some (.string d) := by
        have hx : ∀ o, w7.cell? ⟨w.heap.size, o, none⟩ = w5.cell? ⟨w.heap.size, o, none⟩ := fun o => (World.cell?_of_block (a := ⟨w.heap.size, o, none⟩) (hmv7.block w.heap.size (HG8.out.lt (.inl (.inr rfl))) (by omega))).trans (HZ8.out o)
        exact ⟨(hx 0).trans p0, (hx 1).trans p1, (hx 2).trans p2⟩
      have hwr := shwrite_any hG9 w6.heap.size (.inr rfl) m t1 l1 (by omega) (by omega) hmap7 (by omega) (by omega)
      have HM9 := Lib.hid hM9
      clear hmap7 hmv7 hG9 hM9 HMAP HG8 HM8 HZ8 p0 p1 p2 hmm
      go_wp2_with fail
      refine hwr.mono ?_
      rintro e w8 ⟨rfl, hg10, hm10⟩
      have hM10 := HM9.out.trans hm10 (fun i hi => .inl fun h => hi (.inl (.inl h)))
      have hG10 := hg10.mono (G := fun k => F k ∨ k = w.heap.size) (fun k hk => .inl hk)
      rw [← HPE.out, ← HPS.out] at hG10
      rw [← HPE.out]
      have hq7 : w.heap.size < w7.heap.size := World.block_lt_of_cell? w7 _ r0
      obtain ⟨p0, p1, p2⟩ : w8.cell? ⟨w.heap.size, 0, none⟩ = some (.int .i64 (id : Int)) ∧ w8.cell? ⟨w.heap.size, 1, none⟩ = some (.int .i64 (ver : Int)) ∧ w8.cell? ⟨w.heap.size, 2, none⟩ = some (.string d) := by
        have hx : ∀ o, w8.cell? ⟨w.heap.size, o, none⟩ = w7.cell? ⟨w.heap.size, o, none⟩ := fun o => World.cell?_of_block (a := ⟨w.heap.size, o, none⟩) (hm10.block' hq7 (.inl (.inr rfl)))
        exact ⟨(hx 0).trans r0, (hx 1).trans r1, (hx 2).trans r2⟩
      have HM10 := Lib.hid hM10
      by_cases he2 : putE st m t0 t1 = 0
      case neg =>
        have HG10 := Lib.hid (hG10.mono (G := F) fun k hk => .inl hk)
        generalize hE : putE st m t0 t1 = er at he2 ⊢
        have hne : (er != 0) = true := by simpa using he2
        have HE := Lib.hid hE
        have HN := Lib.hid he2
        clear hE he2 hm10 hg10 hM10 hG10 hwr HPE HPS
        go_wp2_with fail
        go_ret
        refine ⟨by rw [HE.out]; rfl, HM10.out, ?_⟩
        have hx := HG10.out
        unfold PutPost
        rw [HE.out] at hx ⊢
        rw [if_neg HN.out]
        exact hx
      case pos =>
        rw [he2] at hG10 ⊢
        have hG11 : ShP (fun k => F k ∨ k = w.heap.size) w8 b pb am um n A U bad .nilIface (putS st m t0 t1) := hG10
        have hG12 := hG11
        obtain ⟨pv, q1, q2, q3, q4⟩ := hG12
        have hlay := lay_new q1 hn ⟨id, ver, d, m⟩ (by show id < 1000000; omega) (by show m < 1000000; omega) hA
        unfold Pl.val at hlay
        have HG11 := Lib.hid hG11
        have HE := Lib.hid he2
        clear he2 hm10 hg10 hM10 hG10 hG11 hwr HPE HPS q1 q2 q3 q4
        go_wp2_with fail
        rw [rounds_succ]
        go_wp2_with fail
        refine hlay.mono ?_
        rintro e w9 ⟨rfl, hs9, hm9⟩
        have hfin := HG11.out.maps hs9 hm9
        have HF := Lib.hid (hfin.1.mono (G := F) fun k hk => .inl hk)
        have HM := Lib.hid (HM10.out.trans hfin.2 (fun i hi => .inl fun h => hi (.inl h)))
        clear hlay hs9 hm9 hfin
        go_wp2_with fail
        go_ret
        exact ⟨by rw [HE.out]; rfl, HM.out, by unfold PutPost; rw [if_pos HE.out]; exact HF.out⟩
set_option maxRecDepth 100000 in
set_option maxHeartbeats 2000000 in
theorem shput_over (h : ShP F w b pb am um n A U bad .nilIface st) (hT : Tabs w) (hF3 : F 3) (hn : n < 1000000) (id ver : Nat) (d : ByteArray) (hi : id < 256) (hv0 : 1 ≤ ver) (hv : ver ≤ 1099511627776) (hd : d.size ≤ 16) (p : Pl) (hpa : p.at' < 1000000) (hA : A id = some p) (hpv : p.ver < ver)
    (m : Nat) (hU : ∀ j : Nat, j < m → U j = true) (hU2 : U m = false) (hms : m < st.size) (hs : st.size ≤ 128) (hoff : st.off = false) (hc : st.calls < 10000) (hw : st.wait.length < 10000) (t0 t1 : List UInt8) (ht0 : t0 = recB id ver d.data.toList 0) (ht1 : t1 = recB id ver d.data.toList 1) :
    Calls Tryd.prog 158 #[.pointer (some ⟨b, 0, none⟩), blkV id ver d] w fun e w' => e = .returned (.int .i64 (putE st m t0 t1)) ∧ Moves (NotF F) w w' ∧
      PutPost F w' b pb am um n A (updA A ⟨id, ver, d, m⟩) U (updU (updU U p.at' false) m true) bad (putE st m t0 t1) (putS st m t0 t1) := by
  have wi : (Lit.int .i64 (id : Int)).wf = true := WalkArith.wf_i64 (by omega)
  have hdv : decide ((ver : Int) ≤ (p.ver : Int)) = false := by simp; omega
  have hb0 : Below w.heap.size w (w.alloc (.cells #[.int .i64 (id : Int), .int .i64 (ver : Int), .string d] 107)) := (Below.refl _ w).alloc (Nat.le_refl _) _
  have hr0 := record_ok (w := w.alloc (.cells #[.int .i64 (id : Int), .int .i64 (ver : Int), .string d] 107)) (hT.below hb0 hT.lt) id ver d 1 hi hv0 hv hd (by omega)
  have hbl : w.heap.size < (w.alloc (.cells #[.int .i64 (id : Int), .int .i64 (ver : Int), .string d] 107)).heap.size := by simp
  rw [← ht1] at hr0
  have HR0 := Lib.hid ht0
  have HR1 := Lib.hid ht1
  have l0 : t0.length ≤ 32 := by rw [ht0, length_recB _ _ _ _ hd]; omega
  have l1 : t1.length ≤ 32 := by rw [ht1, length_recB _ _ _ _ hd]; omega
  clear ht0 ht1
  have H := Lib.hid h
  have HT := Lib.hid hT
  have HB0 := Lib.hid hb0
  clear h hT hb0
  unfold blkV at hr0 ⊢
  go_enter Tryd.func158, Tryd.ntmps158
  go_wp2_with fail
  refine hr0.mono ?_
  rintro e w1 ⟨rfl, hb1⟩
  have hB1 := HB0.out.trans (hb1.mono HB0.out.size)
  have hG := H.out.also (G := fun k => F k ∨ k = w.heap.size) hB1 (fun k hk => by
    rcases hk with hk | rfl
    · exact .inl hk
    · exact .inr ⟨Nat.le_refl _, Nat.lt_of_lt_of_le hbl hb1.size⟩)
  obtain ⟨x0, x1, x2⟩ : w1.cell? ⟨w.heap.size, 0, none⟩ = some (.int .i64 (id : Int)) ∧ w1.cell? ⟨w.heap.size, 1, none⟩ = some (.int .i64 (ver : Int)) ∧ w1.cell? ⟨w.heap.size, 2, none⟩ = some (.string d) := by
    have hx : ∀ o, w1.cell? ⟨w.heap.size, o, none⟩ = (w.alloc (.cells #[.int .i64 (id : Int), .int .i64 (ver : Int), .string d] 107)).cell? ⟨w.heap.size, o, none⟩ := fun o => World.cell?_of_block (a := ⟨w.heap.size, o, none⟩) (hb1.block _ hbl)
    exact ⟨(hx 0).trans (by simp), (hx 1).trans (by simp), (hx 2).trans (by simp)⟩
  have hG2 := hG
  obtain ⟨pv, h1, h2, h3, h4⟩ := hG2
  have hpw := shpower_on h1 h2 hoff
  have hlo := lowest_any h1 m (by omega) hU hU2
  have hl1 := look_place (h1.below (Below.refl _ _).drew) id wi
  have hl2 := look_place (h1.below ((Below.refl _ _).alloc (Nat.le_refl _) (.cells #[.int .i64 0, .int .i64 0, .string ⟨#[]⟩, .int .i64 0] 276)).drew) id wi
  rw [hA] at hl1 hl2
  simp only [Option.map_some, Option.getD_some, Option.isSome_some, Pl.val] at hl1 hl2
  have c1 := h1.c1
  have hbx : w.heap.size < w1.heap.size := World.block_lt_of_cell? w1 _ x0
  have hbb := h1.bl
  have HG := Lib.hid hG
  have HB1 := Lib.hid hB1
  clear hr0 hb1 hG h1 h2 h3 h4
  go_wp2_with fail
  refine hpw.mono ?_
  rintro e w1 ⟨rfl, rfl⟩
  clear hpw
  go_wp2_with fail
  refine hlo.mono ?_
  rintro e w1 ⟨rfl, rfl⟩
  clear hlo
  go_wp2_with fail
  go_region_both
  all_goals
    clear hl1 hl2
    generalize hWW : (w1.alloc (.cells #[.int .i64 (p.id : Int), .int .i64 (p.ver : Int), .string p.d, .int .i64 (p.at' : Int)] 276)).drew = W
    have hbW : Below w1.heap.size w1 W := by rw [← hWW]; exact ((Below.refl _ _).alloc (Nat.le_refl _) _).drew
    have y1 : W.cell? ⟨w1.heap.size, 1, none⟩ = some (.int .i64 (p.ver : Int)) := by rw [← hWW]; simp
    obtain ⟨z0, z1, z2⟩ : W.cell? ⟨w.heap.size, 0, none⟩ = some (.int .i64 (id : Int)) ∧ W.cell? ⟨w.heap.size, 1, none⟩ = some (.int .i64 (ver : Int)) ∧ W.cell? ⟨w.heap.size, 2, none⟩ = some (.string d) := by
      have hx : ∀ o, W.cell? ⟨w.heap.size, o, none⟩ = w1.cell? ⟨w.heap.size, o, none⟩ := fun o => World.cell?_of_block (a := ⟨w.heap.size, o, none⟩) (hbW.block _ hbx)
      exact ⟨(hx 0).trans x0, (hx 1).trans x1, (hx 2).trans x2⟩
    clear hWW
    have hGW := HG.out.below hbW
    have hBW := HB1.out.trans (hbW.mono HB1.out.size)
    obtain ⟨pv, h1, h2, h3, h4⟩ := id' hGW
    have c0 := h1.c0
    have c4 := h1.c4
    have hsz := size_any h2
    have hge : decide ((st.size : Int) ≤ (m : Int)) = false := by simp; omega
    have hWb : w.heap.size < W.heap.size := World.block_lt_of_cell? W _ z0
    have hrc := record_ok (w := W) (HT.out.below hBW HT.out.lt) id ver d 0 hi hv0 hv hd (by omega)
    rw [← HR0.out] at hrc
    unfold blkV at hrc
    have hmm := @run_makeMap Tryd.prog
    have HGW := Lib.hid hGW
    have HBW := Lib.hid hBW
    clear hGW hBW h1 h2 h3 h4 c1 x0 x1 x2 hbW
    go_wp2_with fail
    refine hsz.mono ?_
    rintro e W ⟨rfl, rfl⟩
    clear hsz
    go_wp2_with fail
    refine wp_loop_rounds 3 ?_
    rw [rounds_succ]
    go_wp2_with fail
    refine hrc.mono ?_
    rintro e w3 ⟨rfl, hb3⟩
    have hb3' : Below W.heap.size W (w3.alloc (.map #[] 0)) := hb3.alloc hb3.size _
    have hG4 := HGW.out.also (G := fun k => (F k ∨ k = w.heap.size) ∨ k = w3.heap.size) hb3' (fun k hk => by
      rcases hk with hk | rfl
      · exact .inl hk
      · exact .inr ⟨hb3.size, by simp⟩)
    have hmap : IMap Tryd.prog 3 (w3.alloc (.map #[] 0)) w3.heap.size 0 (fun _ => none) := IMap.made _ _ _
    have hM4 : Moves (NotF F) w (w3.alloc (.map #[] 0)) := Moves.of_below (HBW.out.trans (hb3'.mono HBW.out.size))
    have hT4 : Tabs (w3.alloc (.map #[] 0)) := (HT.out.below HBW.out HT.out.lt).below hb3' (HT.out.below HBW.out HT.out.lt).lt
    have hz4 : ∀ o, (w3.alloc (.map #[] 0)).cell? ⟨w.heap.size, o, none⟩ = W.cell? ⟨w.heap.size, o, none⟩ := fun o => World.cell?_of_block (a := ⟨w.heap.size, o, none⟩) (hb3'.block _ hWb)
    have hwn : w.heap.size ≤ w3.heap.size := Nat.le_trans HBW.out.size hb3.size
    have hwl : w.heap.size < w3.heap.size := Nat.lt_of_lt_of_le hWb hb3.size
    have HG4 := Lib.hid hG4
    have HMAP := Lib.hid hmap
    have HM4 := Lib.hid hM4
    have HT4 := Lib.hid hT4
    have HZ4 := Lib.hid hz4
    clear hrc hb3 hb3' hG4 hmap hM4 hT4 hz4
    go_wp2_with (first
      | (refine wpList_insert_int _ Tryd.underlying3 rfl (.tmp 70) (.tmp 71) (.tmp 72) 162 rfl Tryd.underlying162 w3.heap.size 0 _ rfl HMAP.out (by unfold maxLen; omega) (m : Int) (.string (bstr t0)) rfl rfl (WalkArith.wf_i64 (by omega)) ?_))
    intro w4 hmap4 hmv4
    have hG5 := HG4.out.own hmv4 (fun k hk => .inr hk)
    have hM5 : Moves (NotF F) w w4 := HM4.out.trans hmv4 fun i hi => .inr (by rw [hi]; exact hwn)
    have hT5 : Tabs w4 := HT4.out.keep (hmv4.block 3 HT4.out.lt (by have h1 := HT.out.lt; omega))
    obtain ⟨q0, q1, q2⟩ : w4.cell? ⟨w.heap.size, 0, none⟩ = some (.int .i64 (id : Int)) ∧ w4.cell? ⟨w.heap.size, 1, none⟩ = some (.int .i64 (ver : Int)) ∧ w4.cell? ⟨w.heap.size, 2, none⟩ = some (.string d) := by
      have hx : ∀ o, w4.cell? ⟨w.heap.size, o, none⟩ = W.cell? ⟨w.heap.size, o, none⟩ := fun o => (World.cell?_of_block (a := ⟨w.heap.size, o, none⟩) (hmv4.block w.heap.size (HG4.out.lt (.inl (.inr rfl))) (by omega))).trans (HZ4.out o)
      exact ⟨(hx 0).trans z0, (hx 1).trans z1, (hx 2).trans z2⟩
    have hwr := shwrite_any hG5 w3.heap.size (.inr rfl) m t0 l0 hms hs hmap4 (by omega) (by omega)
    have HM5 := Lib.hid hM5
    have HT5 := Lib.hid hT5
    clear hmap4 hmv4 hG5 hM5 hT5 HMAP HG4 HM4 HT4 HZ4 z0 z1 z2 hmm
    go_wp2_with fail
    refine hwr.mono ?_
    rintro e w5 ⟨rfl, hg6, hm6⟩
    have hM6 := HM5.out.trans hm6 (fun i hi => .inl fun h => hi (.inl (.inl h)))
    have hG6 := hg6.mono (G := fun k => F k ∨ k = w.heap.size) (fun k hk => .inl hk)
    have HM6 := Lib.hid hM6
    have HG6 := Lib.hid hG6
    by_cases he : wrE st m t0 = 0
    case neg =>
      have hpe : putE st m t0 t1 = wrE st m t0 := by unfold putE; rw [if_neg he]
      have hps : putS st m t0 t1 = wrS st m t0 := by unfold putS; rw [if_neg he]
      generalize hE : wrE st m t0 = er at he ⊢
      have hne : (er != 0) = true := by simpa using he
      rw [hE] at hpe
      have HPE := Lib.hid hpe
      have HPS := Lib.hid hps
      have HE := Lib.hid hE
      have HN := Lib.hid he
      clear hpe hps hE he hm6 hg6 hM6 hG6 hwr q0 q1 q2
      go_wp2_with fail
      go_ret
      refine ⟨by rw [HPE.out]; rfl, HM6.out, ?_⟩
      have hx := HG6.out.mono (G := F) fun k hk => .inl hk
      rw [HE.out] at hx
      unfold PutPost
      rw [HPE.out, HPS.out, if_neg HN.out]
      exact hx
    case pos =>
      have hpe : putE st m t0 t1 = wrE (wrS st m t0) m t1 := by unfold putE; rw [if_pos he]
      have hps : putS st m t0 t1 = wrS (wrS st m t0) m t1 := by unfold putS; rw [if_pos he]
      rw [he] at hG6 ⊢
      have hG6' : ShP (fun k => F k ∨ k = w.heap.size) w5 b pb am um n A U bad .nilIface (wrS st m t0) := hG6
      have hT6 : Tabs w5 := HT5.out.keep (hm6.block' HT5.out.lt (.inl (.inl hF3)))
      have hsz6 := PS.size_wrS st m t0
      have hca6 := PS.calls_wrS st m t0
      have hwa6 := PS.wait_wrS st m t0
      generalize wrS st m t0 = s1 at hG6' hpe hps hsz6 hca6 hwa6
      have hq4 : w.heap.size < w4.heap.size := World.block_lt_of_cell? w4 _ q0
      obtain ⟨p0, p1, p2⟩ : w5.cell? ⟨w.heap.size, 0, none⟩ = some (.int .i64 (id : Int)) ∧ w5.cell? ⟨w.heap.size, 1, none⟩ = some (.int .i64 (ver : Int)) ∧ w5.cell? ⟨w.heap.size, 2, none⟩ = some (.string d) := by
        have hx : ∀ o, w5.cell? ⟨w.heap.size, o, none⟩ = w4.cell? ⟨w.heap.size, o, none⟩ := fun o => World.cell?_of_block (a := ⟨w.heap.size, o, none⟩) (hm6.block' hq4 (.inl (.inr rfl)))
        exact ⟨(hx 0).trans q0, (hx 1).trans q1, (hx 2).trans q2⟩
      have hb5l : w.heap.size < w5.heap.size := World.block_lt_of_cell? w5 _ p0
      have hrc := record_ok hT6 id ver d 1 hi hv0 hv hd (by omega)
      rw [← HR1.out] at hrc
      unfold blkV at hrc
      have hmm := @run_makeMap Tryd.prog
      have HPE := Lib.hid hpe
      have HPS := Lib.hid hps
      have HT6 := Lib.hid hT6
      have HG7 := Lib.hid hG6'
      clear hpe hps he hm6 hg6 hM6 hG6 hG6' hT6 hwr q0 q1 q2 HG6
      go_wp2_with fail
      rw [rounds_succ]
      go_wp2_with fail
      refine hrc.mono ?_
      rintro e w6 ⟨rfl, hb6⟩
      have hb6' : Below w5.heap.size w5 (w6.alloc (.map #[] 0)) := hb6.alloc hb6.size _
      have hG8 := HG7.out.also (G := fun k => (F k ∨ k = w.heap.size) ∨ k = w6.heap.size) hb6' (fun k hk => by
        rcases hk with hk | rfl
        · exact .inl hk
        · exact .inr ⟨hb6.size, by simp⟩)
      have hmap : IMap Tryd.prog 3 (w6.alloc (.map #[] 0)) w6.heap.size 0 (fun _ => none) := IMap.made _ _ _
      have hM8 : Moves (NotF F) w (w6.alloc (.map #[] 0)) := HM6.out.trans (Moves.of_below (F := NotF F) hb6') fun i hi => .inl hi
      have hz8 : ∀ o, (w6.alloc (.map #[] 0)).cell? ⟨w.heap.size, o, none⟩ = w5.cell? ⟨w.heap.size, o, none⟩ := fun o => World.cell?_of_block (a := ⟨w.heap.size, o, none⟩) (hb6'.block _ hb5l)
      have hwn6 : w.heap.size ≤ w6.heap.size := Nat.le_trans (Nat.le_of_lt hb5l) hb6.size
      have hwl6 : w.heap.size < w6.heap.size := Nat.lt_of_lt_of_le hb5l hb6.size
      have HG8 := Lib.hid hG8
      have HMAP := Lib.hid hmap
      have HM8 := Lib.hid hM8
      have HZ8 := Lib.hid hz8
      clear hrc hb6 hb6' hG8 hmap hM8 hz8 HM6
      go_wp2_with (first
        | (refine wpList_insert_int _ Tryd.underlying3 rfl (.tmp 70) (.tmp 71) (.tmp 72) 162 rfl Tryd.underlying162 w6.heap.size 0 _ rfl HMAP.out (by unfold maxLen; omega) (m : Int) (.string (bstr t1)) rfl rfl (WalkArith.wf_i64 (by omega)) ?_))
      intro w7 hmap7 hmv7
      have hG9 := HG8.out.own hmv7 (fun k hk => .inr hk)
      have hM9 : Moves (NotF F) w w7 := HM8.out.trans hmv7 fun i hi => .inr (by rw [hi]; exact hwn6)
      obtain ⟨r0, r1, r2⟩ : w7.cell? ⟨w.heap.size, 0, none⟩ = some (.int .i64 (id : Int)) ∧ w7.cell? ⟨w.heap.size, 1, none⟩ = some (.int .i64 (ver : Int)) ∧ w7.cell? ⟨w.heap.size, 2, none⟩ = some (.string d) := by
        have hx : ∀ o, w7.cell? ⟨w.heap.size, o, none⟩ = w5.cell? ⟨w.heap.size, o, none⟩ := fun o => (World.cell?_of_block (a := ⟨w.heap.size, o, none⟩) (hmv7.block w.heap.size (HG8.out.lt (.inl (.inr rfl))) (by omega))).trans (HZ8.out o)
        exact ⟨(hx 0).trans p0, (hx 1).trans p1, (hx 2).trans p2⟩
      have hwr := shwrite_any hG9 w6.heap.size (.inr rfl) m t1 l1 (by omega) (by omega) hmap7 (by omega) (by omega)
      have HM9 := Lib.hid hM9
      clear hmap7 hmv7 hG9 hM9 HMAP HG8 HM8 HZ8 p0 p1 p2 hmm
      go_wp2_with fail
      refine hwr.mono ?_
      rintro e w8 ⟨rfl, hg10, hm10⟩
      have hM10 := HM9.out.trans hm10 (fun i hi => .inl fun h => hi (.inl (.inl h)))
      have hG10 := hg10.mono (G := fun k => F k ∨ k = w.heap.size) (fun k hk => .inl hk)
      rw [← HPE.out, ← HPS.out] at hG10
      rw [← HPE.out]
      have hq7 : w.heap.size < w7.heap.size := World.block_lt_of_cell? w7 _ r0
      obtain ⟨p0, p1, p2⟩ : w8.cell? ⟨w.heap.size, 0, none⟩ = some (.int .i64 (id : Int)) ∧ w8.cell? ⟨w.heap.size, 1, none⟩ = some (.int .i64 (ver : Int)) ∧ w8.cell? ⟨w.heap.size, 2, none⟩ = some (.string d) := by
        have hx : ∀ o, w8.cell? ⟨w.heap.size, o, none⟩ = w7.cell? ⟨w.heap.size, o, none⟩ := fun o => World.cell?_of_block (a := ⟨w.heap.size, o, none⟩) (hm10.block' hq7 (.inl (.inr rfl)))
        exact ⟨(hx 0).trans r0, (hx 1).trans r1, (hx 2).trans r2⟩
      have HM10 := Lib.hid hM10
      by_cases he2 : putE st m t0 t1 = 0
      case neg =>
        have HG10 := Lib.hid (hG10.mono (G := F) fun k hk => .inl hk)
        generalize hE : putE st m t0 t1 = er at he2 ⊢
        have hne : (er != 0) = true := by simpa using he2
        have HE := Lib.hid hE
        have HN := Lib.hid he2
        clear hE he2 hm10 hg10 hM10 hG10 hwr HPE HPS
        go_wp2_with fail
        go_ret
        refine ⟨by rw [HE.out]; rfl, HM10.out, ?_⟩
        have hx := HG10.out
        unfold PutPost
        rw [HE.out] at hx ⊢
        rw [if_neg HN.out]
        exact hx
      case pos =>
        rw [he2] at hG10 ⊢
        have hG11 : ShP (fun k => F k ∨ k = w.heap.size) w8 b pb am um n A U bad .nilIface (putS st m t0 t1) := hG10
        have hG12 := hG11
        obtain ⟨pv, q1, q2, q3, q4⟩ := hG12
        have hlay := lay_over q1 hn ⟨id, ver, d, m⟩ p (by show id < 1000000; omega) (by show m < 1000000; omega) hpa hA hpv
        unfold Pl.val at hlay
        have HG11 := Lib.hid hG11
        have HE := Lib.hid he2
        clear he2 hm10 hg10 hM10 hG10 hG11 hwr HPE HPS q1 q2 q3 q4
        go_wp2_with fail
        rw [rounds_succ]
        go_wp2_with fail
        refine hlay.mono ?_
        rintro e w9 ⟨rfl, hs9, hm9⟩
        have hfin := HG11.out.maps hs9 hm9
        have HF := Lib.hid (hfin.1.mono (G := F) fun k hk => .inl hk)
        have HM := Lib.hid (HM10.out.trans hfin.2 (fun i hi => .inl fun h => hi (.inl h)))
        clear hlay hs9 hm9 hfin
        go_wp2_with fail
        go_ret
        exact ⟨by rw [HE.out]; rfl, HM.out, by unfold PutPost; rw [if_pos HE.out]; exact HF.out⟩
end
end Go.Proofs.YtkbncbkmaakpkaaDoor
