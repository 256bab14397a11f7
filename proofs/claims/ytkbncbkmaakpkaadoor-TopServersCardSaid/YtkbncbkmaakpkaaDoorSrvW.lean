/- The server's write. Printed by gen_swrite.py. -/
import Derived.Test.YtkbncbkmaakpkaaDoorSrvB
import Derived.Laws.StructEq
import Derived.Deep.CutBlock
import Derived.Deep.DeepCutAuto
import Derived.Deep.CutRange
namespace Go.Proofs.YtkbncbkmaakpkaaDoor
open Go.RowKit
def updK (T : Int → Option (Int × Int)) (i : Int) (x : Int × Int) (j : Int) : Option (Int × Int) := if j = i then some x else T j
theorem updK_val (T : Int → Option (Int × Int)) (i : Int) (x : Int × Int) : (fun j => if j = i then some (knV x) else (T j).map knV) = fun j => (updK T i x j).map knV := by
  funext j; unfold updK; split <;> rfl
def WrPost (F : Nat → Prop) (w : World) (sb pb b am um tm km n nt : Nat) (A A' : Int → Option Pl) (U U' : Int → Bool) (st : PS) (T : Int → Option Int) (Kn : Int → Option (Int × Int)) (s q e : Int) : Prop :=
  if e = 0 then Srv F w sb pb b am um tm km (n + 1) (nt + 1) A' U' .nilIface st T (updK Kn s (q, 0)) else Srv F w sb pb b am um tm km n (nt + 1) A U (errV e .nilIface) st T (updK Kn s (q, e))
/-- Two blocks of unlike versions. -/
theorem blk_neq (i v v' : Int) (d d' : ByteArray) (h : v ≠ v') (w : World) : (binOp .neq 107 (.agg #[.int .i64 i, .int .i64 v, .string d]) (.agg #[.int .i64 i, .int .i64 v', .string d'])).run Tryd.prog w = .ok (.bool true) w := by
  have h0 : (v == v') = false := by simpa using h
  go_simp
theorem Tryd.zKnown (w : World) : (zeroValue 320).run Tryd.prog w = .ok (.agg #[.int .i64 0, .int .i64 0]) w := by kernel_rfl
theorem Tryd.zInt (w : World) : (zeroValue 3).run Tryd.prog w = .ok (.int .i64 0) w := by kernel_rfl
section
variable {F : Nat → Prop} {w w' : World} {sb pb b am um tm km n nt : Nat} {A : Int → Option Pl} {U : Int → Bool} {err : Value} {st : PS} {T : Int → Option Int} {Kn : Int → Option (Int × Int)}
theorem look_time (h : Srv F w sb pb b am um tm km n nt A U err st T Kn) (i : Int) (hi : (Lit.int .i64 i).wf = true) (x : Int) (hx : T i = some x) : (Instr.lookup 101 (.map (some tm)) (.int .i64 i) true).run Tryd.prog w = .ok (.tuple #[.int .i64 x, .bool true]) w := by
  obtain ⟨f, h1, h2⟩ := h.mt
  have := h1.look (Maps.int_keyed Tryd.underlying3) Tryd.underlying101 (Tryd.zInt w) (Maps.keyOf_int_mk Tryd.underlying3 hi)
  rw [this, h2]
  dsimp only
  rw [hx]
  rfl
theorem look_known (h : Srv F w sb pb b am um tm km n nt A U err st T Kn) (i : Int) (hi : (Lit.int .i64 i).wf = true) : (Instr.lookup 102 (.map (some km)) (.int .i64 i) true).run Tryd.prog w = .ok (.tuple #[((Kn i).map knV).getD (.agg #[.int .i64 0, .int .i64 0]), .bool (Kn i).isSome]) w := by
  obtain ⟨f, h1, h2⟩ := h.mn
  have := h1.look (Maps.int_keyed Tryd.underlying3) Tryd.underlying102 (Tryd.zKnown w) (Maps.keyOf_int_mk Tryd.underlying3 hi)
  rw [this, h2]
  simp
set_option maxRecDepth 100000 in
set_option maxHeartbeats 4000000 in
theorem swrite_new (h : Srv F w sb pb b am um tm km n nt A U .nilIface st T Kn) (hT : Tabs w) (hF3 : F 3) (hn : n < 1000000) (hnt : nt < 1000000) (k0 k2 k6 : Int) (s q o ver : Nat) (d : ByteArray) (hs : s < 8) (ho : o < 256) (hv0 : 1 ≤ ver) (hv : ver ≤ 1099511627776) (hd : d.size ≤ 16)
    (tv now : Int) (htv : T s = some tv) (hnow : now ≤ tv) (hKn : Kn s = none) (hA : A o = none)
    (mm : Nat) (hU : ∀ j : Nat, j < mm → U j = true) (hU2 : U mm = false) (hms : mm < st.size) (hss : st.size ≤ 128) (hoff : st.off = false) (hc : st.calls < 10000) (hw : st.wait.length < 10000) (t0 t1 : List UInt8) (ht0 : t0 = recB o ver d.data.toList 0) (ht1 : t1 = recB o ver d.data.toList 1) :
    Calls Tryd.prog 132 #[.pointer (some ⟨sb, 0, none⟩), .agg #[.int .i64 k0, .int .i64 (s : Int), .int .i64 k2, .int .i64 0, .int .i64 (q : Int), .int .i64 (o : Int), .int .i64 k6, .string (bstr (encB ver d))], .int .i64 now] w fun e w' => e = .returned (.int .i64 (putE st mm t0 t1)) ∧ Moves (NotF F) w w' ∧
      WrPost F w' sb pb b am um tm km n nt A (updA A ⟨o, ver, d, mm⟩) U (updU U mm true) (putS st mm t0 t1) T Kn s q (putE st mm t0 t1) := by
  have hsw : (Lit.int .i64 (s : Int)).wf = true := WalkArith.wf_i64 (by omega)
  have hnw : decide (tv < now) = false := by simp; omega
  have hall : ∀ W, Below (w.alloc (.cells #[.int .i64 k0, .int .i64 (s : Int), .int .i64 k2, .int .i64 0, .int .i64 (q : Int), .int .i64 (o : Int), .int .i64 k6, .string (bstr (encB ver d))] 51)).heap.size (w.alloc (.cells #[.int .i64 k0, .int .i64 (s : Int), .int .i64 k2, .int .i64 0, .int .i64 (q : Int), .int .i64 (o : Int), .int .i64 k6, .string (bstr (encB ver d))] 51)) W → (Srv (fun k => F k ∨ k = w.heap.size) W sb pb b am um tm km n nt A U .nilIface st T Kn ∧ Tabs W) ∧ W.cell? ⟨w.heap.size, 1, none⟩ = some (.int .i64 (s : Int)) ∧ W.cell? ⟨w.heap.size, 3, none⟩ = some (.int .i64 0) ∧ W.cell? ⟨w.heap.size, 4, none⟩ = some (.int .i64 (q : Int)) ∧ W.cell? ⟨w.heap.size, 5, none⟩ = some (.int .i64 (o : Int)) ∧ W.cell? ⟨w.heap.size, 7, none⟩ = some (.string (bstr (encB ver d))) ∧ Below w.heap.size w W := fun W hW => by
    have hb0 : Below w.heap.size w (w.alloc (.cells #[.int .i64 k0, .int .i64 (s : Int), .int .i64 k2, .int .i64 0, .int .i64 (q : Int), .int .i64 (o : Int), .int .i64 k6, .string (bstr (encB ver d))] 51)) := (Below.refl _ _).alloc (Nat.le_refl _) _
    have hb := hb0.trans (hW.mono hb0.size)
    have hl : w.heap.size < (w.alloc (.cells #[.int .i64 k0, .int .i64 (s : Int), .int .i64 k2, .int .i64 0, .int .i64 (q : Int), .int .i64 (o : Int), .int .i64 k6, .string (bstr (encB ver d))] 51)).heap.size := by simp
    have hx : ∀ i, W.cell? ⟨w.heap.size, i, none⟩ = (w.alloc (.cells #[.int .i64 k0, .int .i64 (s : Int), .int .i64 k2, .int .i64 0, .int .i64 (q : Int), .int .i64 (o : Int), .int .i64 k6, .string (bstr (encB ver d))] 51)).cell? ⟨w.heap.size, i, none⟩ := fun i => World.cell?_of_block (a := ⟨w.heap.size, i, none⟩) (hW.block _ hl)
    exact ⟨⟨h.also hb fun k hk => hk.imp id (fun e => by subst e; exact ⟨Nat.le_refl _, Nat.lt_of_lt_of_le hl hW.size⟩), hT.below hb hT.lt⟩, (hx 1).trans (by simp), (hx 3).trans (by simp), (hx 4).trans (by simp), (hx 5).trans (by simp), (hx 7).trans (by simp), hb⟩
  have HALL := Lib.hid hall
  have H := Lib.hid h
  have HKn := Lib.hid hKn
  have HA := Lib.hid hA
  have HTV := Lib.hid htv
  have HT0 := Lib.hid ht0
  have HT1 := Lib.hid ht1
  have HU := Lib.hid hU
  clear hall h hT hKn hA htv ht0 ht1 hU
  go_enter Tryd.func132, Tryd.ntmps132
  obtain ⟨⟨h0, -⟩, q1, q3, q4, q5, q7, -⟩ := HALL.out _ (Below.refl _ _)
  have c3 := h0.c3
  clear h0
  go_wp2_with fail
  go_quiet (fail)
  generalize hW : (w.alloc (.cells #[.int .i64 k0, .int .i64 (s : Int), .int .i64 k2, .int .i64 0, .int .i64 (q : Int), .int .i64 (o : Int), .int .i64 k6, .string (bstr (encB ver d))] 51)).drewN nq = W1
  have hb1 : Below (w.alloc (.cells #[.int .i64 k0, .int .i64 (s : Int), .int .i64 k2, .int .i64 0, .int .i64 (q : Int), .int .i64 (o : Int), .int .i64 k6, .string (bstr (encB ver d))] 51)).heap.size (w.alloc (.cells #[.int .i64 k0, .int .i64 (s : Int), .int .i64 k2, .int .i64 0, .int .i64 (q : Int), .int .i64 (o : Int), .int .i64 k6, .string (bstr (encB ver d))] 51)) W1 := by rw [← hW]; exact ⟨rfl, rfl, rfl, Nat.le_refl _, fun _ _ => rfl⟩
  clear hW q1 q3 q4 q5 q7 c3
  obtain ⟨-, q1, q3, q4, q5, q7, -⟩ := HALL.out _ hb1
  have hpv2 := parseV_any (w := W1) ver d hv hd
  have HB1 := Lib.hid hb1
  clear hb1
  go_wp2_with fail
  refine hpv2.mono ?_
  rintro e w2 ⟨rfl, hb2⟩
  have hb2' := HB1.out.trans (hb2.mono HB1.out.size)
  clear hpv2 hb2 q1 q3 q4 q5 q7
  obtain ⟨⟨h2, -⟩, q1, q3, q4, q5, q7, -⟩ := HALL.out _ hb2'
  have c4 := h2.c4
  have hl : ∀ j, (Instr.lookup 101 (.map (some tm)) (.int .i64 (s : Int)) true).run Tryd.prog (w2.drewN j) = .ok (.tuple #[.int .i64 tv, .bool true]) (w2.drewN j) := fun j => look_time (h2.below (w' := w2.drewN j) ⟨rfl, rfl, rfl, Nat.le_refl _, fun _ _ => rfl⟩) s hsw tv HTV.out
  have HB2 := Lib.hid hb2'
  clear hb2' h2
  go_wp2_with fail
  go_quiet (fail)
  generalize hW : w2.drewN nq = W3
  have hb3 : Below (w.alloc (.cells #[.int .i64 k0, .int .i64 (s : Int), .int .i64 k2, .int .i64 0, .int .i64 (q : Int), .int .i64 (o : Int), .int .i64 k6, .string (bstr (encB ver d))] 51)).heap.size (w.alloc (.cells #[.int .i64 k0, .int .i64 (s : Int), .int .i64 k2, .int .i64 0, .int .i64 (q : Int), .int .i64 (o : Int), .int .i64 k6, .string (bstr (encB ver d))] 51)) W3 := by rw [← hW]; exact HB2.out.trans ⟨rfl, rfl, rfl, Nat.le_refl _, fun _ _ => rfl⟩
  clear hW q1 q3 q4 q5 q7 c4 hl
  obtain ⟨⟨h3, -⟩, q1, q3, q4, q5, q7, -⟩ := HALL.out _ hb3
  have c5 := h3.c5
  have hsb3 := h3.bl
  have hbx3 : w.heap.size < W3.heap.size := World.block_lt_of_cell? W3 _ q1
  have hl1 := look_known (h3.below (w' := W3.drew) ⟨rfl, rfl, rfl, Nat.le_refl _, fun _ _ => rfl⟩) s hsw
  have hl2 := look_known (h3.below (((Below.refl _ _).alloc (Nat.le_refl _) (.cells #[.int .i64 0, .int .i64 0] 320)).drew)) s hsw
  rw [HKn.out] at hl1 hl2
  simp only [Option.map_none, Option.getD_none, Option.isSome_none] at hl1 hl2
  have HB3 := Lib.hid hb3
  clear hb3 h3
  go_wp2_with fail
  go_cut [12, 13] from 44 (fun s12 s13 wc => s12 = .pointer (some ⟨W3.heap.size, 0, none⟩) ∧ s13 = .bool false ∧ wc = (W3.alloc (.cells #[.int .i64 0, .int .i64 0] 320)).drew)
  case first =>
    go_region_both
    all_goals
      go_wp2_with fail
      go_meet
      exact ⟨rfl, rfl, rfl⟩
  case rest =>
    obtain ⟨rfl, rfl, hW⟩ := hcut
    clear hl1 hl2 c5 hsb3
    have hb4 : Below (w.alloc (.cells #[.int .i64 k0, .int .i64 (s : Int), .int .i64 k2, .int .i64 0, .int .i64 (q : Int), .int .i64 (o : Int), .int .i64 k6, .string (bstr (encB ver d))] 51)).heap.size (w.alloc (.cells #[.int .i64 k0, .int .i64 (s : Int), .int .i64 k2, .int .i64 0, .int .i64 (q : Int), .int .i64 (o : Int), .int .i64 k6, .string (bstr (encB ver d))] 51)) wc := by rw [hW]; exact (HB3.out.alloc HB3.out.size _).drew
    have y0 : wc.cell? ⟨W3.heap.size, 0, none⟩ = some (.int .i64 0) := by rw [hW]; simp
    clear hW q1 q3 q4 q5 q7
    obtain ⟨⟨h4, -⟩, q1, q3, q4, q5, q7, -⟩ := HALL.out _ hb4
    have HB4 := Lib.hid hb4
    clear hb4 h4
    go_wp2_with fail
    generalize hW : wc.alloc (.cells #[.int .i64 (o : Int), .int .i64 (ver : Int), .string d] 107) = W5
    have hb5 : Below (w.alloc (.cells #[.int .i64 k0, .int .i64 (s : Int), .int .i64 k2, .int .i64 0, .int .i64 (q : Int), .int .i64 (o : Int), .int .i64 k6, .string (bstr (encB ver d))] 51)).heap.size (w.alloc (.cells #[.int .i64 k0, .int .i64 (s : Int), .int .i64 k2, .int .i64 0, .int .i64 (q : Int), .int .i64 (o : Int), .int .i64 k6, .string (bstr (encB ver d))] 51)) W5 := by rw [← hW]; exact HB4.out.alloc HB4.out.size _
    obtain ⟨z0, z1, z2⟩ : W5.cell? ⟨wc.heap.size, 0, none⟩ = some (.int .i64 (o : Int)) ∧ W5.cell? ⟨wc.heap.size, 1, none⟩ = some (.int .i64 (ver : Int)) ∧ W5.cell? ⟨wc.heap.size, 2, none⟩ = some (.string d) := by rw [← hW]; exact ⟨by simp, by simp, by simp⟩
    clear hW q1 q3 q4 q5 q7 y0
    generalize wc.heap.size = NB at z0 z1 z2 ⊢
    have hgt : ∀ W, Below W5.heap.size W5 W → Calls Tryd.prog 92 #[.pointer (some ⟨b, 0, none⟩), .int .i64 (o : Int)] W fun e w' => e = .returned (.tuple #[blkZ, .int .i64 3]) ∧ Below W5.heap.size W5 w' := fun W hW => by
      obtain ⟨⟨h5, -⟩, -⟩ := HALL.out W (hb5.trans (hW.mono hb5.size))
      obtain ⟨pv, g1, -⟩ := h5.sh
      exact (shget_none g1 (o : Int) (WalkArith.wf_i64 (by omega)) HA.out).mono fun e w' h => ⟨h.1, hW.trans (h.2.mono hW.size)⟩
    have hS : ∀ W, Below W5.heap.size W5 W → W.cell? ⟨sb, 2, none⟩ = some (.pointer (some ⟨b, 0, none⟩)) ∧ W.cell? ⟨w.heap.size, 5, none⟩ = some (.int .i64 (o : Int)) := fun W hW => by
      obtain ⟨⟨h5, -⟩, -, -, -, q5, -, -⟩ := HALL.out W (hb5.trans (hW.mono hb5.size))
      exact ⟨h5.c2, q5⟩
    have hs5 := hS _ (Below.refl _ _).drew
    have HGT := Lib.hid hgt
    have HS := Lib.hid hS
    have HB5 := Lib.hid hb5
    have HZ := Lib.hid (And.intro z0 (And.intro z1 z2))
    clear hgt hS hb5 z0 z1 z2
    unfold blkV blkZ at HGT
    have HGB := Lib.hid (HGT.out W5.drew (Below.refl _ _).drew)
    have hga : Calls Tryd.prog 92 #[.pointer (some ⟨b, 0, none⟩), .int .i64 (o : Int)] (W5.alloc (.cells #[.int .i64 0, .int .i64 0, .string ⟨#[]⟩] 107)).drew fun e w' => e = .returned (.tuple #[.agg #[.int .i64 0, .int .i64 0, .string ⟨#[]⟩], .int .i64 3]) ∧ Below W5.heap.size W5 w' ∧ w'.cell? ⟨W5.heap.size, 0, none⟩ = some (.int .i64 0) ∧ w'.cell? ⟨W5.heap.size, 1, none⟩ = some (.int .i64 0) ∧ w'.cell? ⟨W5.heap.size, 2, none⟩ = some (.string ⟨#[]⟩) ∧ w'.frozen? ⟨W5.heap.size, 0, none⟩ = false ∧ w'.frozen? ⟨W5.heap.size, 1, none⟩ = false ∧ w'.frozen? ⟨W5.heap.size, 2, none⟩ = false := by
      obtain ⟨⟨h5, -⟩, -⟩ := HALL.out (W5.alloc (.cells #[.int .i64 0, .int .i64 0, .string ⟨#[]⟩] 107)).drew (HB5.out.trans (((Below.refl _ _).alloc HB5.out.size _).drew))
      obtain ⟨pv, g1, -⟩ := h5.sh
      have hg := shget_none g1 (o : Int) (WalkArith.wf_i64 (by omega)) HA.out
      unfold blkV blkZ at hg
      refine hg.mono fun e w' h => ⟨h.1, ((Below.refl _ _).alloc (Nat.le_refl _) _).drew.trans (h.2.mono (by simp)), ?_⟩
      have hx : ∀ i, w'.cell? ⟨W5.heap.size, i, none⟩ = (W5.alloc (.cells #[.int .i64 0, .int .i64 0, .string ⟨#[]⟩] 107)).cell? ⟨W5.heap.size, i, none⟩ := fun i => World.cell?_of_block (a := ⟨W5.heap.size, i, none⟩) (h.2.block _ (by simp))
      have hf : ∀ i, w'.frozen? ⟨W5.heap.size, i, none⟩ = false := fun i => (World.frozen?_of_block (a := ⟨W5.heap.size, i, none⟩) (h.2.block _ (by simp))).trans (World.frozen?_alloc_new _ _ _ _)
      exact ⟨(hx 0).trans (by simp), (hx 1).trans (by simp), (hx 2).trans (by simp), hf 0, hf 1, hf 2⟩
    have HGA := Lib.hid hga
    clear hga
    go_cut [15, 16] from 87 (fun s15 s16 wd => s16 = .int .i64 3 ∧ ∃ x : Nat, s15 = .pointer (some ⟨x, 0, none⟩) ∧ Below W5.heap.size W5 wd ∧ True)
    case first =>
      go_region_held3 (fun W => W.cell? ⟨sb, 2, none⟩ = some (.pointer (some ⟨b, 0, none⟩)) ∧ W.cell? ⟨w.heap.size, 5, none⟩ = some (.int .i64 (o : Int))) (first | exact hs5 | (refine HS.out _ ?_; repeat' (first | with_reducible exact hb6 | with_reducible exact hb6.size | with_reducible exact Below.refl _ _ | with_reducible refine Below.drew ?_ | with_reducible refine Below.alloc ?_ ?_ _ | with_reducible refine Below.setCell ?_ ?_ _ | (simp; done) | (simp; omega))))
        ((first
          | (go_at_call 92
             with_reducible refine HGA.out.mono ?_
             rintro e w6 ⟨rfl, hb6, a0, a1, a2, b0, b1, b2⟩)
          | (go_at_call 92
             with_reducible refine HGB.out.mono ?_
             rintro e w6 ⟨rfl, hb6⟩)))
      all_goals
        go_wp2_with fail
        go_meet
        refine ⟨rfl, _, rfl, ?_, ?_⟩
        · repeat' (first | with_reducible exact hb6 | with_reducible exact hb6.size | with_reducible refine Below.alloc ?_ ?_ _ | with_reducible refine Below.setCell ?_ ?_ _ | (simp; done) | (simp; omega))
        · trivial
    case rest =>
      obtain ⟨rfl, x, rfl, hbd, -⟩ := hcut
      have hbw := HB5.out.trans (hbd.mono HB5.out.size)
      obtain ⟨⟨h7, hT7⟩, q1, -, q4, -, -, hbf⟩ := HALL.out _ hbw
      have hlb : NB < W5.heap.size := World.block_lt_of_cell? W5 _ HZ.out.1
      have hwx : w.heap.size < wc.heap.size := World.block_lt_of_cell? wc _ q1
      have hzx : ∀ i, wc.cell? ⟨NB, i, none⟩ = W5.cell? ⟨NB, i, none⟩ := fun i => World.cell?_of_block (a := ⟨NB, i, none⟩) (hbd.block _ hlb)
      have z0 := (hzx 0).trans HZ.out.1
      have z1 := (hzx 1).trans HZ.out.2.1
      have z2 := (hzx 2).trans HZ.out.2.2
      have hG2 : Srv (fun k => F k ∨ k = w.heap.size) wc.drew sb pb b am um tm km n nt A U .nilIface st T Kn := h7.below ⟨rfl, rfl, rfl, Nat.le_refl _, fun _ _ => rfl⟩
      have c2 := h7.c2
      have hpt := shput_new hG2.sh hT7 (.inl (.inl hF3)) hn o ver d ho hv0 hv hd HA.out mm HU.out hU2 hms hss hoff hc hw t0 t1 HT0.out HT1.out
      have HG2 := Lib.hid hG2
      have HQ := Lib.hid (And.intro q1 q4)
      have HBF := Lib.hid hbf
      unfold blkV at hpt
      clear hbd h7 hT7 q1 q4 hG2 hzx hbw hbf
      go_wp2_with fail
      refine wp_region_still_tail 5 (by kernel_rfl) (by kernel_rfl) ?_
      simp only [List.take_succ_cons, List.take_zero, List.drop_succ_cons, List.drop_zero]
      iterate 5 still_step
      refine wpStill_nil ?_
      go_wp2_with fail
      refine hpt.mono ?_
      rintro e w7 ⟨rfl, hm7, hpp⟩
      have hsbk := hm7.block' HG2.out.bl (.inr (.inl rfl))
      have hbxk := hm7.block' hwx (.inl (.inr rfl))
      have r1 := (World.cell?_of_block (a := ⟨w.heap.size, 1, none⟩) hbxk).trans HQ.out.1
      have r4 := (World.cell?_of_block (a := ⟨w.heap.size, 4, none⟩) hbxk).trans HQ.out.2
      have c5 := (World.cell?_of_block (a := ⟨sb, 5, none⟩) hsbk).trans HG2.out.c5
      have hmn7 : IMap Tryd.prog 3 w7.drew km nt fun i => (Kn i).map knV := (HG2.out.mn.keep (hm7.block' HG2.out.mn.lt (.inr (.inr (.inr rfl))))).keep rfl
      have HM7 := Lib.hid hm7
      have HPP := Lib.hid hpp
      have HMN := Lib.hid hmn7
      clear hpt hm7 hpp hmn7 hsbk hbxk c2 z0 z1 z2
      go_wp2_with fail
      refine wp_region_still_tail 10 (by kernel_rfl) (by kernel_rfl) ?_
      simp only [List.take_succ_cons, List.take_zero, List.drop_succ_cons, List.drop_zero]
      iterate 10 still_step
      refine wpStill_nil ?_
      go_wp2_with (first
        | (at_mapUpdate
           refine wpList_store_int _ Tryd.underlying3 rfl (.tmp 113) (.tmp 115) (.tmp 119) 102 rfl Tryd.underlying102 km nt _ rfl HMN.out (by unfold maxLen; omega) (s : Int) (knV ((q : Int), putE st mm t0 t1)) rfl rfl hsw ?_))
      intro w8 hk8 hm8
      rw [updK_val] at hk8
      have hfin : ∀ {n2 : Nat} {A2 : Int → Option Pl} {U2 : Int → Bool} {err2 : Value} {st2 : PS}, ShP (sF (fun k => F k ∨ k = w.heap.size) sb tm km) w7 b pb am um n2 A2 U2 (.slice none 0 0) err2 st2 → Srv F w8 sb pb b am um tm km n2 (nt + 1) A2 U2 err2 st2 T (updK Kn s ((q : Int), putE st mm t0 t1)) := fun hsh => by
        have e1 := HG2.out.turn hsh HM7.out
        have e2 := e1.below (w' := w7.drew) ⟨rfl, rfl, rfl, Nat.le_refl _, fun _ _ => rfl⟩
        exact (e2.own hm8 (fun k hk => ⟨.inr (.inr (.inr hk)), by subst hk; exact fun e => e2.neK e.symm⟩) ((e2.mt.moves hm8 e2.ne).mono (by omega)) hk8).less fun k hk => .inl hk
      have hmv : Moves (NotF F) w w8 := by
        have e1 : Moves (NotF F) w wc.drew := (Moves.of_below HBF.out).drew
        have e2 := e1.trans HM7.out fun i hi => .inl fun hF => hi (.inl (.inl hF))
        exact e2.drew.trans hm8 fun i hi => .inl fun hF => (H.out.fF i hF).2.2 hi
      have hpost : WrPost F w8 sb pb b am um tm km n nt A (updA A ⟨o, ver, d, mm⟩) U (updU U mm true) (putS st mm t0 t1) T Kn s q (putE st mm t0 t1) := by
        have hp := HPP.out
        unfold PutPost at hp
        unfold WrPost
        by_cases he : putE st mm t0 t1 = 0
        · rw [if_pos he] at hp ⊢
          have := hfin hp
          rw [he] at this
          exact this
        · rw [if_neg he] at hp ⊢
          exact hfin hp
      have HFI := Lib.hid (And.intro hmv hpost)
      clear hk8 hm8 hfin hmv hpost r1 r4 c5
      go_wp2_with fail
      go_ret
      exact ⟨rfl, HFI.out⟩
set_option maxRecDepth 100000 in
set_option maxHeartbeats 4000000 in
theorem swrite_over (h : Srv F w sb pb b am um tm km n nt A U .nilIface st T Kn) (hT : Tabs w) (hF3 : F 3) (hn : n < 1000000) (hnt : nt < 1000000) (k0 k2 k6 : Int) (s q o ver : Nat) (d : ByteArray) (hs : s < 8) (ho : o < 256) (hv0 : 1 ≤ ver) (hv : ver ≤ 1099511627776) (hd : d.size ≤ 16)
    (tv now : Int) (htv : T s = some tv) (hnow : now ≤ tv) (ks ke : Int) (hKn : Kn s = some (ks, ke)) (hks : ks < q) (p : Pl) (hpi : p.id = o) (hpa : p.at' < 1000000) (hA : A o = some p) (hpv : p.ver < ver)
    (mm : Nat) (hU : ∀ j : Nat, j < mm → U j = true) (hU2 : U mm = false) (hms : mm < st.size) (hss : st.size ≤ 128) (hoff : st.off = false) (hc : st.calls < 10000) (hw : st.wait.length < 10000) (t0 t1 : List UInt8) (ht0 : t0 = recB o ver d.data.toList 0) (ht1 : t1 = recB o ver d.data.toList 1) :
    Calls Tryd.prog 132 #[.pointer (some ⟨sb, 0, none⟩), .agg #[.int .i64 k0, .int .i64 (s : Int), .int .i64 k2, .int .i64 0, .int .i64 (q : Int), .int .i64 (o : Int), .int .i64 k6, .string (bstr (encB ver d))], .int .i64 now] w fun e w' => e = .returned (.int .i64 (putE st mm t0 t1)) ∧ Moves (NotF F) w w' ∧
      WrPost F w' sb pb b am um tm km n nt A (updA A ⟨o, ver, d, mm⟩) U (updU (updU U p.at' false) mm true) (putS st mm t0 t1) T Kn s q (putE st mm t0 t1) := by
  have hsw : (Lit.int .i64 (s : Int)).wf = true := WalkArith.wf_i64 (by omega)
  have hnw : decide (tv < now) = false := by simp; omega
  have hpi' : (p.id : Int) = (o : Int) := by rw [hpi]
  have hk1 : decide ((q : Int) < ks) = false := by simp; omega
  have hk2 : (ks == (q : Int)) = false := by simp; omega
  have hall : ∀ W, Below (w.alloc (.cells #[.int .i64 k0, .int .i64 (s : Int), .int .i64 k2, .int .i64 0, .int .i64 (q : Int), .int .i64 (o : Int), .int .i64 k6, .string (bstr (encB ver d))] 51)).heap.size (w.alloc (.cells #[.int .i64 k0, .int .i64 (s : Int), .int .i64 k2, .int .i64 0, .int .i64 (q : Int), .int .i64 (o : Int), .int .i64 k6, .string (bstr (encB ver d))] 51)) W → (Srv (fun k => F k ∨ k = w.heap.size) W sb pb b am um tm km n nt A U .nilIface st T Kn ∧ Tabs W) ∧ W.cell? ⟨w.heap.size, 1, none⟩ = some (.int .i64 (s : Int)) ∧ W.cell? ⟨w.heap.size, 3, none⟩ = some (.int .i64 0) ∧ W.cell? ⟨w.heap.size, 4, none⟩ = some (.int .i64 (q : Int)) ∧ W.cell? ⟨w.heap.size, 5, none⟩ = some (.int .i64 (o : Int)) ∧ W.cell? ⟨w.heap.size, 7, none⟩ = some (.string (bstr (encB ver d))) ∧ Below w.heap.size w W := fun W hW => by
    have hb0 : Below w.heap.size w (w.alloc (.cells #[.int .i64 k0, .int .i64 (s : Int), .int .i64 k2, .int .i64 0, .int .i64 (q : Int), .int .i64 (o : Int), .int .i64 k6, .string (bstr (encB ver d))] 51)) := (Below.refl _ _).alloc (Nat.le_refl _) _
    have hb := hb0.trans (hW.mono hb0.size)
    have hl : w.heap.size < (w.alloc (.cells #[.int .i64 k0, .int .i64 (s : Int), .int .i64 k2, .int .i64 0, .int .i64 (q : Int), .int .i64 (o : Int), .int .i64 k6, .string (bstr (encB ver d))] 51)).heap.size := by simp
    have hx : ∀ i, W.cell? ⟨w.heap.size, i, none⟩ = (w.alloc (.cells #[.int .i64 k0, .int .i64 (s : Int), .int .i64 k2, .int .i64 0, .int .i64 (q : Int), .int .i64 (o : Int), .int .i64 k6, .string (bstr (encB ver d))] 51)).cell? ⟨w.heap.size, i, none⟩ := fun i => World.cell?_of_block (a := ⟨w.heap.size, i, none⟩) (hW.block _ hl)
    exact ⟨⟨h.also hb fun k hk => hk.imp id (fun e => by subst e; exact ⟨Nat.le_refl _, Nat.lt_of_lt_of_le hl hW.size⟩), hT.below hb hT.lt⟩, (hx 1).trans (by simp), (hx 3).trans (by simp), (hx 4).trans (by simp), (hx 5).trans (by simp), (hx 7).trans (by simp), hb⟩
  have HALL := Lib.hid hall
  have H := Lib.hid h
  have HKn := Lib.hid hKn
  have HA := Lib.hid hA
  have HTV := Lib.hid htv
  have HT0 := Lib.hid ht0
  have HT1 := Lib.hid ht1
  have HU := Lib.hid hU
  clear hall h hT hKn hA htv ht0 ht1 hU
  go_enter Tryd.func132, Tryd.ntmps132
  obtain ⟨⟨h0, -⟩, q1, q3, q4, q5, q7, -⟩ := HALL.out _ (Below.refl _ _)
  have c3 := h0.c3
  clear h0
  go_wp2_with fail
  go_quiet (fail)
  generalize hW : (w.alloc (.cells #[.int .i64 k0, .int .i64 (s : Int), .int .i64 k2, .int .i64 0, .int .i64 (q : Int), .int .i64 (o : Int), .int .i64 k6, .string (bstr (encB ver d))] 51)).drewN nq = W1
  have hb1 : Below (w.alloc (.cells #[.int .i64 k0, .int .i64 (s : Int), .int .i64 k2, .int .i64 0, .int .i64 (q : Int), .int .i64 (o : Int), .int .i64 k6, .string (bstr (encB ver d))] 51)).heap.size (w.alloc (.cells #[.int .i64 k0, .int .i64 (s : Int), .int .i64 k2, .int .i64 0, .int .i64 (q : Int), .int .i64 (o : Int), .int .i64 k6, .string (bstr (encB ver d))] 51)) W1 := by rw [← hW]; exact ⟨rfl, rfl, rfl, Nat.le_refl _, fun _ _ => rfl⟩
  clear hW q1 q3 q4 q5 q7 c3
  obtain ⟨-, q1, q3, q4, q5, q7, -⟩ := HALL.out _ hb1
  have hpv2 := parseV_any (w := W1) ver d hv hd
  have HB1 := Lib.hid hb1
  clear hb1
  go_wp2_with fail
  refine hpv2.mono ?_
  rintro e w2 ⟨rfl, hb2⟩
  have hb2' := HB1.out.trans (hb2.mono HB1.out.size)
  clear hpv2 hb2 q1 q3 q4 q5 q7
  obtain ⟨⟨h2, -⟩, q1, q3, q4, q5, q7, -⟩ := HALL.out _ hb2'
  have c4 := h2.c4
  have hl : ∀ j, (Instr.lookup 101 (.map (some tm)) (.int .i64 (s : Int)) true).run Tryd.prog (w2.drewN j) = .ok (.tuple #[.int .i64 tv, .bool true]) (w2.drewN j) := fun j => look_time (h2.below (w' := w2.drewN j) ⟨rfl, rfl, rfl, Nat.le_refl _, fun _ _ => rfl⟩) s hsw tv HTV.out
  have HB2 := Lib.hid hb2'
  clear hb2' h2
  go_wp2_with fail
  go_quiet (fail)
  generalize hW : w2.drewN nq = W3
  have hb3 : Below (w.alloc (.cells #[.int .i64 k0, .int .i64 (s : Int), .int .i64 k2, .int .i64 0, .int .i64 (q : Int), .int .i64 (o : Int), .int .i64 k6, .string (bstr (encB ver d))] 51)).heap.size (w.alloc (.cells #[.int .i64 k0, .int .i64 (s : Int), .int .i64 k2, .int .i64 0, .int .i64 (q : Int), .int .i64 (o : Int), .int .i64 k6, .string (bstr (encB ver d))] 51)) W3 := by rw [← hW]; exact HB2.out.trans ⟨rfl, rfl, rfl, Nat.le_refl _, fun _ _ => rfl⟩
  clear hW q1 q3 q4 q5 q7 c4 hl
  obtain ⟨⟨h3, -⟩, q1, q3, q4, q5, q7, -⟩ := HALL.out _ hb3
  have c5 := h3.c5
  have hsb3 := h3.bl
  have hbx3 : w.heap.size < W3.heap.size := World.block_lt_of_cell? W3 _ q1
  have hl1 := look_known (h3.below (w' := W3.drew) ⟨rfl, rfl, rfl, Nat.le_refl _, fun _ _ => rfl⟩) s hsw
  have hl2 := look_known (h3.below (((Below.refl _ _).alloc (Nat.le_refl _) (.cells #[.int .i64 0, .int .i64 0] 320)).drew)) s hsw
  rw [HKn.out] at hl1 hl2
  simp only [Option.map_some, Option.getD_some, Option.isSome_some, knV] at hl1 hl2
  have HB3 := Lib.hid hb3
  clear hb3 h3
  go_wp2_with fail
  go_cut [12, 13] from 44 (fun s12 s13 wc => s12 = .pointer (some ⟨W3.heap.size, 0, none⟩) ∧ s13 = .bool true ∧ wc = (W3.alloc (.cells #[.int .i64 ks, .int .i64 ke] 320)).drew)
  case first =>
    go_region_both
    all_goals
      go_wp2_with fail
      go_meet
      exact ⟨rfl, rfl, rfl⟩
  case rest =>
    obtain ⟨rfl, rfl, hW⟩ := hcut
    clear hl1 hl2 c5 hsb3
    have hb4 : Below (w.alloc (.cells #[.int .i64 k0, .int .i64 (s : Int), .int .i64 k2, .int .i64 0, .int .i64 (q : Int), .int .i64 (o : Int), .int .i64 k6, .string (bstr (encB ver d))] 51)).heap.size (w.alloc (.cells #[.int .i64 k0, .int .i64 (s : Int), .int .i64 k2, .int .i64 0, .int .i64 (q : Int), .int .i64 (o : Int), .int .i64 k6, .string (bstr (encB ver d))] 51)) wc := by rw [hW]; exact (HB3.out.alloc HB3.out.size _).drew
    have y0 : wc.cell? ⟨W3.heap.size, 0, none⟩ = some (.int .i64 ks) := by rw [hW]; simp
    clear hW q1 q3 q4 q5 q7
    obtain ⟨⟨h4, -⟩, q1, q3, q4, q5, q7, -⟩ := HALL.out _ hb4
    have HB4 := Lib.hid hb4
    clear hb4 h4
    go_wp2_with fail
    generalize hW : wc.alloc (.cells #[.int .i64 (o : Int), .int .i64 (ver : Int), .string d] 107) = W5
    have hb5 : Below (w.alloc (.cells #[.int .i64 k0, .int .i64 (s : Int), .int .i64 k2, .int .i64 0, .int .i64 (q : Int), .int .i64 (o : Int), .int .i64 k6, .string (bstr (encB ver d))] 51)).heap.size (w.alloc (.cells #[.int .i64 k0, .int .i64 (s : Int), .int .i64 k2, .int .i64 0, .int .i64 (q : Int), .int .i64 (o : Int), .int .i64 k6, .string (bstr (encB ver d))] 51)) W5 := by rw [← hW]; exact HB4.out.alloc HB4.out.size _
    obtain ⟨z0, z1, z2⟩ : W5.cell? ⟨wc.heap.size, 0, none⟩ = some (.int .i64 (o : Int)) ∧ W5.cell? ⟨wc.heap.size, 1, none⟩ = some (.int .i64 (ver : Int)) ∧ W5.cell? ⟨wc.heap.size, 2, none⟩ = some (.string d) := by rw [← hW]; exact ⟨by simp, by simp, by simp⟩
    clear hW q1 q3 q4 q5 q7 y0
    generalize wc.heap.size = NB at z0 z1 z2 ⊢
    have hgt : ∀ W, Below W5.heap.size W5 W → Calls Tryd.prog 92 #[.pointer (some ⟨b, 0, none⟩), .int .i64 (o : Int)] W fun e w' => e = .returned (.tuple #[blkV p.id p.ver p.d, .int .i64 0]) ∧ Below W5.heap.size W5 w' := fun W hW => by
      obtain ⟨⟨h5, -⟩, -⟩ := HALL.out W (hb5.trans (hW.mono hb5.size))
      obtain ⟨pv, g1, -⟩ := h5.sh
      exact (shget_some g1 (o : Int) (WalkArith.wf_i64 (by omega)) p HA.out).mono fun e w' h => ⟨h.1, hW.trans (h.2.mono hW.size)⟩
    have hS : ∀ W, Below W5.heap.size W5 W → W.cell? ⟨sb, 2, none⟩ = some (.pointer (some ⟨b, 0, none⟩)) ∧ W.cell? ⟨w.heap.size, 5, none⟩ = some (.int .i64 (o : Int)) := fun W hW => by
      obtain ⟨⟨h5, -⟩, -, -, -, q5, -, -⟩ := HALL.out W (hb5.trans (hW.mono hb5.size))
      exact ⟨h5.c2, q5⟩
    have hs5 := hS _ (Below.refl _ _).drew
    have HGT := Lib.hid hgt
    have HS := Lib.hid hS
    have HB5 := Lib.hid hb5
    have HZ := Lib.hid (And.intro z0 (And.intro z1 z2))
    clear hgt hS hb5 z0 z1 z2
    unfold blkV at HGT
    have HGB := Lib.hid (HGT.out W5.drew (Below.refl _ _).drew)
    have hga : Calls Tryd.prog 92 #[.pointer (some ⟨b, 0, none⟩), .int .i64 (o : Int)] (W5.alloc (.cells #[.int .i64 0, .int .i64 0, .string ⟨#[]⟩] 107)).drew fun e w' => e = .returned (.tuple #[.agg #[.int .i64 (p.id : Int), .int .i64 (p.ver : Int), .string p.d], .int .i64 0]) ∧ Below W5.heap.size W5 w' ∧ w'.cell? ⟨W5.heap.size, 0, none⟩ = some (.int .i64 0) ∧ w'.cell? ⟨W5.heap.size, 1, none⟩ = some (.int .i64 0) ∧ w'.cell? ⟨W5.heap.size, 2, none⟩ = some (.string ⟨#[]⟩) ∧ w'.frozen? ⟨W5.heap.size, 0, none⟩ = false ∧ w'.frozen? ⟨W5.heap.size, 1, none⟩ = false ∧ w'.frozen? ⟨W5.heap.size, 2, none⟩ = false := by
      obtain ⟨⟨h5, -⟩, -⟩ := HALL.out (W5.alloc (.cells #[.int .i64 0, .int .i64 0, .string ⟨#[]⟩] 107)).drew (HB5.out.trans (((Below.refl _ _).alloc HB5.out.size _).drew))
      obtain ⟨pv, g1, -⟩ := h5.sh
      have hg := shget_some g1 (o : Int) (WalkArith.wf_i64 (by omega)) p HA.out
      unfold blkV at hg
      refine hg.mono fun e w' h => ⟨h.1, ((Below.refl _ _).alloc (Nat.le_refl _) _).drew.trans (h.2.mono (by simp)), ?_⟩
      have hx : ∀ i, w'.cell? ⟨W5.heap.size, i, none⟩ = (W5.alloc (.cells #[.int .i64 0, .int .i64 0, .string ⟨#[]⟩] 107)).cell? ⟨W5.heap.size, i, none⟩ := fun i => World.cell?_of_block (a := ⟨W5.heap.size, i, none⟩) (h.2.block _ (by simp))
      have hf : ∀ i, w'.frozen? ⟨W5.heap.size, i, none⟩ = false := fun i => (World.frozen?_of_block (a := ⟨W5.heap.size, i, none⟩) (h.2.block _ (by simp))).trans (World.frozen?_alloc_new _ _ _ _)
      exact ⟨(hx 0).trans (by simp), (hx 1).trans (by simp), (hx 2).trans (by simp), hf 0, hf 1, hf 2⟩
    have HGA := Lib.hid hga
    clear hga
    go_cut [15, 16] from 87 (fun s15 s16 wd => s16 = .int .i64 0 ∧ ∃ x : Nat, s15 = .pointer (some ⟨x, 0, none⟩) ∧ Below W5.heap.size W5 wd ∧ wd.cell? ⟨x, 0, none⟩ = some (.int .i64 (o : Int)) ∧ wd.cell? ⟨x, 1, none⟩ = some (.int .i64 (p.ver : Int)) ∧ wd.cell? ⟨x, 2, none⟩ = some (.string p.d))
    case first =>
      go_region_held3 (fun W => W.cell? ⟨sb, 2, none⟩ = some (.pointer (some ⟨b, 0, none⟩)) ∧ W.cell? ⟨w.heap.size, 5, none⟩ = some (.int .i64 (o : Int))) (first | exact hs5 | (refine HS.out _ ?_; repeat' (first | with_reducible exact hb6 | with_reducible exact hb6.size | with_reducible exact Below.refl _ _ | with_reducible refine Below.drew ?_ | with_reducible refine Below.alloc ?_ ?_ _ | with_reducible refine Below.setCell ?_ ?_ _ | (simp; done) | (simp; omega))))
        ((first
          | (go_at_call 92
             with_reducible refine HGA.out.mono ?_
             rintro e w6 ⟨rfl, hb6, a0, a1, a2, b0, b1, b2⟩)
          | (go_at_call 92
             with_reducible refine HGB.out.mono ?_
             rintro e w6 ⟨rfl, hb6⟩)))
      all_goals
        go_wp2_with fail
        go_meet
        refine ⟨rfl, _, rfl, ?_, ?_⟩
        · repeat' (first | with_reducible exact hb6 | with_reducible exact hb6.size | with_reducible refine Below.alloc ?_ ?_ _ | with_reducible refine Below.setCell ?_ ?_ _ | (simp; done) | (simp; omega))
        · have oth : ∀ (W : World) (i j : Nat) (v : Value), i ≠ j → (W.setCell ⟨W5.heap.size, j, none⟩ v).cell? ⟨W5.heap.size, i, none⟩ = W.cell? ⟨W5.heap.size, i, none⟩ := fun W i j v h => World.cell?_setCell_other _ _ _ _ (by intro e; injection e with _ e2; exact h e2.symm)
          first
            | (rw [hpi']; exact ⟨by simp, by simp, by simp⟩)
            | (exact ⟨by simp, by simp, by simp⟩)
            | (refine ⟨?_, ?_, ?_⟩
               · rw [oth _ _ _ _ (by decide), oth _ _ _ _ (by decide)]; exact World.cell?_setCell_same _ _ _ a0
               · rw [oth _ _ _ _ (by decide)]; exact World.cell?_setCell_same _ _ _ (by rw [oth _ _ _ _ (by decide)]; exact a1)
               · exact World.cell?_setCell_same _ _ _ (by rw [oth _ _ _ _ (by decide), oth _ _ _ _ (by decide)]; exact a2))
    case rest =>
      obtain ⟨rfl, x, rfl, hbd, y0, y1, y2⟩ := hcut
      have hbw := HB5.out.trans (hbd.mono HB5.out.size)
      obtain ⟨⟨h7, hT7⟩, q1, -, q4, -, -, hbf⟩ := HALL.out _ hbw
      have hlb : NB < W5.heap.size := World.block_lt_of_cell? W5 _ HZ.out.1
      have hwx : w.heap.size < wc.heap.size := World.block_lt_of_cell? wc _ q1
      have hzx : ∀ i, wc.cell? ⟨NB, i, none⟩ = W5.cell? ⟨NB, i, none⟩ := fun i => World.cell?_of_block (a := ⟨NB, i, none⟩) (hbd.block _ hlb)
      have z0 := (hzx 0).trans HZ.out.1
      have z1 := (hzx 1).trans HZ.out.2.1
      have z2 := (hzx 2).trans HZ.out.2.2
      have hG2 : Srv (fun k => F k ∨ k = w.heap.size) wc.drew sb pb b am um tm km n nt A U .nilIface st T Kn := h7.below ⟨rfl, rfl, rfl, Nat.le_refl _, fun _ _ => rfl⟩
      have c2 := h7.c2
      have hpt := shput_over hG2.sh hT7 (.inl (.inl hF3)) hn o ver d ho hv0 hv hd p hpa HA.out hpv mm HU.out hU2 hms hss hoff hc hw t0 t1 HT0.out HT1.out
      have HG2 := Lib.hid hG2
      have HQ := Lib.hid (And.intro q1 q4)
      have HBF := Lib.hid hbf
      unfold blkV at hpt
      have hneq := blk_neq (o : Int) (p.ver : Int) (ver : Int) p.d d (by omega) wc
      clear hbd h7 hT7 q1 q4 hG2 hzx hbw hbf
      go_wp2_with fail
      refine wp_region_still_tail 5 (by kernel_rfl) (by kernel_rfl) ?_
      simp only [List.take_succ_cons, List.take_zero, List.drop_succ_cons, List.drop_zero]
      iterate 5 still_step
      refine wpStill_nil ?_
      go_wp2_with fail
      refine hpt.mono ?_
      rintro e w7 ⟨rfl, hm7, hpp⟩
      have hsbk := hm7.block' HG2.out.bl (.inr (.inl rfl))
      have hbxk := hm7.block' hwx (.inl (.inr rfl))
      have r1 := (World.cell?_of_block (a := ⟨w.heap.size, 1, none⟩) hbxk).trans HQ.out.1
      have r4 := (World.cell?_of_block (a := ⟨w.heap.size, 4, none⟩) hbxk).trans HQ.out.2
      have c5 := (World.cell?_of_block (a := ⟨sb, 5, none⟩) hsbk).trans HG2.out.c5
      have hmn7 : IMap Tryd.prog 3 w7.drew km nt fun i => (Kn i).map knV := (HG2.out.mn.keep (hm7.block' HG2.out.mn.lt (.inr (.inr (.inr rfl))))).keep rfl
      have HM7 := Lib.hid hm7
      have HPP := Lib.hid hpp
      have HMN := Lib.hid hmn7
      clear hpt hm7 hpp hmn7 hsbk hbxk c2 z0 z1 z2
      go_wp2_with fail
      refine wp_region_still_tail 10 (by kernel_rfl) (by kernel_rfl) ?_
      simp only [List.take_succ_cons, List.take_zero, List.drop_succ_cons, List.drop_zero]
      iterate 10 still_step
      refine wpStill_nil ?_
      go_wp2_with (first
        | (at_mapUpdate
           refine wpList_store_int _ Tryd.underlying3 rfl (.tmp 113) (.tmp 115) (.tmp 119) 102 rfl Tryd.underlying102 km nt _ rfl HMN.out (by unfold maxLen; omega) (s : Int) (knV ((q : Int), putE st mm t0 t1)) rfl rfl hsw ?_))
      intro w8 hk8 hm8
      rw [updK_val] at hk8
      have hfin : ∀ {n2 : Nat} {A2 : Int → Option Pl} {U2 : Int → Bool} {err2 : Value} {st2 : PS}, ShP (sF (fun k => F k ∨ k = w.heap.size) sb tm km) w7 b pb am um n2 A2 U2 (.slice none 0 0) err2 st2 → Srv F w8 sb pb b am um tm km n2 (nt + 1) A2 U2 err2 st2 T (updK Kn s ((q : Int), putE st mm t0 t1)) := fun hsh => by
        have e1 := HG2.out.turn hsh HM7.out
        have e2 := e1.below (w' := w7.drew) ⟨rfl, rfl, rfl, Nat.le_refl _, fun _ _ => rfl⟩
        exact (e2.own hm8 (fun k hk => ⟨.inr (.inr (.inr hk)), by subst hk; exact fun e => e2.neK e.symm⟩) ((e2.mt.moves hm8 e2.ne).mono (by omega)) hk8).less fun k hk => .inl hk
      have hmv : Moves (NotF F) w w8 := by
        have e1 : Moves (NotF F) w wc.drew := (Moves.of_below HBF.out).drew
        have e2 := e1.trans HM7.out fun i hi => .inl fun hF => hi (.inl (.inl hF))
        exact e2.drew.trans hm8 fun i hi => .inl fun hF => (H.out.fF i hF).2.2 hi
      have hpost : WrPost F w8 sb pb b am um tm km n nt A (updA A ⟨o, ver, d, mm⟩) U (updU (updU U p.at' false) mm true) (putS st mm t0 t1) T Kn s q (putE st mm t0 t1) := by
        have hp := HPP.out
        unfold PutPost at hp
        unfold WrPost
        by_cases he : putE st mm t0 t1 = 0
        · rw [if_pos he] at hp ⊢
          have := hfin hp
          rw [he] at this
          exact this
        · rw [if_neg he] at hp ⊢
          exact hfin hp
      have HFI := Lib.hid (And.intro hmv hpost)
      clear hk8 hm8 hfin hmv hpost r1 r4 c5
      go_wp2_with fail
      go_ret
      exact ⟨rfl, HFI.out⟩
end
end Go.Proofs.YtkbncbkmaakpkaaDoor
