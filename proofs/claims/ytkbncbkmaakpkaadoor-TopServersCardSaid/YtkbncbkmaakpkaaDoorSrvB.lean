/- store's kinds of messages; until. -/
import Derived.Test.YtkbncbkmaakpkaaDoorSrvA
namespace Go.Proofs.YtkbncbkmaakpkaaDoor
open Go.RowKit
section
variable {F : Nat → Prop} {w w' : World} {sb pb b am um tm km n nt : Nat} {A : Int → Option Pl} {U : Int → Bool} {err : Value} {st : PS} {T : Int → Option Int} {Kn : Int → Option (Int × Int)}
set_option maxRecDepth 100000 in
set_option maxHeartbeats 2000000 in
theorem kinds_any : Calls Tryd.prog 84 #[] w fun e w' => ∃ kb g, e = .returned (.map (some kb)) ∧ IMap Tryd.prog 3 w' kb 4 g ∧ g 2 = some (.func (.func 131) #[] #[]) ∧ g 3 = some (.func (.func 133) #[] #[]) ∧ Below w.heap.size w w' := by
  have hmm := @run_makeMap Tryd.prog
  have m0 : IMap Tryd.prog 3 (w.alloc (.map #[] 0)) w.heap.size 0 (fun _ => none) := IMap.made _ _ _
  have hb0 : Moves (fun k => k = w.heap.size) w (w.alloc (.map #[] 0)) := (Moves.refl _ _).alloc _
  have M0 := Lib.hid m0
  have HB0 := Lib.hid hb0
  clear m0 hb0
  go_enter Tryd.func84, Tryd.ntmps84
  go_wp2_with (refine wpList_insert_int _ Tryd.underlying3 rfl (.tmp 1) (.const (.int .i64 1)) _ 199 rfl Tryd.underlying199 w.heap.size 0 _ rfl M0.out (by unfold maxLen; omega) 1 _ rfl rfl (WalkArith.wf_i64 (by omega)) ?_)
  intro w1 n1 m1
  have N1 := Lib.hid n1
  have M1 := Lib.hid m1
  clear n1 m1
  go_wp2_with (refine wpList_insert_int _ Tryd.underlying3 rfl (.tmp 1) (.const (.int .i64 2)) _ 199 rfl Tryd.underlying199 w.heap.size 1 _ rfl N1.out (by unfold maxLen; omega) 2 _ rfl rfl (WalkArith.wf_i64 (by omega)) ?_)
  intro w2 n2 m2
  have N2 := Lib.hid n2
  have M2 := Lib.hid m2
  clear n2 m2
  go_wp2_with (refine wpList_insert_int _ Tryd.underlying3 rfl (.tmp 1) (.const (.int .i64 3)) _ 199 rfl Tryd.underlying199 w.heap.size 2 _ rfl N2.out (by unfold maxLen; omega) 3 _ rfl rfl (WalkArith.wf_i64 (by omega)) ?_)
  intro w3 n3 m3
  have N3 := Lib.hid n3
  have M3 := Lib.hid m3
  clear n3 m3
  go_wp2_with (refine wpList_insert_int _ Tryd.underlying3 rfl (.tmp 1) (.const (.int .i64 4)) _ 199 rfl Tryd.underlying199 w.heap.size 3 _ rfl N3.out (by unfold maxLen; omega) 4 _ rfl rfl (WalkArith.wf_i64 (by omega)) ?_)
  intro w4 n4 m4
  have N4 := Lib.hid n4
  have M4 := Lib.hid m4
  clear n4 m4
  go_wp2_with fail
  go_ret
  have hmv := (((HB0.out.trans M1.out fun i hi => .inl hi).trans M2.out fun i hi => .inl hi).trans M3.out fun i hi => .inl hi).trans M4.out fun i hi => .inl hi
  exact ⟨_, _, rfl, N4.out, rfl, rfl, hmv.below (Nat.le_refl _) fun k hk => by subst hk; exact Nat.le_refl _⟩
def updT (T : Int → Option Int) (i x : Int) (j : Int) : Option Int := if j = i then some x else T j
theorem updT_val (T : Int → Option Int) (i x : Int) : (fun j => if j = i then some (Value.int .i64 x) else (T j).map fun x => Value.int .i64 x) = fun j => (updT T i x j).map fun x => Value.int .i64 x := by
  funext j; unfold updT; split <;> rfl
set_option maxRecDepth 100000 in
set_option maxHeartbeats 2000000 in
/-- until: a client's time is told. -/
theorem until_any (h : Srv F w sb pb b am um tm km n nt A U err st T Kn) (hnt : nt < 1000000) (m : Ms) (ver o : Nat) (d : ByteArray) (hv : ver ≤ 1099511627776) (hd : d.size ≤ 16) (hdat : m.data = bstr (encB ver d)) (hoff : m.off = (o : Int)) (ho : o < 8) (now : Int) :
    Calls Tryd.prog 133 #[.pointer (some ⟨sb, 0, none⟩), m.val, .int .i64 now] w fun e w' => e = .returned (.tuple #[.int .i64 0, .string ⟨#[]⟩]) ∧ Srv F w' sb pb b am um tm km n (nt + 1) A U err st (updT T o ver) Kn ∧ Moves (NotF F) w w' := by
  obtain ⟨k0, k1, k2, k3, k4, k5, k6, k7⟩ := m
  dsimp only at hdat hoff
  subst hdat
  subst hoff
  have hb0 : Below w.heap.size w (w.alloc (.cells #[.int .i64 k0, .int .i64 k1, .int .i64 k2, .int .i64 k3, .int .i64 k4, .int .i64 (o : Int), .int .i64 k6, .string (bstr (encB ver d))] 51)) := (Below.refl _ _).alloc (Nat.le_refl _) _
  have hp := parseV_any (w := w.alloc (.cells #[.int .i64 k0, .int .i64 k1, .int .i64 k2, .int .i64 k3, .int .i64 k4, .int .i64 (o : Int), .int .i64 k6, .string (bstr (encB ver d))] 51)) ver d hv hd
  have H := Lib.hid h
  have HB0 := Lib.hid hb0
  clear h hb0
  have hge : decide ((8 : Int) ≤ (o : Int)) = false := by simp; omega
  go_enter Tryd.func133, Tryd.ntmps133
  unfold Ms.val
  go_wp2_with fail
  refine hp.mono ?_
  rintro e w1 ⟨rfl, hb1⟩
  have hB := HB0.out.trans (hb1.mono HB0.out.size)
  have q5 : w1.cell? ⟨w.heap.size, 5, none⟩ = some (.int .i64 (o : Int)) := (World.cell?_of_block (a := ⟨w.heap.size, 5, none⟩) (hb1.block _ (by simp))).trans (by simp)
  have h1 := H.out.below hB
  have c4 := h1.c4
  have H1 := Lib.hid h1
  have HB := Lib.hid hB
  clear hp hb1 hB h1
  go_wp2_with fail
  refine wp_region_still_tail 7 (by kernel_rfl) (by kernel_rfl) ?_
  simp only [List.take_succ_cons, List.take_zero, List.drop_succ_cons, List.drop_zero]
  iterate 7 still_step
  refine wpStill_nil ?_
  go_wp2_with (first
    | (at_mapUpdate
       refine wpList_store_int _ Tryd.underlying3 rfl (.tmp 29) (.tmp 31) (.tmp 32) 101 rfl Tryd.underlying101 tm nt _ rfl (H1.out.mt.keep rfl) (by unfold maxLen; omega) (o : Int) (.int .i64 (ver : Int)) rfl rfl (WalkArith.wf_i64 (by omega)) ?_))
  intro w2 ht hm
  rw [updT_val] at ht
  have hd2 : Srv F w1.drew sb pb b am um tm km n nt A U err st T Kn := H1.out.below ⟨rfl, rfl, rfl, Nat.le_refl _, fun _ _ => rfl⟩
  have hs2 := hd2.own hm (T' := updT T o ver) (Kn' := Kn) (m := nt + 1) (fun k hk => ⟨.inr (.inr (.inl hk)), by subst hk; exact fun e => hd2.neT e.symm⟩) ht ((hd2.mn.moves hm fun e => hd2.ne e.symm).mono (by omega))
  have HS := Lib.hid hs2
  have HM := Lib.hid (show Moves (NotF F) w w2 from (Moves.of_below HB.out).drew.trans hm fun i hi => .inl fun hF => (H.out.fF i hF).2.1 hi)
  clear ht hm hd2 hs2 q5 c4
  go_wp2_with fail
  go_ret2
  exact ⟨rfl, HS.out, HM.out⟩
end
end Go.Proofs.YtkbncbkmaakpkaaDoor
