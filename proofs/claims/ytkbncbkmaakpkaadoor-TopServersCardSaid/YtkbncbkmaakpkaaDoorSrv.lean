/- A server as it lies in memory; begin, New, Power, Get. -/
import Derived.Test.YtkbncbkmaakpkaaDoorShO
import Derived.Test.YtkbncbkmaakpkaaDoorPNew
import Derived.Test.YtkbncbkmaakpkaaDoorVal
namespace Go.Proofs.YtkbncbkmaakpkaaDoor
open Go.RowKit
def knV (x : Int × Int) : Value := .agg #[.int .i64 x.1, .int .i64 x.2]
/-- The blocks of a server's own, beside a caller's. -/
def sF (F : Nat → Prop) (sb tm km k : Nat) : Prop := F k ∨ k = sb ∨ k = tm ∨ k = km
structure Srv (F : Nat → Prop) (w : World) (sb pb b am um tm km n nt : Nat) (A : Int → Option Pl) (U : Int → Bool) (err : Value) (st : PS) (T : Int → Option Int) (Kn : Int → Option (Int × Int)) : Prop where
  sh : ShP (sF F sb tm km) w b pb am um n A U (.slice none 0 0) err st
  c0 : w.cell? ⟨sb, 0, none⟩ = some (.pointer (some ⟨pb, 0, none⟩))
  c1 : w.cell? ⟨sb, 1, none⟩ = some (.int .i64 3)
  c2 : w.cell? ⟨sb, 2, none⟩ = some (.pointer (some ⟨b, 0, none⟩))
  c3 : w.cell? ⟨sb, 3, none⟩ = some (.int .i64 0)
  c4 : w.cell? ⟨sb, 4, none⟩ = some (.map (some tm))
  c5 : w.cell? ⟨sb, 5, none⟩ = some (.map (some km))
  fro : ∀ o, w.frozen? ⟨sb, o, none⟩ = false
  mt : IMap Tryd.prog 3 w tm nt fun i => (T i).map fun x => .int .i64 x
  mn : IMap Tryd.prog 3 w km nt fun i => (Kn i).map knV
  ne : tm ≠ km
  fF : ∀ k, F k → k ≠ sb ∧ k ≠ tm ∧ k ≠ km
section
variable {F : Nat → Prop} {w w' : World} {sb pb b am um tm km n nt : Nat} {A : Int → Option Pl} {U : Int → Bool} {err : Value} {st : PS} {T : Int → Option Int} {Kn : Int → Option (Int × Int)}
theorem Srv.neT (h : Srv F w sb pb b am um tm km n nt A U err st T Kn) : sb ≠ tm := fun e => by have := h.c0; rw [e] at this; exact h.mt.noCells this
theorem Srv.neK (h : Srv F w sb pb b am um tm km n nt A U err st T Kn) : sb ≠ km := fun e => by have := h.c0; rw [e] at this; exact h.mn.noCells this
theorem Srv.bl (h : Srv F w sb pb b am um tm km n nt A U err st T Kn) : sb < w.heap.size := World.block_lt_of_cell? w _ h.c0
/-- The shelf has turned; the server's own blocks have not. -/
theorem Srv.turn {n' : Nat} {A' : Int → Option Pl} {U' : Int → Bool} {err' : Value} {st' : PS} (h : Srv F w sb pb b am um tm km n nt A U err st T Kn) (hs : ShP (sF F sb tm km) w' b pb am um n' A' U' (.slice none 0 0) err' st') (hm : Moves (NotF (sF F sb tm km)) w w') : Srv F w' sb pb b am um tm km n' nt A' U' err' st' T Kn := by
  have hb := hm.block' h.bl (.inr (.inl rfl))
  have hc : ∀ o, w'.cell? ⟨sb, o, none⟩ = w.cell? ⟨sb, o, none⟩ := fun o => World.cell?_of_block (a := ⟨sb, o, none⟩) hb
  exact ⟨hs, (hc _).trans h.c0, (hc _).trans h.c1, (hc _).trans h.c2, (hc _).trans h.c3, (hc _).trans h.c4, (hc _).trans h.c5, fun o => (World.frozen?_of_block (a := ⟨sb, o, none⟩) hb).trans (h.fro o),
    h.mt.keep (hm.block' h.mt.lt (.inr (.inr (.inl rfl)))), h.mn.keep (hm.block' h.mn.lt (.inr (.inr (.inr rfl)))), h.ne, h.fF⟩
theorem Srv.below (h : Srv F w sb pb b am um tm km n nt A U err st T Kn) (hb : Below w.heap.size w w') : Srv F w' sb pb b am um tm km n nt A U err st T Kn := h.turn (h.sh.below hb) (Moves.of_below hb)
/-- New blocks, too, are a caller's own. -/
theorem Srv.also {G : Nat → Prop} (h : Srv F w sb pb b am um tm km n nt A U err st T Kn) (hb : Below w.heap.size w w') (hG : ∀ k, G k → F k ∨ w.heap.size ≤ k ∧ k < w'.heap.size) : Srv G w' sb pb b am um tm km n nt A U err st T Kn := by
  have h2 := h.below hb
  refine ⟨h.sh.also hb fun k hk => ?_, h2.c0, h2.c1, h2.c2, h2.c3, h2.c4, h2.c5, h2.fro, h2.mt, h2.mn, h2.ne, fun k hk => ?_⟩
  · rcases hk with hk | hk
    · exact (hG k hk).imp (fun h => .inl h) id
    · exact .inl (.inr hk)
  · rcases hG k hk with hk | hk
    · exact h.fF k hk
    · have h1 := h.bl
      have h2 := h.mt.lt
      have h3 := h.mn.lt
      omega
theorem Srv.less {G : Nat → Prop} (h : Srv F w sb pb b am um tm km n nt A U err st T Kn) (hG : ∀ k, G k → F k) : Srv G w sb pb b am um tm km n nt A U err st T Kn :=
  ⟨h.sh.mono fun k hk => hk.imp (hG k) id, h.c0, h.c1, h.c2, h.c3, h.c4, h.c5, h.fro, h.mt, h.mn, h.ne, fun k hk => h.fF k (hG k hk)⟩
theorem Srv.lt (h : Srv F w sb pb b am um tm km n nt A U err st T Kn) {k : Nat} (hk : F k) : k < w.heap.size := h.sh.lt (.inl hk)
/-- One of the server's own maps, or a caller's block, has turned. -/
theorem Srv.own {X : Nat → Prop} (h : Srv F w sb pb b am um tm km n nt A U err st T Kn) (hm : Moves X w w') (hX : ∀ k, X k → sF F sb tm km k ∧ k ≠ sb) {T' : Int → Option Int} {Kn' : Int → Option (Int × Int)} {m : Nat}
    (ht : IMap Tryd.prog 3 w' tm m fun i => (T' i).map fun x => .int .i64 x) (hk : IMap Tryd.prog 3 w' km m fun i => (Kn' i).map knV) : Srv F w' sb pb b am um tm km n m A U err st T' Kn' := by
  have hb := hm.block sb h.bl (fun hx => (hX _ hx).2 rfl)
  have hc : ∀ o, w'.cell? ⟨sb, o, none⟩ = w.cell? ⟨sb, o, none⟩ := fun o => World.cell?_of_block (a := ⟨sb, o, none⟩) hb
  exact ⟨h.sh.own hm fun k hk => (hX k hk).1, (hc _).trans h.c0, (hc _).trans h.c1, (hc _).trans h.c2, (hc _).trans h.c3, (hc _).trans h.c4, (hc _).trans h.c5, fun o => (World.frozen?_of_block (a := ⟨sb, o, none⟩) hb).trans (h.fro o), ht, hk, h.ne, h.fF⟩
set_option maxRecDepth 100000 in
set_option maxHeartbeats 2000000 in
/-- begin: the shelf is opened, times and writes are none. -/
theorem begin_any {pv : Value} {K : Nat → Option Pl} (hp : IsPlate w pb pv st) (hT : Tabs w) (hw : st.wait = []) (hoff : st.off = false) (hR : Recs st K) (x0 : w.cell? ⟨sb, 0, none⟩ = some (.pointer (some ⟨pb, 0, none⟩))) (x1 : w.cell? ⟨sb, 1, none⟩ = some (.int .i64 3))
    {v2 v3 v4 v5 : Value} (x2 : w.cell? ⟨sb, 2, none⟩ = some v2) (x3 : w.cell? ⟨sb, 3, none⟩ = some v3) (x4 : w.cell? ⟨sb, 4, none⟩ = some v4) (x5 : w.cell? ⟨sb, 5, none⟩ = some v5) (hfr : ∀ o, w.frozen? ⟨sb, o, none⟩ = false) (hsb : ¬ pfp pb pv sb)
    (hF : ∀ k, F k → k < w.heap.size ∧ ¬ pfp pb pv k ∧ k ≠ sb) :
    Calls Tryd.prog 83 #[.pointer (some ⟨sb, 0, none⟩)] w fun e w' => e = .returned (.tuple #[]) ∧ (∃ b am um tm km n, n ≤ 128 ∧ Srv F w' sb pb b am um tm km n 0 (openA K st.size) (openU K st.size) .nilIface st (fun _ => none) (fun _ => none)) ∧ Moves (NotF F) w w' := by
  have hop := open_any hp hT hw hoff hR
  have hbl : sb < w.heap.size := World.block_lt_of_cell? w _ x0
  have hmm := @run_makeMap Tryd.prog
  have HP := Lib.hid hp
  have HF := Lib.hid hF
  have HX0 := Lib.hid x0
  have HX1 := Lib.hid x1
  have HX2 := Lib.hid x2
  have HX3 := Lib.hid x3
  have HX4 := Lib.hid x4
  have HX5 := Lib.hid x5
  have HFR := Lib.hid hfr
  clear hp hT hR hF x1 x2 x3 x4 x5 hfr hoff
  go_enter Tryd.func83, Tryd.ntmps83
  go_wp2_with fail
  refine hop.mono ?_
  rintro e w1 ⟨b, am, um, n, hn, rfl, hI, hb1, hlo⟩
  have hblk := hb1.block sb hbl
  have hc : ∀ o, w1.cell? ⟨sb, o, none⟩ = w.cell? ⟨sb, o, none⟩ := fun o => World.cell?_of_block (a := ⟨sb, o, none⟩) hblk
  have hf : ∀ o, w1.frozen? ⟨sb, o, none⟩ = false := fun o => (World.frozen?_of_block (a := ⟨sb, o, none⟩) hblk).trans (HFR.out o)
  have y2 := (hc 2).trans HX2.out
  have y3 := (hc 3).trans HX3.out
  have y4 := (hc 4).trans HX4.out
  have y5 := (hc 5).trans HX5.out
  have g2 := hf 2
  have g3 := hf 3
  have g4 := hf 4
  have g5 := hf 5
  have hb1l := Nat.lt_of_lt_of_le hbl hb1.size
  have HI := Lib.hid hI
  have HB1 := Lib.hid hb1
  have HLO := Lib.hid hlo
  clear hop hI hb1 hlo hc hf
  go_wp2_with fail
  go_end0
  have oth : ∀ (W : World) (o q : Nat) (v : Value), o ≠ q → (W.setCell ⟨sb, q, none⟩ v).cell? ⟨sb, o, none⟩ = W.cell? ⟨sb, o, none⟩ := fun W o q v h => World.cell?_setCell_other _ _ _ _ (by intro e; injection e with _ e2; exact h e2.symm)
  have hcx : ∀ o, w1.cell? ⟨sb, o, none⟩ = w.cell? ⟨sb, o, none⟩ := fun o => World.cell?_of_block (a := ⟨sb, o, none⟩) (HB1.out.block sb hbl)
  generalize hS1 : w1.setCell ⟨sb, 2, none⟩ (.pointer (some ⟨b, 0, none⟩)) = s1
  generalize hS2 : s1.setCell ⟨sb, 3, none⟩ (.int .i64 0) = s2
  generalize hS3 : s2.setCell ⟨sb, 4, none⟩ (.map (some w1.heap.size)) = s3
  generalize hS4 : s3.setCell ⟨sb, 5, none⟩ (.map (some (w1.heap.size + 1))) = s4
  have hm4 : Moves (fun k => k = sb) w1 s4 := by
    rw [← hS4, ← hS3, ← hS2, ← hS1]
    refine Moves.setCell (F := fun k => k = sb) ?_ _ _ (.inl rfl)
    refine Moves.setCell (F := fun k => k = sb) ?_ _ _ (.inl rfl)
    refine Moves.setCell (F := fun k => k = sb) ?_ _ _ (.inl rfl)
    exact Moves.setCell (F := fun k => k = sb) (Moves.refl _ _) _ _ (.inl rfl)
  have hsz4 : s4.heap.size = w1.heap.size := by rw [← hS4, ← hS3, ← hS2, ← hS1]; simp
  have k0 : s4.cell? ⟨sb, 0, none⟩ = some (.pointer (some ⟨pb, 0, none⟩)) := by rw [← hS4, oth _ _ _ _ (by decide), ← hS3, oth _ _ _ _ (by decide), ← hS2, oth _ _ _ _ (by decide), ← hS1, oth _ _ _ _ (by decide), hcx]; exact HX0.out
  have k1 : s4.cell? ⟨sb, 1, none⟩ = some (.int .i64 3) := by rw [← hS4, oth _ _ _ _ (by decide), ← hS3, oth _ _ _ _ (by decide), ← hS2, oth _ _ _ _ (by decide), ← hS1, oth _ _ _ _ (by decide), hcx]; exact HX1.out
  have k2 : s4.cell? ⟨sb, 2, none⟩ = some (.pointer (some ⟨b, 0, none⟩)) := by rw [← hS4, oth _ _ _ _ (by decide), ← hS3, oth _ _ _ _ (by decide), ← hS2, oth _ _ _ _ (by decide), ← hS1]; exact World.cell?_setCell_same _ _ _ y2
  have k3 : s4.cell? ⟨sb, 3, none⟩ = some (.int .i64 0) := by
    rw [← hS4, oth _ _ _ _ (by decide), ← hS3, oth _ _ _ _ (by decide), ← hS2]
    exact World.cell?_setCell_same _ _ _ (by rw [← hS1, oth _ _ _ _ (by decide)]; exact y3)
  have k4 : s4.cell? ⟨sb, 4, none⟩ = some (.map (some w1.heap.size)) := by
    rw [← hS4, oth _ _ _ _ (by decide), ← hS3]
    exact World.cell?_setCell_same _ _ _ (by rw [← hS2, oth _ _ _ _ (by decide), ← hS1, oth _ _ _ _ (by decide)]; exact y4)
  have k5 : s4.cell? ⟨sb, 5, none⟩ = some (.map (some (w1.heap.size + 1))) := by
    rw [← hS4]
    exact World.cell?_setCell_same _ _ _ (by rw [← hS3, oth _ _ _ _ (by decide), ← hS2, oth _ _ _ _ (by decide), ← hS1, oth _ _ _ _ (by decide)]; exact y5)
  have kf : ∀ o, s4.frozen? ⟨sb, o, none⟩ = false := fun o => by
    rw [← hS4, ← hS3, ← hS2, ← hS1]
    simp only [World.frozen?_setCell]
    exact (World.frozen?_of_block (a := ⟨sb, o, none⟩) (HB1.out.block sb hbl)).trans (HFR.out o)
  clear hS1 hS2 hS3 hS4 oth hcx
  have hbA : Below s4.heap.size s4 ((s4.alloc (.map #[] 0)).alloc (.map #[] 0)) := ((Below.refl _ _).alloc (Nat.le_refl _) _).alloc (by simp) _
  have hsl : sb < s4.heap.size := World.block_lt_of_cell? s4 _ k0
  have hcA : ∀ o, ((s4.alloc (.map #[] 0)).alloc (.map #[] 0)).cell? ⟨sb, o, none⟩ = s4.cell? ⟨sb, o, none⟩ := fun o => World.cell?_of_block (a := ⟨sb, o, none⟩) (hbA.block sb hsl)
  have hI4 : IsSh s4 b pb am um n (openA K st.size) (openU K st.size) (.slice none 0 0) .nilIface := HI.out.moves hm4 fun k hk e => by have := HLO.out k hk; omega
  have hP1 : IsPlate w1 pb pv st := HP.out.keeps fun k hk => HB1.out.block k (HP.out.lt k hk)
  have hP4 : IsPlate s4 pb pv st := hP1.moves hm4 fun k hk e => by subst e; exact hsb hk
  have m1 : IMap Tryd.prog 3 (s4.alloc (.map #[] 0)) w1.heap.size 0 (fun _ => none) := by
    have := IMap.made Tryd.prog 3 s4
    rw [hsz4] at this
    exact this
  have m2 : IMap Tryd.prog 3 ((s4.alloc (.map #[] 0)).alloc (.map #[] 0)) (w1.heap.size + 1) 0 (fun _ => none) := by
    have := IMap.made Tryd.prog 3 (s4.alloc (.map #[] 0))
    rw [show (s4.alloc (.map #[] 0)).heap.size = w1.heap.size + 1 by simp [hsz4]] at this
    exact this
  have hlos : ∀ k, shF b am um k → w.heap.size ≤ k ∧ k < w1.heap.size := fun k hk => ⟨HLO.out k hk, by have := hI4.lt hk; omega⟩
  have hpl : ∀ k, pfp pb pv k → k < w.heap.size := fun k hk => HP.out.lt k hk
  have hws := HB1.out.size
  refine ⟨rfl, ⟨b, am, um, w1.heap.size, w1.heap.size + 1, n, hn, ⟨⟨pv, hI4.below hbA, hP4.keeps fun k hk => hbA.block k (hP4.lt k hk), fun k hk hk2 => ?_, fun k hk => ?_⟩, (hcA _).trans k0, (hcA _).trans k1, (hcA _).trans k2, (hcA _).trans k3, (hcA _).trans k4, (hcA _).trans k5, fun o => (World.frozen?_of_block (a := ⟨sb, o, none⟩) (hbA.block sb hsl)).trans (kf o), m1.alloc _, m2, by omega, fun k hk => ?_⟩⟩, ?_⟩
  · have h1 := hlos k hk
    have h2 := hpl k hk2
    omega
  · have hsA : ((s4.alloc (.map #[] 0)).alloc (.map #[] 0)).heap.size = w1.heap.size + 2 := by simp [hsz4]
    rcases hk with hk | rfl | rfl | rfl
    · have h1 := HF.out k hk
      exact ⟨by omega, h1.2.1, fun h => by have := hlos k h; omega⟩
    · exact ⟨by omega, hsb, fun h => by have := hlos _ h; omega⟩
    · exact ⟨by omega, fun h => by have := hpl _ h; omega, fun h => by have := hlos _ h; omega⟩
    · exact ⟨by omega, fun h => by have := hpl _ h; omega, fun h => by have := hlos _ h; omega⟩
  · have h1 := HF.out k hk
    omega
  · have hm : Moves (fun k => k = sb) w ((s4.alloc (.map #[] 0)).alloc (.map #[] 0)) := (((Moves.of_below HB1.out).trans hm4 fun i hi => .inl hi).alloc _).alloc _
    exact hm.mono fun k _ hk hF => by subst hk; exact (HF.out _ hF).2.2 rfl
end
end Go.Proofs.YtkbncbkmaakpkaaDoor
