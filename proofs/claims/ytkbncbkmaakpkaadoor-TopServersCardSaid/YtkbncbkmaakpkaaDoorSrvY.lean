/- The second write, that a cut may end. -/
import Derived.Test.YtkbncbkmaakpkaaDoorSrvX
namespace Go.Proofs.YtkbncbkmaakpkaaDoor
open Go.RowKit
def rNew (o : Nat) : List UInt8 := recB o 2 dNew.data.toList 1
/-- Behind the second write: what was told, and what a crash leaves. -/
def Put2 (F : Nat → Prop) (w : World) (sb pb o keep : Nat) (ev : Ending) (w' : World) : Prop :=
  ∃ (ok : Bool) (x : List UInt8) (cc b am um tm km n nt : Nat) (A : Int → Option Pl) (U : Int → Bool) (err : Value) (st : PS) (T : Int → Option Int) (Kn : Int → Option (Int × Int)),
    ev = .returned (.tuple #[if ok then .agg #[.int .i64 130, .int .i64 3, .int .i64 2, .int .i64 0, .int .i64 2, .int .i64 (o : Int), .int .i64 0, .string ⟨#[]⟩] else zMsg, .bool ok]) ∧
    Srv F w' sb pb b am um tm km n nt A U err st T Kn ∧ st.wait = [] ∧ st.crash keep = still 9 ((is1 o).set 1 x) true 0 keep cc ∧ (x[0]? ≠ some 1 ∨ x = rNew o) ∧ (ok = true → x = rNew o) ∧ Moves (NotF F) w w'
section
variable {F : Nat → Prop} {w w' : World} {sb pb b am um tm km n nt : Nat}
theorem is1_len (o : Nat) : ∀ x ∈ is1 o, x.length = 32 := fun x hx => (List.mem_or_eq_of_mem_set hx).elim (rep_len x) (fun e => e ▸ recB_len o 1 1 dOld (by decide))
theorem rNew_eq (o : Nat) : ∃ r : List UInt8, r.length = 31 ∧ recB o 2 dNew.data.toList 0 = 0 :: r ∧ rNew o = 1 :: r := by
  refine ⟨sealB (recT o 2 dNew.data.toList), ?_, rfl, rfl⟩
  have := recB_len o 2 0 dNew (by decide)
  simpa [recB] using this
set_option maxRecDepth 100000 in
set_option maxHeartbeats 1000000 in
theorem handle_put2 {c keep : Nat} (o : Nat) (h : Srv F w sb pb b am um tm km n nt (A1 o) U1 .nilIface (still 9 (is1 o) false c keep 4) T1 K1) (hT : Tabs w) (hF3 : F 3) (hn : n < 1000000) (hnt : nt < 1000000) (ho : o < 256) (h1 : 1 ≤ c) (h6 : c ≤ 6) :
    Calls Tryd.prog 35 #[.pointer (some ⟨sb, 0, none⟩), (mPut 2 o 2 dNew).val, .int .i64 0] w (Put2 F w sb pb o keep) := by
  obtain ⟨r, hr, e0, e1⟩ := rNew_eq o
  obtain ⟨hcase, hwt, x, cc, hcr, hx1, hx2⟩ := put_cut (left := c) (keep := keep) (calls := 4) (is1_len o) (by simp [is1]) (by omega : 1 < 9) (by simp [is1]) hr h1 h6
  have hok := mPut_ok 2 o 2 dNew (by omega) ho (by decide)
  have hwr : ∀ W, Tabs W → Srv (GB F w.heap.size) W sb pb b am um tm km n nt (A1 o) U1 .nilIface (still 9 (is1 o) false c keep 4) T1 K1 →
      Calls Tryd.prog 131 #[.pointer (some ⟨sb, 0, none⟩), (mPut 2 o 2 dNew).val, .int .i64 0] W fun ev w' => ev = .returned (.tuple #[.int .i64 (putE (still 9 (is1 o) false c keep 4) 1 (0 :: r) (1 :: r)), .string ⟨#[]⟩]) ∧ Moves (NotF (GB F w.heap.size)) W w' ∧
        WrPost (GB F w.heap.size) w' sb pb b am um tm km n nt (A1 o) (updA (A1 o) ⟨o, 2, dNew, 1⟩) U1 (updU (updU U1 0 false) 1 true) (putS (still 9 (is1 o) false c keep 4) 1 (0 :: r) (1 :: r)) T1 K1 2 2 (putE (still 9 (is1 o) false c keep 4) 1 (0 :: r) (1 :: r)) := fun W hTW hs => by
    refine kind1_any _ _ _ ?_
    have hbW : Below W.heap.size W (W.alloc (.cells (mPut 2 o 2 dNew).cells.toArray 51)) := (Below.refl _ _).alloc (Nat.le_refl _) _
    have := swrite_over (hs.below hbW) (hTW.below hbW hTW.lt) (.inl hF3) hn hnt 2 3 0 2 2 o 2 dNew (by omega) ho (by omega) (by omega) (by decide) 100 0 (by decide) (by omega) 1 0 rfl (by decide) ⟨o, 1, dOld, 0⟩ rfl (by show 0 < 1000000; omega) (by simp [A1, updA]) (by show 1 < 2; omega)
      1 (fun j hj => by have : j = 0 := by omega
                        subst this; rfl) rfl (by show 1 < 9; omega) (by show 9 ≤ 128; omega) rfl (by show 4 < 10000; omega) (by show 0 < 10000; omega) _ _ rfl rfl
    refine this.mono fun ev w' hq => ?_
    obtain ⟨g1, g2, g3⟩ := hq
    rw [show recB o 2 dNew.data.toList 1 = 1 :: r from e1, e0] at g1 g3
    exact ⟨g1, (Moves.of_below hbW).trans g2 fun i hi => .inl hi, g3⟩
  generalize putE (still 9 (is1 o) false c keep 4) 1 (0 :: r) (1 :: r) = pe at *
  generalize putS (still 9 (is1 o) false c keep 4) 1 (0 :: r) (1 :: r) = ps at *
  rcases hcase with ⟨rfl, hof⟩ | ⟨rfl, hof⟩
  · have := handle_srv h hT rfl (mPut 2 o 2 dNew) hok.1 hok.2 rfl 0 131 (.inl ⟨rfl, rfl⟩) 0 fun W hTW hs => (hwr W hTW hs).mono fun ev w' hq => ⟨hq.1, by
      have := hq.2.2
      unfold WrPost at this
      rw [if_pos rfl] at this
      exact this, hq.2.1⟩
    refine this.mono fun ev w' hq => ?_
    rw [hof] at hq
    exact ⟨true, x, cc, b, am, um, tm, km, _, _, _, _, _, _, _, _, hq.1, hq.2.1, hwt, hcr, hx1.imp id (fun e => e.trans e1.symm), fun _ => (hx2 rfl).trans e1.symm, hq.2.2⟩
  · have := handle_srv h hT rfl (mPut 2 o 2 dNew) hok.1 hok.2 rfl 0 131 (.inl ⟨rfl, rfl⟩) 70 fun W hTW hs => (hwr W hTW hs).mono fun ev w' hq => ⟨hq.1, by
      have := hq.2.2
      unfold WrPost at this
      rw [if_neg (by decide)] at this
      exact this, hq.2.1⟩
    refine this.mono fun ev w' hq => ?_
    rw [hof] at hq
    exact ⟨false, x, cc, b, am, um, tm, km, _, _, _, _, _, _, _, _, hq.1, hq.2.1, hwt, hcr, hx1.imp id (fun e => e.trans e1.symm), fun e => absurd e (by decide), hq.2.2⟩
/-- What the power finds, and what Get tells of it. -/
theorem power_get {b am um tm km n nt cc keep : Nat} {A : Int → Option Pl} {U : Int → Bool} {err : Value} {T : Int → Option Int} {Kn : Int → Option (Int × Int)} (o : Nat) (ho : o < 256) (x : List UInt8) (hx : x[0]? ≠ some 1 ∨ x = rNew o)
    (h : Srv F w sb pb b am um tm km n nt A U err (still 9 ((is1 o).set 1 x) true 0 keep cc) T Kn) (hT : Tabs w) (hF3 : F 3) :
    ∃ y : Bool, (x = rNew o → y = true) ∧ Calls Tryd.prog 38 #[.pointer (some ⟨sb, 0, none⟩)] w fun e w' => e = .returned (.tuple #[]) ∧ Moves (NotF F) w w' ∧
      ∀ W, Below w'.heap.size w' W → Calls Tryd.prog 39 #[.pointer (some ⟨sb, 0, none⟩), .int .i64 (o : Int)] W fun e w'' => e = .returned (.tuple #[.agg #[.int .i64 (o : Int), .int .i64 (if y then 2 else 1), .string (if y then dNew else dOld)], .int .i64 0]) ∧ Below W.heap.size W w'' := by
  have hy : ∃ y : Bool, (x = rNew o → y = true) ∧ (if y then x = rNew o else x[0]? ≠ some 1) := by
    by_cases e : x = rNew o
    · exact ⟨true, fun _ => rfl, by simp [e]⟩
    · refine ⟨false, fun h => absurd h e, ?_⟩
      rcases hx with hx | hx
      · simpa using hx
      · exact absurd hx e
  obtain ⟨y, hy1, hy2⟩ := hy
  refine ⟨y, hy1, ?_⟩
  have hR : Recs (still 9 ((is1 o).set 1 x) true 0 keep cc).power (KK o dOld dNew y) := KK_recs o ho dOld dNew (by decide) (by decide) y _ x rfl rfl hy2
  refine (spower_any h hT hF3 rfl rfl hR).mono fun e w' hq => ?_
  obtain ⟨g1, ⟨b', am', um', tm', km', n', -, g2⟩, g3⟩ := hq
  refine ⟨g1, g3, fun W hW => ?_⟩
  have := sget_any (g2.below hW) rfl o (by omega) _ (KK_open o dOld dNew y)
  refine this.mono fun e w'' hq => ⟨hq.1.trans ?_, hq.2⟩
  cases y <;> rfl
end
end Go.Proofs.YtkbncbkmaakpkaaDoor
