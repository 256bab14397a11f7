/- An acceptor as it lies in memory; New, since, Votes. -/
import Derived.Test.YtkbncbkmaakpkaaDoorFw
namespace Go.Proofs.YtkbncbkmaakpkaaDoor
open Go.RowKit
/-- What an acceptor holds of a slot. -/
structure Vt where
  bal : Int
  val : ByteArray
/-- A vote: a slot's value, by a ballot. -/
structure Vote where
  slot : Int
  bal : Int
  val : ByteArray
namespace Vote
def cells (v : Vote) : List Value := [.int .i64 v.slot, .int .i64 v.bal, .string v.val]
def val' (v : Vote) : Value := .agg #[.int .i64 v.slot, .int .i64 v.bal, .string v.val]
def zero : Vote := ⟨0, 0, ⟨#[]⟩⟩
end Vote
theorem one_vcells (v : Vote) : ∀ x ∈ v.cells, x.oneCell' = true := by
  intro x hx
  simp only [Vote.cells, List.mem_cons, List.not_mem_nil, or_false] at hx
  rcases hx with rfl | rfl | rfl <;> rfl
def vrows (l : List Vote) : List Value := l.flatMap Vote.cells
theorem vrows_app (a b : List Vote) : vrows (a ++ b) = vrows a ++ vrows b := by simp [vrows]
theorem length_vrows (l : List Vote) : (vrows l).length = l.length * 3 := by
  induction l with
  | nil => rfl
  | cons x r ih => show (x.cells ++ vrows r).length = _; rw [List.length_append, ih]; simp [Vote.cells]; omega
theorem one_vrows (l : List Vote) : ∀ v ∈ vrows l, v.oneCell' = true := by
  intro v hv
  obtain ⟨m, _, h⟩ := List.mem_flatMap.1 hv
  exact one_vcells m v h
theorem vrows_at : ∀ (l : List Vote) (k : Nat) (m : Vote), l[k]? = some m → ∀ j v, m.cells[j]? = some v → (vrows l)[k * 3 + j]? = some v
  | [], k, m, h, _, _, _ => by simp at h
  | y :: r, 0, m, h, j, v, hv => by
    simp at h
    subst h
    have hj : j < y.cells.length := (List.getElem?_eq_some_iff.1 hv).1
    show (y.cells ++ vrows r)[0 * 3 + j]? = _
    rw [Nat.zero_mul, Nat.zero_add, List.getElem?_append_left hj]
    exact hv
  | y :: r, k + 1, m, h, j, v, hv => by
    have hy : y.cells.length = 3 := rfl
    show (y.cells ++ vrows r)[(k + 1) * 3 + j]? = _
    rw [List.getElem?_append_right (by omega), hy, show (k + 1) * 3 + j - 3 = k * 3 + j by omega]
    exact vrows_at r k m (by simpa using h) j v hv
theorem Tryd.infoVote : (Tryd.prog.info? 33).map (fun i => (i.zero, i.size, i.bytes)) = some (some Vote.zero.val', 3, 32) := by kernel_rfl
/-- A vote in a block of its own. -/
def VBox (w : World) (u : Nat) (v : Vote) : Prop := ∀ j x, v.cells[j]? = some x → w.cell? ⟨u, j, none⟩ = some x
theorem VBox.lt {w : World} {u : Nat} {v : Vote} (h : VBox w u v) : u < w.heap.size := World.block_lt_of_cell? w _ (h 0 _ rfl)
theorem VBox.keep {w w' : World} {u : Nat} {v : Vote} (h : VBox w u v) (hk : w'.heap[u]? = w.heap[u]?) : VBox w' u v := fun j x hj => (World.cell?_of_block (a := ⟨u, j, none⟩) hk).trans (h j x hj)
theorem VBox.made (w : World) (v : Vote) (T : TypeId) : VBox (w.alloc (.cells v.cells.toArray T)) w.heap.size v := fun j x hj => by
  rw [World.cell?_alloc_new]; simpa using hj
/-- The cell of a slot. -/
def vptr (B : Nat → Nat) (V : Nat → Option Vt) (i : Nat) : Value := match V i with
  | none => .pointer none
  | some _ => .pointer (some ⟨B i, 0, none⟩)
/-- An acceptor at b: what it promised, its votes (in the blocks B). -/
structure IsAcc (w : World) (b : Nat) (p : Int) (B : Nat → Nat) (V : Nat → Option Vt) : Prop where
  c0 : w.cell? ⟨b, 0, none⟩ = some (.int .i64 p)
  cs : ∀ i, i < 4096 → w.cell? ⟨b, 1 + i, none⟩ = some (vptr B V i)
  vs : ∀ i x, V i = some x → VBox w (B i) ⟨i, x.bal, x.val⟩
  fro : ∀ o, w.frozen? ⟨b, o, none⟩ = false
/-- An acceptor, whose votes lie in none of the blocks X. -/
def Acc (w : World) (X : Nat → Prop) (b : Nat) (p : Int) (V : Nat → Option Vt) : Prop := ∃ B, IsAcc w b p B V ∧ ∀ i x, V i = some x → ¬ X (B i)
section
variable {w w' : World} {X Y : Nat → Prop} {b b' : Nat} {p : Int} {V : Nat → Option Vt} {B : Nat → Nat}
theorem IsAcc.lt (h : IsAcc w b p B V) : b < w.heap.size := World.block_lt_of_cell? w _ h.c0
theorem IsAcc.keep (h : IsAcc w b p B V) (hk : w'.heap[b]? = w.heap[b]?) (hv : ∀ i x, V i = some x → w'.heap[B i]? = w.heap[B i]?) : IsAcc w' b p B V :=
  ⟨(World.cell?_of_block (a := ⟨b, 0, none⟩) hk).trans h.c0, fun i hi => (World.cell?_of_block (a := ⟨b, 1 + i, none⟩) hk).trans (h.cs i hi), fun i x hx => (h.vs i x hx).keep (hv i x hx), fun o => (World.frozen?_of_block (a := ⟨b, o, none⟩) hk).trans (h.fro o)⟩
theorem IsAcc.below (h : IsAcc w b p B V) (hb : Below w.heap.size w w') : IsAcc w' b p B V := h.keep (hb.block b h.lt) fun i x hx => hb.block _ (h.vs i x hx).lt
theorem Acc.lt (h : Acc w X b p V) : b < w.heap.size := h.choose_spec.1.lt
theorem Acc.below (h : Acc w X b p V) (hb : Below w.heap.size w w') : Acc w' X b p V := by
  obtain ⟨B, h1, h2⟩ := h
  exact ⟨B, h1.below hb, h2⟩
theorem Acc.moves (h : Acc w X b p V) (hm : Moves (fun q => q = b') w w') (hX : X b') (hne : b ≠ b') : Acc w' X b p V := by
  obtain ⟨B, h1, h2⟩ := h
  exact ⟨B, h1.keep (hm.block b h1.lt hne) fun i x hx => hm.block _ (h1.vs i x hx).lt fun e => h2 i x hx (e ▸ hX), h2⟩
/-- The blocks X may be others, where no vote lies in them. -/
theorem Acc.also (h : Acc w X b p V) (hY : ∀ q, q < w.heap.size → Y q → X q) : Acc w Y b p V := by
  obtain ⟨B, h1, h2⟩ := h
  exact ⟨B, h1, fun i x hx hy => h2 i x hx (hY _ (h1.vs i x hx).lt hy)⟩
def zAcc : List Value := .int .i64 0 :: List.replicate 4096 (.pointer none)
set_option maxRecDepth 1000000 in
theorem Tryd.infoAcc : (Tryd.prog.info? 115).map (fun i => (i.zero, i.size)) = some (some (.agg zAcc.toArray), 4097) := by kernel_rfl
set_option maxRecDepth 1000000 in
theorem Tryd.infoRow : (Tryd.prog.info? 113).map (·.size) = some 4096 := by kernel_rfl
set_option maxRecDepth 100000 in
theorem newacc_any (X : Nat → Prop) : Calls Tryd.prog 7 #[] w fun e w' => e = .returned (.pointer (some ⟨w.heap.size, 0, none⟩)) ∧ Acc w' X w.heap.size 0 (fun _ => none) ∧ Below w.heap.size w w' := by
  have hz := (zero_of_info Tryd.infoAcc).1
  have hfin : Acc (w.alloc (.cells zAcc.toArray 115)) X w.heap.size 0 (fun _ => none) ∧ Below w.heap.size w (w.alloc (.cells zAcc.toArray 115)) := by
    refine ⟨⟨fun _ => 0, ⟨?_, fun i hi => ?_, fun i x hx => by simp at hx, fun o => World.frozen?_alloc_new _ _ _ _⟩, fun i x hx => by simp at hx⟩, (Below.refl _ _).alloc (Nat.le_refl _) _⟩
    · rw [World.cell?_alloc_new]; rfl
    · rw [World.cell?_alloc_new, List.getElem?_toArray]
      unfold zAcc vptr
      rw [Nat.add_comm, List.getElem?_cons_succ, List.getElem?_replicate, if_pos hi]
  have HF := Lib.hid hfin
  clear hfin
  go_enter Tryd.func7, Tryd.ntmps7
  go_wp2_with fail
  go_ret
  exact ⟨rfl, HF.out⟩
set_option maxRecDepth 100000 in
theorem Tryd.idxRow (CL : List Value) (k : Nat) (x : Value) (hk : k < 4096) (hx : CL[k]? = some x) (w : World) : (Instr.index 113 (.agg CL.toArray) (.int .i64 (k : Int))).run Tryd.prog w = .ok x w := by
  have hu := Tryd.underlying113
  have hs : (sizeOf 112).run Tryd.prog w = .ok 1 w := by kernel_rfl
  have ha : (isAgg 112).run Tryd.prog w = .ok false w := by kernel_rfl
  have h1 : (0 : Int) ≤ (k : Int) ∧ (k : Int) < ((4096 : Nat) : Int) := ⟨by omega, by omega⟩
  simp only [Instr.index, asIntOf, Sem.run_bind, Sem.run_pure, Result.andThen_ok, run_underlying hu]
  rw [if_pos h1]
  simp only [Sem.run_bind, hs, Result.andThen_ok, part, ha, Bool.false_eq_true, if_false, Int.toNat_natCast, Nat.mul_one, List.getElem?_toArray, hx, Sem.run_pure]
/-- The votes of the slots from lo on, below k. -/
def votesTo (V : Nat → Option Vt) (lo : Int) (k : Nat) : List Vote := (List.range k).filterMap fun (i : Nat) => if lo ≤ (i : Int) then (V i).map fun x => ⟨(i : Int), x.bal, x.val⟩ else none
theorem votesTo_succ (V : Nat → Option Vt) (lo : Int) (k : Nat) : votesTo V lo (k + 1) = votesTo V lo k ++ (if lo ≤ (k : Int) then (match V k with | none => [] | some x => [⟨(k : Int), x.bal, x.val⟩]) else []) := by
  unfold votesTo
  rw [List.range_succ, List.filterMap_append]
  congr 1
  by_cases h : lo ≤ (k : Int)
  · cases hv : V k <;> simp [h, hv]
  · simp [h]
theorem votesTo_len (V : Nat → Option Vt) (lo : Int) (k : Nat) : (votesTo V lo k).length ≤ k := by
  have := List.length_filterMap_le (fun (i : Nat) => if lo ≤ (i : Int) then (V i).map fun x => (⟨(i : Int), x.bal, x.val⟩ : Vote) else none) (List.range k)
  simpa [votesTo] using this
set_option maxRecDepth 100000 in
set_option maxHeartbeats 4000000 in
theorem since_any (h : Acc w X b p V) (lo : Int) :
    Calls Tryd.prog 42 #[.pointer (some ⟨b, 0, none⟩), .int .i64 lo] w fun e w' => ∃ v, e = .returned v ∧ w'.ownsRow w.heap.size 33 3 v (votesTo V lo 4096).length (vrows (votesTo V lo 4096)) ∧ Below w.heap.size w w' := by
  obtain ⟨i0, hi0, hz0, hz1, hz2⟩ := info_parts Tryd.infoVote
  have Hi := Lib.hid hi0
  have Hz := Lib.hid hz0
  have Hz1 := Lib.hid hz1
  have Hz2 := Lib.hid hz2
  clear hi0 hz0 hz1 hz2
  obtain ⟨B, h1, -⟩ := h
  obtain ⟨CL, hCL⟩ : ∃ CL, CL = (List.range 4096).map (vptr B V) := ⟨_, rfl⟩
  have hrng : w.rangeAt b 1 CL := fun j u hj => by
    subst hCL
    have hjl : j < 4096 := by have := (List.getElem?_eq_some_iff.1 hj).1; simpa using this
    rw [h1.cs j hjl]
    simp [hjl] at hj
    rw [hj]
  have hln : CL.length = 4096 := by subst hCL; simp
  have hat : ∀ k, k < 4096 → CL[k]? = some (vptr B V k) := fun k hk => by subst hCL; simp [hk]
  have hsz : (Tryd.prog.info? 113).map (·.size) = some CL.length := by rw [hln]; exact Tryd.infoRow
  have H1 := Lib.hid h1
  have Hat := Lib.hid hat
  have Hln := Lib.hid hln
  clear hCL hln hat h1
  go_enter Tryd.func42, Tryd.ntmps42
  go_wp2_with (refine wpList_load_mid rfl 113 (.tmp 10) rfl b 1 rfl CL _ hrng Tryd.underlying113 rfl hsz ?_)
  go_loopw [5, 6, 7, 12] (fun v _ _ c wr => ∃ k : Nat, k ≤ 4096 ∧ c = .int .i64 (k : Int) ∧ wr.ownsRow w.heap.size 33 3 v (votesTo V lo k).length (vrows (votesTo V lo k)) ∧ Below w.heap.size w wr) (fun _ _ _ c _ => 4096 - (intOf c).toNat)
  case atStart => exact ⟨0, by omega, rfl, by show World.ownsRow _ _ _ _ _ 0 []; exact World.ownsRow_nil _ _ _ _, Below.refl _ _⟩
  case round =>
    obtain ⟨k, hk, rfl, ho, hb⟩ := hrel
    by_cases hlt : k < 4096
    · have hidx := Tryd.idxRow CL k _ hlt (Hat.out k hlt)
      have hsn := votesTo_succ V lo k
      have hln := votesTo_len V lo k
      obtain ⟨a, cap, rfl⟩ := row_lens ho
      cases hv : V k with
      | none =>
        rw [show vptr B V k = .pointer none by unfold vptr; rw [hv]] at hidx
        have hs2 : votesTo V lo (k + 1) = votesTo V lo k := by rw [hsn, hv]; simp
        have HS2 := Lib.hid hs2
        have HO := Lib.hid ho
        have HB := Lib.hid hb
        clear hsn hs2 ho hb hv
        go_wp2_with fail
        go_roundw
        case rel => exact ⟨k + 1, by omega, by go_num, by rw [HS2.out]; exact HO.out, HB.out⟩
        case measure => simp [intOf]; omega
      | some x =>
        rw [show vptr B V k = .pointer (some ⟨B k, 0, none⟩) by unfold vptr; rw [hv]] at hidx
        have hvb := (H1.out.vs k x hv)
        have hvk : VBox wr (B k) ⟨k, x.bal, x.val⟩ := hvb.keep (hb.block _ hvb.lt)
        by_cases hlo : lo ≤ (k : Int)
        · have e1 : decide (lo ≤ (k : Int)) = true := by simpa using hlo
          have hs2 : votesTo V lo (k + 1) = votesTo V lo k ++ [⟨(k : Int), x.bal, x.val⟩] := by rw [hsn, if_pos hlo, hv]
          have z0 := hvk 0 _ rfl
          have z1 := hvk 1 _ rfl
          have z2 := hvk 2 _ rfl
          dsimp only at z0 z1 z2
          have hbA : Below w.heap.size w (wr.alloc (.cells #[.int .i64 (k : Int), .int .i64 x.bal, .string x.val] 33)) := hb.alloc hb.size _
          have hoA := World.ownsRow.alloc ho (.cells #[.int .i64 (k : Int), .int .i64 x.bal, .string x.val] 33)
          have hcl : ∀ j u, (Vote.cells ⟨(k : Int), x.bal, x.val⟩)[j]? = some u → (wr.alloc (.cells #[.int .i64 (k : Int), .int .i64 x.bal, .string x.val] 33)).cell? ((⟨wr.heap.size, 0, none⟩ : Addr).add j) = some u := fun j u hj => by
            rw [Addr.add_mid, Nat.zero_add, World.cell?_alloc_new]
            simpa [Vote.cells] using hj
          have hml : (votesTo V lo k).length + 1 ≤ maxLen := by unfold maxLen; omega
          have hbs := hbA.size
          have O1 := one_vcells ⟨(k : Int), x.bal, x.val⟩
          have HS2 := Lib.hid hs2
          have HOA := Lib.hid hoA
          have HBA := Lib.hid hbA
          have Hcl := Lib.hid hcl
          generalize votesTo V lo k = LL at HS2 HOA hln hml ⊢
          clear hsn hs2 ho hb hv hvb hvk hbA hoA hcl
          go_wp2_with (refine wpList_append_own_at _ rfl (.tmp 23) (.tmp 27) 28 rfl w.heap.size 33 i0 _ 3 32 Tryd.underlying28 Hi.out Hz.out Hz1.out Hz2.out rfl (by decide) _ LL.length (vrows LL) rfl HOA.out ⟨wr.heap.size, 0, none⟩ 1 1 (Vote.cells ⟨(k : Int), x.bal, x.val⟩) rfl rfl Hcl.out O1 hml (by omega) hbs ?_)
          intro v5 w5 hown5 hgrow hnn hor
          have hb5 : Below w.heap.size w w5 := HBA.out.trans ⟨hgrow.os, hgrow.tape, hgrow.output, hgrow.size, fun q hq => hgrow.block q (Nat.lt_of_lt_of_le hq HBA.out.size) (fun e => by have := (HOA.out.lt q e.symm).1; omega)⟩
          have HO5 := Lib.hid (show w5.ownsRow w.heap.size 33 3 v5 (votesTo V lo (k + 1)).length (vrows (votesTo V lo (k + 1))) by
            rw [HS2.out, List.length_append, vrows_app]; exact hown5)
          have HB5 := Lib.hid hb5
          clear hown5 hgrow hnn hor hb5
          go_wp2_with fail
          go_roundw
          case rel => exact ⟨k + 1, by omega, by go_num, HO5.out, HB5.out⟩
          case measure => simp [intOf]; omega
        · have e1 : decide (lo ≤ (k : Int)) = false := by simpa using hlo
          have hs2 : votesTo V lo (k + 1) = votesTo V lo k := by rw [hsn, if_neg hlo]; simp
          have HS2 := Lib.hid hs2
          have HO := Lib.hid ho
          have HB := Lib.hid hb
          clear hsn hs2 ho hb hv hvb hvk
          go_wp2_with fail
          go_roundw
          case rel => exact ⟨k + 1, by omega, by go_num, by rw [HS2.out]; exact HO.out, HB.out⟩
          case measure => simp [intOf]; omega
    · have ek : k = 4096 := by omega
      subst ek
      have HO := Lib.hid ho
      have HB := Lib.hid hb
      clear ho hb
      go_wp2_with fail
      go_ret
      exact ⟨_, rfl, HO.out, HB.out⟩
end
end Go.Proofs.YtkbncbkmaakpkaaDoor
