/- count: how often a message is in a row. -/
import Derived.Test.YtibpkdaiaoccjaaCntPlain
import Derived.Test.YtibpkdaiaoccjaaBagS
namespace Go.Proofs.Ytibpkdaiaoccjaa
open Go.RowKit
theorem hb2W {B : Nat} {a b : World} (n : Nat) (h : Below B a b) : Below B a (b.drewN n) := h.trans ⟨rfl, rfl, rfl, Nat.le_refl _, fun _ _ => rfl⟩
set_option maxRecDepth 100000 in
set_option maxHeartbeats 2000000 in
theorem count_any {w : World} {base : Nat} {v : Value} {L : List Ms} (h : w.ownsRow base 23 8 v L.length (mrows L)) (hl : L.length ≤ 1000) (m : Ms) :
    Calls Try.prog 21 #[v, m.val] w fun e w' => e = .returned (.int .i64 (cnt m L : Int)) ∧ Below w.heap.size w w' := by
  have hr : ∀ wr, Below w.heap.size w wr → wr.ownsRow base 23 8 v L.length (mrows L) := fun wr hb => ownsRow_keep h fun k hk => hb.block k (h.lt k hk).2
  have hbx : ∀ wr, Below (w.heap.size + 1) (w.alloc (.cells m.cells.toArray 23)) wr → Boxed wr w.heap.size m ∧ Below w.heap.size w wr := fun wr hb =>
    ⟨(Boxed.made w m _).below (by simpa using hb), ((Below.refl _ _).alloc (Nat.le_refl _) _).trans (hb.mono (by omega))⟩
  obtain ⟨a, cap, rfl⟩ := row_len h
  have Hr := Lib.hid hr
  have Hbx := Lib.hid hbx
  clear hr hbx h
  go_enter Try.func21, Try.ntmps21
  unfold Ms.val
  go_wp2_with fail
  go_loopw [5, 6] (fun c i wr => ∃ k : Nat, k ≤ L.length ∧ i = .int .i64 (k : Int) ∧ c = .int .i64 (cnt m (L.take k) : Int) ∧ Below (w.heap.size + 1) (w.alloc (.cells m.cells.toArray 23)) wr) (fun _ i _ => L.length - (intOf i).toNat)
  case atStart => exact ⟨0, Nat.zero_le _, rfl, rfl, Below.refl _ _⟩
  case round =>
    obtain ⟨k, hk, rfl, rfl, hb⟩ := hrel
    obtain ⟨bx, hb0⟩ := Hbx.out _ hb
    by_cases hlt : k < L.length
    · obtain ⟨x, hx⟩ : ∃ x, L[k]? = some x := ⟨_, List.getElem?_eq_getElem hlt⟩
      obtain ⟨g, cap', hv, -, hc⟩ := row_at (Hr.out _ hb0) hx
      simp only [Value.slice.injEq, true_and] at hv
      obtain ⟨rfl, rfl⟩ := hv
      have q0 := hc 0 _ rfl
      have q1 := hc 1 _ rfl
      have q2 := hc 2 _ rfl
      have q3 := hc 3 _ rfl
      have q4 := hc 4 _ rfl
      have q5 := hc 5 _ rfl
      have q6 := hc 6 _ rfl
      have q7 := hc 7 _ rfl
      rw [Nat.add_zero] at q0
      obtain ⟨r0, r1, r2, r3, r4, r5, r6, r7⟩ := bx.all
      have hsn : cnt m (L.take (k + 1)) = cnt m (L.take k) + if x = m then 1 else 0 := by
        have e : L.take (k + 1) = L.take k ++ [x] := by rw [List.take_add_one, hx]; rfl
        rw [e, cnt_snoc]
      have hcl : cnt m (L.take k) ≤ k := by have := cnt_le m (L.take k); rw [List.length_take] at this; omega
      have heq := run_eql_msg x m
      have HB := Lib.hid hb
      by_cases hxm : x = m
      · rw [(Ms.eqb_iff x m).2 hxm] at heq
        rw [if_pos hxm] at hsn
        unfold Ms.val at heq
        have Hsn := Lib.hid hsn
        clear hsn hx hc bx hb0 hb hxm
        go_wp2_with fail
        go_quiet (fail)
        have HB2 := Lib.hid (hb2W nq HB.out)
        clear heq q0 q1 q2 q3 q4 q5 q6 q7 r0 r1 r2 r3 r4 r5 r6 r7
        go_wp2_with fail
        go_roundw
        case rel => exact ⟨k + 1, by omega, by go_num, by rw [Hsn.out]; go_num, HB2.out⟩
        case measure => simp [intOf]; omega
      · rw [show x.eqb m = false by rw [Ms.eqb_dec]; simpa using hxm] at heq
        rw [if_neg hxm, Nat.add_zero] at hsn
        unfold Ms.val at heq
        have Hsn := Lib.hid hsn
        clear hsn hx hc bx hb0 hb hxm
        go_wp2_with fail
        go_quiet (fail)
        have HB2 := Lib.hid (hb2W nq HB.out)
        clear heq q0 q1 q2 q3 q4 q5 q6 q7 r0 r1 r2 r3 r4 r5 r6 r7
        go_wp2_with fail
        go_roundw
        case rel => exact ⟨k + 1, by omega, by go_num, by rw [Hsn.out, Nat.add_zero], HB2.out⟩
        case measure => simp [intOf]; omega
    · have et : L.take k = L := List.take_of_length_le (by omega)
      rw [et]
      clear et bx hb
      go_wp2_with fail
      go_ret
      exact ⟨rfl, hb0⟩
/-- A row of messages, wherever it lies; what keeps all rows. -/
def RowM (W : World) (v : Value) (l : List Ms) : Prop := W.ownsRow 0 23 8 v l.length (mrows l)
theorem RowM.alloc {W : World} {v : Value} {l : List Ms} (h : RowM W v l) (o : Obj) : RowM (W.alloc o) v l := World.ownsRow.alloc h o
theorem RowM.one (W : World) (x : Ms) : RowM (W.alloc (.cells x.cells.toArray 23)) (.slice (some ⟨W.heap.size, 0, none⟩) 1 1) [x] :=
  World.ownsRow_lit (base := 0) (size := 8) (e := 23) W x.cells.toArray 1 (Nat.zero_le _) (by unfold maxLen; omega) (by simp [len_mcells])
def KeepsM (W W' : World) : Prop := ∀ v l, RowM W v l → RowM W' v l
theorem KeepsM.of {W W' : World} (h : Below W.heap.size W W') : KeepsM W W' := fun _ _ hr => ownsRow_keep hr fun k hk => h.block k (hr.lt k hk).2
end Go.Proofs.Ytibpkdaiaoccjaa
