/- The bag's Send. -/
import Derived.Test.YtkbncbkmaakpkaaDoorBagA
import Derived.Deep.RegionHeld3
namespace Go.Proofs.YtkbncbkmaakpkaaDoor
open Go.RowKit
def sendE (l : List Ms) (m : Ms) : Int := if m.check = 0 then (if l.length < 64 then 0 else 2) else m.check
def sendS (l : List Ms) (m : Ms) : List Ms := if m.check = 0 ∧ l.length < 64 then l ++ [m] else l
/-- A message in a block of its own. -/
def Boxed (w : World) (u : Nat) (m : Ms) : Prop := u < w.heap.size ∧ ∀ j x, m.cells[j]? = some x → w.cell? ⟨u, j, none⟩ = some x
theorem Boxed.keep {w w' : World} {u : Nat} {m : Ms} (h : Boxed w u m) (hk : w'.heap[u]? = w.heap[u]?) (hs : w.heap.size ≤ w'.heap.size) : Boxed w' u m :=
  ⟨Nat.lt_of_lt_of_le h.1 hs, fun j x hj => (World.cell?_of_block (a := ⟨u, j, none⟩) hk).trans (h.2 j x hj)⟩
theorem Boxed.below {w w' : World} {u : Nat} {m : Ms} (h : Boxed w u m) (hb : Below w.heap.size w w') : Boxed w' u m := h.keep (hb.block u h.1) hb.size
theorem Boxed.made (w : World) (m : Ms) (t : TypeId) : Boxed (w.alloc (.cells m.cells.toArray t)) w.heap.size m :=
  ⟨by simp, fun j x hj => by rw [World.cell?_alloc_new]; simpa using hj⟩
theorem Boxed.all {w : World} {u : Nat} {m : Ms} (h : Boxed w u m) :
    w.cell? ⟨u, 0, none⟩ = some (.int .i64 m.kind) ∧ w.cell? ⟨u, 1, none⟩ = some (.int .i64 m.src) ∧ w.cell? ⟨u, 2, none⟩ = some (.int .i64 m.dst) ∧ w.cell? ⟨u, 3, none⟩ = some (.int .i64 m.epoch) ∧
    w.cell? ⟨u, 4, none⟩ = some (.int .i64 m.seq) ∧ w.cell? ⟨u, 5, none⟩ = some (.int .i64 m.off) ∧ w.cell? ⟨u, 6, none⟩ = some (.int .i64 m.len) ∧ w.cell? ⟨u, 7, none⟩ = some (.string m.data) :=
  ⟨h.2 0 _ rfl, h.2 1 _ rfl, h.2 2 _ rfl, h.2 3 _ rfl, h.2 4 _ rfl, h.2 5 _ rfl, h.2 6 _ rfl, h.2 7 _ rfl⟩
theorem IsBag.below {w w' : World} {b : Nat} {v : Value} {l : List Ms} (h : IsBag w b v l) (hb : Below w.heap.size w w') : IsBag w' b v l :=
  ⟨h.has.below hb, (World.cell?_of_block (a := ⟨b, 1, none⟩) (hb.block b (h.has.lt b (.inl rfl)))).trans h.most⟩
/-- Behind what only made blocks, a turn. -/
theorem Turned.after {w w1 w2 : World} {b : Nat} {v : Value} {l l2 : List Ms} (h : Has w b v l) (hb : Below w.heap.size w w1) (hT : Turned w1 b v l2 w2) : Turned w b v l2 w2 :=
  Turned.trans (Moves.of_below hb) (fun _ hk => .inl hk) (fun _ _ => World.cell?_of_block (hb.block b (h.lt b (.inl rfl)))) hT
section
variable {w : World} {b : Nat} {v : Value} {l : List Ms}
set_option maxRecDepth 100000 in
set_option maxHeartbeats 2000000 in
theorem send_any (h : IsBag w b v l) (hl : l.length ≤ 64) (m : Ms) (hm : m.fits) :
    Calls Tryd.prog 18 #[.pointer (some ⟨b, 0, none⟩), m.val] w fun e w' => e = .returned (.int .i64 (sendE l m)) ∧ Turned w b v (sendS l m) w' := by
  have hbA : Below w.heap.size w (w.alloc (.cells m.cells.toArray 51)) := (Below.refl _ _).alloc (Nat.le_refl _) _
  have hbxA := Boxed.made w m 51
  have HbA := Lib.hid hbA
  have HbxA := Lib.hid hbxA
  have hck := check_any m hm (w := w.alloc (.cells m.cells.toArray 51))
  clear hbA hbxA
  by_cases hc : m.check = 0
  · have e1 : sendE l m = if l.length < 64 then 0 else 2 := if_pos hc
    have e2 : sendS l m = if l.length < 64 then l ++ [m] else l := by simp [sendS, hc]
    rw [e1, e2]
    rw [hc] at hck
    clear e1 e2 hc
    go_enter Tryd.func18, Tryd.ntmps18
    unfold Ms.val
    go_wp2_with fail
    refine hck.mono ?_
    rintro e w1 ⟨rfl, hb1⟩
    have hbx := HbxA.out.below hb1
    have hbb : Below w.heap.size w w1 := HbA.out.trans (hb1.mono (by simp))
    obtain ⟨q0, q1, q2, q3, q4, q5, q6, q7⟩ := (hbx.below (Below.refl _ _).drew).all
    have hput := put_any (h.below hbb.drew) hl m hm
    clear hck hb1 hbx
    by_cases hlt : l.length < 64
    · rw [decide_eq_true hlt, if_pos hlt] at hput
      have HT : ∀ w2, Turned w1.drew b v (l ++ [m]) w2 → Hid (Turned w b v (l ++ [m]) w2) := fun w2 hT => Turned.after h.has hbb.drew hT
      have H2 := Lib.hid HT
      clear HT
      go_wp2_with fail
      go_region_law (first
        | (go_simp
           go_at_call 55
           refine hput.mono ?_
           rintro e w2 ⟨rfl, hT⟩
           have HT3 := H2.out _ hT
           clear hT))
      all_goals
        clear hput q0 q1 q2 q3 q4 q5 q6 q7
        go_wp2_with fail
        go_ret
        exact ⟨rfl, HT3.out⟩
    · rw [decide_eq_false hlt, if_neg hlt] at hput
      have HT : ∀ w2, Turned w1.drew b v l w2 → Hid (Turned w b v l w2) := fun w2 hT => Turned.after h.has hbb.drew hT
      have H2 := Lib.hid HT
      clear HT
      go_wp2_with fail
      go_region_law (first
        | (go_simp
           go_at_call 55
           refine hput.mono ?_
           rintro e w2 ⟨rfl, hT⟩
           have HT3 := H2.out _ hT
           clear hT))
      all_goals
        clear hput q0 q1 q2 q3 q4 q5 q6 q7
        go_wp2_with fail
        go_ret
        exact ⟨rfl, HT3.out⟩
  · have e1 : sendE l m = m.check := if_neg hc
    have e2 : sendS l m = l := by simp [sendS, hc]
    rw [e1, e2]
    have hne : (m.check != 0) = true := by simpa using hc
    clear e1 e2 hc
    generalize m.check = c at hck hne ⊢
    go_enter Tryd.func18, Tryd.ntmps18
    unfold Ms.val
    go_wp2_with fail
    refine hck.mono ?_
    rintro e w1 ⟨rfl, hb1⟩
    have hbb : Below w.heap.size w w1 := HbA.out.trans (hb1.mono (by simp))
    clear hck
    go_wp2_with fail
    go_ret
    exact ⟨rfl, .quiet h.has hbb⟩
end
end Go.Proofs.YtkbncbkmaakpkaaDoor
