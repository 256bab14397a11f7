/- field.Chain and field.Code, of no error and of a fault that wraps nothing. -/
import Derived.Test.YtkbncbkmaakpkaaDoorErr
import Derived.LaidEqlPtr
import Derived.Lib.IfaceEq
namespace Go.Proofs.YtkbncbkmaakpkaaDoor
open Go.RowKit Go.Extern.Stop Go.Stop Go.Extern
/-- Two interface values of one pointer: equal. -/
theorem run_eql_iface_ptr_same {P : Program} (w : World) {t tp te : TypeId} {ms : Array (String × TypeId)} {j : TypeInfo} (a : Addr)
    (ht : P.underlying t = some (.interface ms)) (hc : (P.info? tp).map (·.comparable) = some true) (hp : P.underlying tp = some (.pointer te)) (hte : P.info? te = some j) :
    (binOp .eql t (.iface tp (.pointer (some a))) (.iface tp (.pointer (some a)))).run P w = .ok (.bool true) w := by
  cases hi : P.info? tp with
  | none => simp [hi] at hc
  | some i =>
    have hcc : i.comparable = true := by simpa [hi] using hc
    have h : ∀ d : Nat, (Op.equalIn (d + 2) t (.iface tp (.pointer (some a))) (.iface tp (.pointer (some a)))).run P w = .ok true w := fun d => by
      simp [Op.equalIn, run_underlying ht, run_underlying hp, typeInfo, hi, hcc, sizeOf, hte, run_sameAddr_same]
    simp only [binOp]
    simp [Op.equal, Op.maxDepth, h 9998]
theorem Tryd.infoF : (Tryd.prog.info? 132).map (·.comparable) = some true := by kernel_rfl
theorem Tryd.eqlF (w : World) (a : Addr) : (binOp .eql 45 (.iface 132 (.pointer (some a))) (.iface 132 (.pointer (some a)))).run Tryd.prog w = .ok (.bool true) w := by
  cases h : Tryd.prog.info? 134 with
  | none => exact absurd h (by have : (Tryd.prog.info? 134).isSome = true := by kernel_rfl
                               intro e; rw [e] at this; cases this)
  | some j => exact run_eql_iface_ptr_same w a Tryd.underlying45 Tryd.infoF Tryd.underlying132 h
theorem as_move (e t : Addr) (old : Value) (w : World) (hg : ErrT w) (ht0 : w.cell? t = some old) (hf0 : w.frozen? t = false) :
    Calls Tryd.prog 100 #[.iface 132 (.pointer (some e)), .iface 224 (.pointer (some t))] w fun ev w' => ev = .returned (.bool true) ∧ Moves (fun k => k = t.block) w w' ∧ w'.cell? t = some (.pointer (some e)) := by
  refine (as_hit e t old w hg ht0 hf0).mono ?_
  rintro ev w' ⟨rfl, rfl⟩
  refine ⟨rfl, (((((Moves.refl _ _).alloc _).alloc _).alloc _).alloc _).setCell _ _ (.inl rfl), ?_⟩
  have hl := World.block_lt_of_cell? w _ ht0
  have hc4 : ∀ o1 o2 o3 o4, ((((w.alloc o1).alloc o2).alloc o3).alloc o4).cell? t = some old := fun o1 o2 o3 o4 => by
    rw [World.cell?_alloc_lt _ _ t (by simp; omega), World.cell?_alloc_lt _ _ t (by simp; omega), World.cell?_alloc_lt _ _ t (by simp; omega), World.cell?_alloc_lt _ _ t hl]; exact ht0
  exact World.cell?_setCell_same _ _ _ (hc4 _ _ _ _)
theorem Tryd.assertF (a : Addr) (w : World) : (Instr.typeAssert (.iface 132 (.pointer (some a))) 45 296 true).run Tryd.prog w = .ok (.tuple #[.iface 132 (.pointer (some a)), .bool true]) w := by kernel_rfl
theorem Tryd.methodF (h : Value) (w : World) : (Go.method 499 132 h "Unwrap").run Tryd.prog w = .ok (203, h) w := by kernel_rfl
set_option maxRecDepth 100000 in
set_option maxHeartbeats 2000000 in
theorem unwrap_fault {w : World} {q : Nat} {e i : Int} (h : IsF w q e i) : Calls Tryd.prog 101 #[.iface 132 (.pointer (some ⟨q, 0, none⟩))] w fun ev w' => ev = .returned .nilIface ∧ w' = w := by
  have c2 := h.c2
  have aF := Tryd.assertF
  have mF := Tryd.methodF
  clear h
  go_enter Tryd.func101, Tryd.ntmps101
  go_wp2
  go_ret
  exact ⟨rfl, rfl⟩
set_option maxRecDepth 100000 in
set_option maxHeartbeats 2000000 in
theorem chain_nil {w : World} : Calls Tryd.prog 52 #[.nilIface] w fun ev w' => ev = .returned (.slice none 0 0) ∧ w' = w := by
  go_enter Tryd.func52, Tryd.ntmps52
  go_wp2
  refine wp_loop_rounds 1 ?_
  rw [rounds_succ]
  go_wp2
  go_ret
  exact ⟨rfl, rfl⟩
set_option maxRecDepth 100000 in
set_option maxHeartbeats 2000000 in
theorem code_nil {w : World} : Calls Tryd.prog 14 #[.nilIface] w fun ev w' => ev = .returned (.int .i64 0) ∧ w' = w := by
  have hc := chain_nil (w := w)
  go_enter Tryd.func14, Tryd.ntmps14
  go_wp2_with fail
  refine hc.mono ?_
  rintro ev w1 ⟨rfl, rfl⟩
  go_wp2_with fail
  go_ret
  exact ⟨rfl, rfl⟩
set_option maxRecDepth 100000 in
set_option maxHeartbeats 2000000 in
theorem chain_fault {w : World} (hg : ErrT w) {q : Nat} {e i : Int} (h : IsF w q e i) : Calls Tryd.prog 52 #[.iface 132 (.pointer (some ⟨q, 0, none⟩))] w fun ev w' => ∃ g cap, ev = .returned (.slice (some ⟨g, 0, none⟩) 1 cap) ∧ w'.cell? ⟨g, 0, none⟩ = some (.int .i64 e) ∧ Below w.heap.size w w' := by
  have hgl := World.block_lt_of_cell? w _ hg
  have H := Lib.hid h
  have HG := Lib.hid hg
  have HGL := Lib.hid hgl
  clear h hg hgl
  go_enter Tryd.func52, Tryd.ntmps52
  go_wp2_with fail
  refine wp_loop_rounds 2 ?_
  rw [rounds_succ]
  go_wp2_with fail
  generalize hW2 : (w.alloc (.cells #[.pointer none] 132)).alloc (.cells #[.int .i64 0] 25) = W2
  have hb2 : Below w.heap.size w W2 := by rw [← hW2]; exact ((Below.refl _ _).alloc (Nat.le_refl _) _).alloc (by simp) _
  have hc2 : W2.cell? ⟨w.heap.size, 0, none⟩ = some (.pointer none) := by rw [← hW2]; simp
  have hf2 : W2.frozen? ⟨w.heap.size, 0, none⟩ = false := by rw [← hW2]; simp
  have hm := as_move ⟨q, 0, none⟩ ⟨w.heap.size, 0, none⟩ (.pointer none) W2 (HG.out.below hb2 HGL.out) hc2 hf2
  have HB2 := Lib.hid hb2
  clear hb2 hc2 hf2
  clear hW2
  refine hm.mono ?_
  rintro ev w3 ⟨rfl, hm3, c3⟩
  have hb3 : Below w.heap.size w w3 := HB2.out.trans (hm3.below HB2.out.size fun k hk => by subst hk; exact Nat.le_refl _)
  have h3 := H.out.below hb3
  have HB3 := Lib.hid hb3
  have H3 := Lib.hid h3
  have c0 := h3.c0
  have eF := Tryd.eqlF
  clear hm hm3 hb3 h3
  go_wp2_with fail
  generalize hZ : (#[Value.int IntKind.i64 e] ++ Builtin.zeroCells #[Value.int IntKind.i64 0] ((Question.appendCap 1 0 25).cut (w3.tape w3.drawn (Question.appendCap 1 0 25)) - 1) : Array Value) = Z
  have hz0 : Z[0]? = some (.int .i64 e) := by rw [← hZ]; rw [Array.getElem?_append_left (by simp)]; rfl
  clear hZ
  generalize (Question.appendCap 1 0 25).cut (w3.tape w3.drawn (Question.appendCap 1 0 25)) = cap
  generalize hW4 : ((w3.alloc (.cells #[.int .i64 e] 25)).alloc (.cells Z 25)).drew = W4
  have hb4 : Below w3.heap.size w3 W4 := by rw [← hW4]; exact (((Below.refl _ _).alloc (Nat.le_refl _) _).alloc (by simp) _).drew
  have hg4 : W4.cell? ⟨w3.heap.size + 1, 0, none⟩ = some (.int .i64 e) := by
    rw [← hW4]
    show ((w3.alloc (.cells #[.int .i64 e] 25)).alloc (.cells Z 25)).cell? ⟨w3.heap.size + 1, 0, none⟩ = _
    rw [World.cell?_alloc_at _ _ _ _ (by simp)]
    exact hz0
  have hu := unwrap_fault (H3.out.below hb4)
  have hbf : Below w.heap.size w W4 := HB3.out.trans (hb4.mono HB3.out.size)
  have HBF := Lib.hid hbf
  have HG4 := Lib.hid hg4
  clear hW4 hb4 hg4 hbf hz0
  refine hu.mono ?_
  rintro ev w5 ⟨rfl, rfl⟩
  clear hu
  go_wp2_with fail
  rw [rounds_succ]
  go_wp2_with fail
  go_ret
  exact ⟨_, _, rfl, HG4.out, HBF.out⟩
set_option maxRecDepth 100000 in
set_option maxHeartbeats 2000000 in
theorem code_fault {w : World} (hg : ErrT w) {q : Nat} {e i : Int} (h : IsF w q e i) : Calls Tryd.prog 14 #[.iface 132 (.pointer (some ⟨q, 0, none⟩))] w fun ev w' => ev = .returned (.int .i64 e) ∧ Below w.heap.size w w' := by
  have hc := chain_fault hg h
  clear hg h
  go_enter Tryd.func14, Tryd.ntmps14
  go_wp2_with fail
  refine hc.mono ?_
  rintro ev w1 ⟨g, cap, rfl, hce, hb⟩
  have HB := Lib.hid hb
  clear hc hb
  go_wp2_with fail
  go_ret
  exact ⟨rfl, HB.out⟩
end Go.Proofs.YtkbncbkmaakpkaaDoor
