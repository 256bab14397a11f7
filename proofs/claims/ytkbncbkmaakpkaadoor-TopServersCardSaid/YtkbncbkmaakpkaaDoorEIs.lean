/- errors.Join and errors.Is, as shelf.wrong and shelf.Record call them (after the guide's worked text SentryIs). -/
import Derived.Test.YtkbncbkmaakpkaaDoorDoor
import Derived.WalkKit
import Derived.LaidEql
import Derived.Lib.IfaceEq
import Derived.Stop.Asserts
import Derived.RowKitTokens
namespace Go.Proofs.YtkbncbkmaakpkaaDoor
open Go.RowKit Go.Extern.Stop Go.Stop Go.Extern
theorem Tryd.isTypeOf (v : Value) (w : World) : (ReflectliteType.typeOf #[.iface 25 v]).run Tryd.prog w = .ok (.iface 327 (.agg #[.pointer (some ⟨4, 25, none⟩)])) w := by kernel_rfl
theorem Tryd.isComparable (w : World) : ((ReflectliteType.method fun t => do Rtype.noPackHeld "Comparable" t; (fun a => Value.bool a.comparable) <$> typeInfo t) #[.agg #[.pointer (some ⟨4, 25, none⟩)]]).run Tryd.prog w = .ok (.bool true) w := by kernel_rfl
theorem Tryd.isMethodComparable (v : Value) (w : World) : (Go.method 499 327 v "Comparable").run Tryd.prog w = .ok (210, v) w := by kernel_rfl
theorem Tryd.compErrno : (Tryd.prog.info? 25).map (·.comparable) = some true := by kernel_rfl
theorem Tryd.noIsJ (v : Value) (xT : TypeId) (w : World) : (Instr.typeAssert (.iface 351 v) xT 354 true).run Tryd.prog w = .ok (.tuple #[.nilIface, .bool false]) w := run_typeAssert_lacksB Tryd.underlying354 (by kernel_rfl) (by kernel_rfl) v xT w
theorem Tryd.noUnwrapJ (v : Value) (xT : TypeId) (w : World) : (Instr.typeAssert (.iface 351 v) xT 296 true).run Tryd.prog w = .ok (.tuple #[.nilIface, .bool false]) w := run_typeAssert_lacksB Tryd.underlying296 (by kernel_rfl) (by kernel_rfl) v xT w
theorem Tryd.hasUnwrapJ (v : Value) (xT : TypeId) (w : World) : (Instr.typeAssert (.iface 351 v) xT 335 true).run Tryd.prog w = .ok (.tuple #[.iface 351 v, .bool true]) w := run_typeAssert_hasB Tryd.underlying335 (by kernel_rfl) v xT w
theorem Tryd.methodUnwrapJ (v : Value) (w : World) : (Go.method 499 351 v "Unwrap").run Tryd.prog w = .ok (220, v) w := by kernel_rfl
/-- errors.Is(nil, x). -/
theorem is_nil (x : Int) (w : World) : Calls Tryd.prog 174 #[.nilIface, .iface 25 (.int .i64 x)] w fun e w' => e = .returned (.bool false) ∧ w' = w := by
  have hn := run_eql_iface_nil_left (P := Tryd.prog) w 25 (.int .i64 x) Tryd.underlying45
  go_enter Tryd.func174, Tryd.ntmps174
  go_wp2
  go_ret
  exact ⟨rfl, rfl⟩
/-- errors.is(x, x, true). -/
theorem isin_same (x : Int) (w : World) : Calls Tryd.prog 178 #[.iface 25 (.int .i64 x), .iface 25 (.int .i64 x), .bool true] w fun e w' => e = .returned (.bool true) ∧ w' = w := by
  have heq := Lib.run_eql_iface_int (P := Tryd.prog) (k := .i64) w x x Tryd.underlying45 Tryd.compErrno Tryd.underlying25
  rw [show (x == x) = true by simp] at heq
  go_enter Tryd.func178, Tryd.ntmps178
  go_wp2
  refine wp_loop_rounds 1 ?_
  rw [rounds_succ]
  go_wp2
  go_ret
  exact ⟨rfl, rfl⟩
/-- What was joined. -/
theorem unwrap_join (q : Nat) (v : Value) (w : World) (hq : w.cell? ⟨q, 0, none⟩ = some v) : Calls Tryd.prog 220 #[.pointer (some ⟨q, 0, none⟩)] w fun e w' => e = .returned v ∧ w' = w := by
  go_enter Tryd.func220, Tryd.ntmps220
  go_wp2
  go_ret
  exact ⟨rfl, rfl⟩
/-- Of two types: not equal. -/
theorem Tryd.eqlJE (q : Addr) (x : Int) (w : World) : (binOp .eql 45 (.iface 351 (.pointer (some q))) (.iface 25 (.int .i64 x))).run Tryd.prog w = .ok (.bool false) w := by kernel_rfl
set_option maxRecDepth 100000 in
set_option maxHeartbeats 1000000 in
theorem isin_join (q : Nat) (g cap : Nat) (x : Int) (w : World) (hq : w.cell? ⟨q, 0, none⟩ = some (.slice (some ⟨g, 0, none⟩) 1 cap)) (hg : w.cell? ⟨g, 0, none⟩ = some (.iface 25 (.int .i64 x))) :
    Calls Tryd.prog 178 #[.iface 351 (.pointer (some ⟨q, 0, none⟩)), .iface 25 (.int .i64 x), .bool true] w fun e w' => e = .returned (.bool true) ∧ w' = w := by
  have nI := Tryd.noIsJ
  have nU := Tryd.noUnwrapJ
  have hU := Tryd.hasUnwrapJ
  have mU := Tryd.methodUnwrapJ
  have heq := Tryd.eqlJE
  have hin := isin_same x w
  have hun := unwrap_join q _ w hq
  go_enter Tryd.func178, Tryd.ntmps178
  go_wp2_with fail
  refine wp_loop_rounds 1 ?_
  rw [rounds_succ]
  go_wp2_with fail
  refine hun.mono ?_
  rintro e w1 ⟨rfl, rfl⟩
  clear hun
  go_wp2_with fail
  refine wp_loop_rounds 1 ?_
  rw [rounds_succ]
  go_wp2_with fail
  refine hin.mono ?_
  rintro e w1 ⟨rfl, rfl⟩
  clear hin
  go_wp2_with fail
  go_ret
  exact ⟨rfl, rfl⟩
set_option maxRecDepth 100000 in
set_option maxHeartbeats 1000000 in
/-- errors.Is of one that was joined, at that one. -/
theorem is_join (q : Nat) (g cap : Nat) (x : Int) (w : World) (hq : w.cell? ⟨q, 0, none⟩ = some (.slice (some ⟨g, 0, none⟩) 1 cap)) (hg : w.cell? ⟨g, 0, none⟩ = some (.iface 25 (.int .i64 x))) :
    Calls Tryd.prog 174 #[.iface 351 (.pointer (some ⟨q, 0, none⟩)), .iface 25 (.int .i64 x)] w fun e w' => e = .returned (.bool true) ∧ w' = w := by
  have h8 := @run_callFunc_extern Tryd.prog 161 _ ReflectliteType.typeOf Tryd.func161 (by kernel_rfl) (by kernel_rfl) (by kernel_rfl) (by kernel_rfl)
  have h32 := @run_callFunc_extern Tryd.prog 210 _ (ReflectliteType.method fun t => do Rtype.noPackHeld "Comparable" t; pure (.bool (← typeInfo t).comparable)) Tryd.func210 (by kernel_rfl) (by kernel_rfl) (by kernel_rfl) (by kernel_rfl)
  have tT := Tryd.isTypeOf
  have cT := Tryd.isComparable
  have mR := Tryd.isMethodComparable
  have hin := isin_join q g cap x w hq hg
  go_enter Tryd.func174, Tryd.ntmps174
  go_wp2_with fail
  refine hin.mono ?_
  rintro e w1 ⟨rfl, rfl⟩
  clear hin
  go_wp2_with fail
  go_ret
  exact ⟨rfl, rfl⟩
/-- errors.Join of none. -/
theorem join_none (w : World) : Calls Tryd.prog 177 #[.slice none 0 0] w fun e w' => e = .returned .nilIface ∧ w' = w := by
  go_enter Tryd.func177, Tryd.ntmps177
  go_wp2
  refine wp_loop_rounds 1 ?_
  rw [rounds_succ]
  go_wp2
  go_ret
  exact ⟨rfl, rfl⟩
theorem Tryd.mkErrs (w : World) : (Instr.makeSlice 336 (.int .i64 0) (.int .i64 1)).run Tryd.prog w = .ok (.slice (some ⟨w.heap.size, 0, none⟩) 0 1) (w.alloc (.cells #[.nilIface] 45)) := by kernel_rfl
set_option maxRecDepth 100000 in
set_option maxHeartbeats 1000000 in
/-- errors.Join of one. -/
theorem join_one (g cap : Nat) (x : Int) (w : World) (hg : w.cell? ⟨g, 0, none⟩ = some (.iface 25 (.int .i64 x))) : Calls Tryd.prog 177 #[.slice (some ⟨g, 0, none⟩) 1 cap] w fun e w' => ∃ q h c, e = .returned (.iface 351 (.pointer (some ⟨q, 0, none⟩))) ∧ w'.cell? ⟨q, 0, none⟩ = some (.slice (some ⟨h, 0, none⟩) 1 c) ∧ w'.cell? ⟨h, 0, none⟩ = some (.iface 25 (.int .i64 x)) ∧ Below w.heap.size w w' := by
  have hmk := Tryd.mkErrs w
  have hbl := World.block_lt_of_cell? w _ hg
  dsimp only at hbl
  go_enter Tryd.func177, Tryd.ntmps177
  go_wp2_with fail
  refine wp_loop_rounds 2 ?_
  rw [rounds_succ]
  go_wp2_with fail
  rw [rounds_succ]
  go_wp2_with fail
  refine wp_loop_rounds 2 ?_
  rw [rounds_succ]
  go_wp2_with fail
  rw [rounds_succ]
  go_wp2_with fail
  go_ret
  refine ⟨w.heap.size + 1, w.heap.size, 1, rfl, ?_, ?_, (((Below.refl _ _).alloc (Nat.le_refl _) _).alloc (by simp) _).alloc (by simp; omega) _⟩
  · rw [World.cell?_alloc_lt _ _ ⟨w.heap.size + 1, 0, none⟩ (by simp), World.cell?_alloc_at _ _ _ _ (by simp)]; rfl
  · rw [World.cell?_alloc_lt _ _ ⟨w.heap.size, 0, none⟩ (by simp; omega), World.cell?_alloc_lt _ _ ⟨w.heap.size, 0, none⟩ (by simp)]; simp
end Go.Proofs.YtkbncbkmaakpkaaDoor
