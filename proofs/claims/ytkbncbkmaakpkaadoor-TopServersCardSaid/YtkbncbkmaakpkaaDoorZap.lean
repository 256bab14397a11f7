/- append of k zero bytes (append(t, make([]byte, k)...)) onto a row that is owned. No program in sight. -/
import Derived.Test.YtkbncbkmaakpkaaDoorStrAt
import Derived.Lib.AppendZerosOnto
namespace Go.Proofs.YtkbncbkmaakpkaaDoor
open Go.RowKit Go.Lib
def zbytes (k : Nat) : List Value := List.replicate k (.int .u8 0)
theorem length_zbytes (k : Nat) : (zbytes k).length = k := by simp [zbytes]
theorem one_zbytes (k : Nat) : ∀ v ∈ zbytes k, v.oneCell' = true := by
  intro v hv
  rw [List.eq_of_mem_replicate hv]
  rfl
theorem zero_zbytes (k : Nat) : Builtin.zeroCells #[.int .u8 0] k = (zbytes k).toArray := by
  unfold Builtin.zeroCells zbytes
  apply Array.ext_getElem?
  intro j
  simp only [List.getElem?_toArray, List.getElem?_replicate, Array.getElem?_map, List.size_toArray, List.length_singleton, Nat.mul_one]
  by_cases h : j < k
  · rw [Array.getElem?_range, if_pos h, if_pos h]; simp [Nat.mod_one]
  · rw [Array.getElem?_range, if_neg h, if_neg h]; simp
section
variable {P : Program} {w : World}
theorem run_append_room_zeros (t tn ty e : TypeId) (i : TypeInfo) (ht : P.underlying t = some (.slice e)) (htn : P.underlying tn = some (.int .i64)) (hi : P.info? e = some i) (hz : i.zero = some (.int .u8 0)) (hs1 : i.size = 1) (hby : i.bytes = 1)
    (g sLen sCap : Nat) (cur : Array Value) (hg : w.heap[g]? = some (.cells cur e (0, 0))) (k : Nat) (hroom : sLen + k ≤ sCap) (hfit : sLen + k ≤ cur.size) (hk : k ≤ 1000000) :
    (Builtin.append_ #[t, tn] ty #[.slice (some ⟨g, 0, none⟩) sLen sCap, .int .i64 (k : Int)]).run P w =
      .ok (.slice (some ⟨g, 0, none⟩) (sLen + k) sCap) (w.setRow g (cur.toList.take sLen ++ zbytes k ++ cur.toList.drop (sLen + k)).toArray) := by
  have hst := run_storeCells_at P g sLen e (zbytes k) 0 cur w hg (by simpa [length_zbytes] using hfit) (one_zbytes k)
  simp only [Nat.add_zero, length_zbytes] at hst
  have hw : IntKind.i64.wrap (k : Int) = k := by rw [IntKind.wrap_i64]; omega
  have h48i : ¬ (281474976710656 < (k : Int)) := by omega
  have hneg : ¬ ((k : Int) < 0) := by omega
  have hzz := zero_zbytes k
  by_cases h0 : k = 0
  · subst h0
    have e0 : zbytes 0 = [] := rfl
    rw [e0] at hst ⊢
    have hw0 : IntKind.i64.wrap 0 = 0 := by rw [IntKind.wrap_i64]; omega
    have hroom0 : sLen ≤ sCap := hroom
    simp at hst
    simp [Builtin.append_, run_underlying ht, run_underlying htn, sizeOf, typeInfo, hi, hs1, asInt, asIntOf, hw0, hroom0, Addr.add_lit, hst]
  · simp [Builtin.append_, run_underlying ht, run_underlying htn, sizeOf, typeInfo, zeroValue, hi, hz, hs1, hby, asInt, asIntOf, hw, hneg, h48i, h0, hroom, Value.cells, hzz, Addr.add_lit, hst]
theorem run_append_own_zeros (base : Nat) (t tn ty e : TypeId) (i : TypeInfo) (ht : P.underlying t = some (.slice e)) (htn : P.underlying tn = some (.int .i64)) (hi : P.info? e = some i) (hz : i.zero = some (.int .u8 0)) (hs1 : i.size = 1) (hby : i.bytes = 1)
    (v : Value) (n : Nat) (xs : List Value) (hown : w.ownsRow base e 1 v n xs) (hn : 0 < n) (k : Nat) (h63 : n + k ≤ 1000000) (hbase : base ≤ w.heap.size) :
    ∃ v' w', (Builtin.append_ #[t, tn] ty #[v, .int .i64 (k : Int)]).run P w = .ok v' w' ∧ w'.ownsRow base e 1 v' (n + k) (xs ++ zbytes k) ∧ w.grownBy w' v.ownBlock ∧ (v'.ownBlock = v.ownBlock ∨ v'.ownBlock = some w.heap.size) := by
  have hxl : xs.length = n := by simpa using hown.1
  have hlen : (xs ++ zbytes k).length = (n + k) * 1 := by rw [List.length_append, hxl, length_zbytes, Nat.mul_one]
  rcases hown.2 with ⟨rfl, rfl⟩ | ⟨g, cap, cur, rfl, hbg, hg, hnc, hcm, hcs, htake⟩
  · omega
  · by_cases hroom : n + k ≤ cap
    · have hcs' : cur.size = cap := by simpa using hcs
      have hr := run_append_room_zeros (P := P) t tn ty e i ht htn hi hz hs1 hby g n cap cur hg k hroom (by omega) (by omega)
      refine ⟨_, _, hr, ⟨hlen, .inr ⟨g, cap, _, rfl, hbg, setRow_heap w g cur _ e _ hg, hroom, hcm, ?_, ?_⟩⟩, ⟨rfl, rfl, rfl, by simp, fun k _ hk => setRow_other w g k _ (fun e => hk (by simp [Value.ownBlock, e]))⟩, .inl rfl⟩
      · simp only [List.size_toArray, List.length_append, List.length_take, List.length_drop, Array.length_toList, length_zbytes]
        omega
      · rw [Nat.mul_one] at htake
        rw [htake, Nat.mul_one]
        rw [show n + k = (xs ++ zbytes k).length by omega]
        exact List.take_left
    · have holds : ∀ j u, xs[j]? = some u → w.cell? ((⟨g, 0, none⟩ : Addr).add j) = some u := hown.cells (g := g) rfl
      have hr := run_append_grow_zeros (P := P) w t tn ty e i (.int .u8 0) .i64 .i64 ht htn hi hz (some ⟨g, 0, none⟩) n cap xs (by
        have := run_firstCells_some (P := P) w.drew i.size n ⟨g, 0, none⟩ n cap xs (by rw [hs1]; simpa using hxl) (by simpa using holds)
        exact this) k (by omega) (by rw [hs1]; decide) (by omega) (by omega) (by rw [hby]; omega) (by rw [hby]; exact growslice_fits (by omega) (by omega))
      have hge := grownCap_ge w (n + k) cap e
      have hcm2 : grownCap w (n + k) cap e ≤ maxLen := grownCap_le_maxLen w (n + k) cap e (by unfold maxLen; omega)
      rw [show (Value.int IntKind.u8 0).cells = #[.int .u8 0] from rfl, zero_zbytes, zero_zbytes] at hr
      refine ⟨_, _, hr, ⟨hlen, .inr ⟨w.heap.size, _, _, rfl, hbase, heap_alloc_new w.drew _, hge, hcm2, ?_, ?_⟩⟩, ⟨rfl, rfl, rfl, by simp, fun k hk _ => Below.heap_alloc w.drew _ k hk⟩, .inr rfl⟩
      · simp only [Array.size_append, List.size_toArray, hxl, length_zbytes]
        omega
      · simp only [Array.toList_append, List.append_assoc]
        rw [← List.append_assoc, ← hlen]
        exact List.take_left
theorem wpList_append_zeros_at {ops : Array Oper} {rest : List Oper} {o : Oper} {a : Act} {Q : Exit → Act → World → Prop} (hgd : o.guard = none) (sl x : Operand) (t tn : TypeId)
    (ho : o.op = .call { callee := .builtin .append, args := #[sl, x], argTypes := #[t, tn] })
    (base : Nat) (e : TypeId) (i : TypeInfo) (ht : P.underlying t = some (.slice e)) (htn : P.underlying tn = some (.int .i64)) (hi : P.info? e = some i) (hz : i.zero = some (.int .u8 0)) (hs1 : i.size = 1) (hby : i.bytes = 1)
    (v : Value) (n : Nat) (xs : List Value) (hs : a.eval sl = v) (hown : w.ownsRow base e 1 v n xs) (hn : 0 < n) (k : Nat) (hx : a.eval x = .int .i64 (k : Int)) (h63 : n + k ≤ 1000000) (hbase : base ≤ w.heap.size)
    (h : ∀ v' w', w'.ownsRow base e 1 v' (n + k) (xs ++ zbytes k) → w.grownBy w' v.ownBlock → (v'.ownBlock = v.ownBlock ∨ v'.ownBlock = some w.heap.size) → wpList P ops Q rest (a.put o.dst v') w') : wpList P ops Q (o :: rest) a w := by
  refine wpList_plain hgd fun K hK => ?_
  obtain ⟨v', w', hr, h2, h3, h5⟩ := run_append_own_zeros (P := P) base t tn o.type e i ht htn hi hz hs1 hby v n xs hown hn k h63 hbase
  unfold Oper.wp execOp
  simp only [ho, resolve, invoke, builtin, Sem.run_bind, Sem.run_pure, Result.andThen_ok, List.map_toArray, List.map_cons, List.map_nil, hs, hx, hr]
  exact hK _ _ (h v' w' h2 h3 h5)
end
end Go.Proofs.YtkbncbkmaakpkaaDoor
