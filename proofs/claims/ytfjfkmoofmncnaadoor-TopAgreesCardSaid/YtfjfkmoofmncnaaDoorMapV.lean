/- Maps with elements of whatever kind: the block b is a map that has at the key kl the value f kl. No program in sight. -/
import Derived.Test.YtfjfkmoofmncnaaDoorMa
import Derived.Maps.OwnSet
import Derived.Maps.OwnOps
import Derived.WideKeyEntry
namespace Go.Proofs.YtfjfkmoofmncnaaDoor
open Go.RowKit Go.Maps

def anyV (v : Value) : Option (DataW Value × List MemPlace) := some (.held v, [])
/-- Block b of w is a map of at most n entries; at each key it has what f tells. -/
def HasMap (P : Program) (k : TypeId) (w : World) (b n : Nat) (f : Lit → Option Value) : Prop :=
  ∃ D : DataW Value, w.ownsMap P k anyV b n D ∧ Maps.IsMap D ∧ ∀ kl, (∀ z, D.atKey kl (.held z) = .held ((f kl).getD z)) ∧ Maps.has D kl = (f kl).isSome
def updM (f : Lit → Option Value) (kl : Lit) (v : Option Value) (x : Lit) : Option Value := bif x.sameKey kl then v else f x
theorem updM_same {f : Lit → Option Value} {kl : Lit} {v : Option Value} (h : WideAt.IsKeyLit kl) : updM f kl v kl = v := by simp [updM, WideAt.sameKey_self h]
theorem updM_other {f : Lit → Option Value} {kl x : Lit} {v : Option Value} (h : x ≠ kl) : updM f kl v x = f x := by simp [updM, Maps.sameKey_ne h]
section
variable {P : Program} {k : TypeId} {w w' : World} {b n : Nat} {f : Lit → Option Value}
theorem ownsMap_keep {H : Type} {R : Value → Option (DataW H × List MemPlace)} {D : DataW H} (h : w.ownsMap P k R b n D) (hb : w'.heap[b]? = w.heap[b]?) : w'.ownsMap P k R b n D := by
  obtain ⟨es, clock, h1, r⟩ := h
  exact ⟨es, clock, hb.trans h1, r⟩
theorem HasMap.keep (h : HasMap P k w b n f) (hb : w'.heap[b]? = w.heap[b]?) : HasMap P k w' b n f := by
  obtain ⟨D, h1, r⟩ := h
  exact ⟨D, ownsMap_keep h1 hb, r⟩
theorem HasMap.lt (h : HasMap P k w b n f) : b < w.heap.size := by
  obtain ⟨D, h1, _⟩ := h
  exact h1.lt
theorem HasMap.mono (h : HasMap P k w b n f) {m : Nat} (hm : n ≤ m) : HasMap P k w b m f := by
  obtain ⟨D, h1, r⟩ := h
  exact ⟨D, h1.mono hm, r⟩
theorem HasMap.below (h : HasMap P k w b n f) (hb : Below w.heap.size w w') : HasMap P k w' b n f := h.keep (hb.block b h.lt)
theorem HasMap.moves {F : Nat → Prop} (h : HasMap P k w b n f) (hm : Moves F w w') (hn : ¬ F b) : HasMap P k w' b n f := h.keep (hm.block b h.lt hn)
theorem HasMap.alloc (h : HasMap P k w b n f) (o : Obj) : HasMap P k (w.alloc o) b n f := h.keep (Below.heap_alloc _ _ _ h.lt)
theorem HasMap.made (P : Program) (k : TypeId) (w : World) : HasMap P k (w.alloc (.map #[] 0)) w.heap.size 0 (fun _ => none) :=
  ⟨.map [], World.ownsMap_made w P k anyV, Maps.isMap_empty, fun _ => ⟨fun _ => rfl, rfl⟩⟩
theorem moves_map {a c : World} {q : Nat} (h : a.mapTurned c q) : Moves (fun i => i = q) a c := by
  obtain ⟨es, clock, es', clock', hb, rfl⟩ := h
  refine ⟨rfl, rfl, rfl, by simp [ChangeMaps.setBlock], fun i _ hi => ?_⟩
  exact ChangeMaps.heap_setBlock_other hb _ (fun e => hi e)
theorem HasMap.look (h : HasMap P k w b n f) {t e : TypeId} (K : Keyed P k) (ht : P.underlying t = some (.map k e)) {z : Value} (hz : (zeroValue e).run P w = .ok z w) {key : Value} {kl : Lit} (hkey : keyOf P k key = some kl) :
    (Instr.lookup t (.map (some b)) key true).run P w = .ok (.tuple #[(f kl).getD z, .bool (f kl).isSome]) w := by
  obtain ⟨D, h1, _, h2⟩ := h
  obtain ⟨v, ps, hr, hv⟩ := h1.look_ok K ht hz (zd := .held z) (zp := []) rfl hkey
  rw [(h2 kl).1, anyV] at hv
  injection hv with hv
  injection hv with hv
  injection hv with hv
  rw [hr, (h2 kl).2, hv]
theorem HasMap.look1 (h : HasMap P k w b n f) {t e : TypeId} (K : Keyed P k) (ht : P.underlying t = some (.map k e)) {z : Value} (hz : (zeroValue e).run P w = .ok z w) {key : Value} {kl : Lit} (hkey : keyOf P k key = some kl) :
    (Instr.lookup t (.map (some b)) key false).run P w = .ok ((f kl).getD z) w := by
  obtain ⟨D, h1, _, h2⟩ := h
  obtain ⟨v, ps, hr, hv⟩ := h1.lookup K ht hz (zd := .held z) (zp := []) rfl hkey
  rw [(h2 kl).1, anyV] at hv
  injection hv with hv
  injection hv with hv
  injection hv with hv
  rw [hr, hv]
theorem HasMap.store (h : HasMap P k w b n f) {t e : TypeId} (K : Keyed P k) (ht : P.underlying t = some (.map k e)) (hn : n < maxLen) {key val : Value} {kl : Lit} (hkey : keyOf P k key = some kl) :
    ∃ w', (Instr.mapUpdate t (.map (some b)) key val).run P w = .ok () w' ∧ HasMap P k w' b (n + 1) (updM f kl (some val)) ∧ Moves (fun i => i = b) w w' := by
  obtain ⟨D, h1, hD, h2⟩ := h
  obtain ⟨w', hr, ho, ht'⟩ := h1.store (val := val) (d := .held val) (ps := []) K ht hn hkey rfl
  refine ⟨w', hr, ⟨_, ho, hD.put _ _, fun x => ?_⟩, moves_map ht'⟩
  by_cases e : x = kl
  · subst e
    rw [updM_same (K.key hkey)]
    exact ⟨fun z => Maps.atKey_put_same hD (K.key hkey) _ _, Maps.has_put_same hD (K.key hkey) _⟩
  · rw [updM_other e]
    exact ⟨fun z => by rw [Maps.atKey_put_other e]; exact (h2 x).1 z, by rw [Maps.has_put_other e]; exact (h2 x).2⟩
theorem HasMap.drop (h : HasMap P k w b n f) {t e : TypeId} (K : Keyed P k) (ht : P.underlying t = some (.map k e)) {key : Value} {kl : Lit} (hkey : keyOf P k key = some kl) (ty : TypeId) :
    ∃ w', (Builtin.delete_ #[t, k] ty #[.map (some b), key]).run P w = .ok (.tuple #[]) w' ∧ HasMap P k w' b n (updM f kl none) ∧ Moves (fun i => i = b) w w' := by
  obtain ⟨D, h1, hD, h2⟩ := h
  obtain ⟨w', hr, ho, ht'⟩ := h1.drop K ht hkey ty
  refine ⟨w', hr, ⟨_, ho, hD.del _, fun x => ?_⟩, moves_map ht'⟩
  by_cases e : x = kl
  · subst e
    rw [updM_same (K.key hkey)]
    exact ⟨fun z => Maps.atKey_del_same _, Maps.has_del_same⟩
  · rw [updM_other e]
    exact ⟨fun z => by rw [Maps.atKey_del_other e]; exact (h2 x).1 z, by rw [Maps.has_del_other e]; exact (h2 x).2⟩
theorem HasMap.len (h : HasMap P k w b n f) {t e : TypeId} (ht : P.underlying t = some (.map k e)) (ty : TypeId) : ∃ m : Nat, m ≤ n ∧ (Builtin.len_ #[t] ty #[.map (some b)]).run P w = .ok (.int .i64 (m : Int)) w := by
  obtain ⟨D, h1, _⟩ := h
  exact ⟨_, h1.size_le, h1.len ht ty⟩
end
/-! ### 'm[k], n[l] = x, y': the entry first, the store behind -/
open Go.ChangeMaps Go.MapKept in
theorem entry_then {P : Program} {w : World} {t k e : TypeId} {H : Type} {R : Value → Option (DataW H × List MemPlace)} {b : Nat} {es : Array MapEntry} {clock : Nat} (K : Keyed P k) (ht : P.underlying t = some (.map k e)) {z : Value} (hz : (zeroValue e).run P w = .ok z w) (hb : w.heap[b]? = some (.map es clock)) (F : WideElems.Fit P k R es clock)
    {key : Value} {kl : Lit} (hkey : keyOf P k key = some kl) :
    ∃ (v0 : Value) (st : Nat) (es1 : Array MapEntry) (clock1 : Nat), (Instr.mapEntry t (.map (some b)) key).run P w = .ok (.tuple #[v0, goInt st]) (setBlock w b (.map es1 clock1)) ∧
      ∀ (w2 : World) (val : Value), w2.heap[b]? = some (.map es1 clock1) → ∃ es' clock', (Instr.entryStore t (.map (some b)) (goInt st) val).run P w2 = .ok () (setBlock w2 b (.map es' clock')) ∧
        (Instr.mapUpdate t (.map (some b)) key val).run P w = .ok () (setBlock w b (.map es' clock')) := by
  obtain ⟨s1, s2, _⟩ := F.stamped
  rcases K.find w hkey es.toList F.keys with ⟨h1, h2⟩ | ⟨j, e0, h1, h2, h3⟩
  · refine ⟨z, clock, es.push ⟨key, z, clock⟩, clock + 1, ?_, fun w2 val hw2 => ⟨es.push ⟨key, val, clock⟩, clock + 1, ?_, ?_⟩⟩
    · simp [Instr.mapEntry, run_underlying ht, MapKept.run_getObj_map hb, K.check w false hkey, h1, hz, MapKept.run_setObj_map _ hb, Result.andThen, setBlock]
    · have hidx : (es.push ⟨key, z, clock⟩).findIdx? (fun e => ((e.born : Nat) : Int) == ((clock : Nat) : Int)) = some es.size := by
        rw [WideElems.findIdx_arr]
        have := WideElems.findIdx_born (l := (es.push ⟨key, z, clock⟩).toList) (j := es.size) (e0 := ⟨key, z, clock⟩) (by
          simp only [Array.toList_push, List.map_append, List.map_cons, List.map_nil]
          refine List.nodup_append.2 ⟨s2, by simp, fun a ha c hc e1 => ?_⟩
          simp only [List.mem_singleton] at hc
          obtain ⟨x, hx, rfl⟩ := List.mem_map.1 ha
          have := s1 x hx
          omega) (by simp)
        exact this
      have hmod : (es.push ⟨key, z, clock⟩).modify es.size (fun e => { e with val := val }) = es.push ⟨key, val, clock⟩ := by
        apply Array.ext'
        rw [Array.toList_modify, Array.toList_push, Array.toList_push, ← Array.length_toList, WideElems.modify_last]
      simp [Instr.entryStore, MapKept.run_getObj_map hw2, asInt, asIntOf, goInt, hidx, hmod, MapKept.run_setObj_map _ hw2, Result.andThen, setBlock]
    · simp [Instr.mapUpdate, run_underlying ht, MapKept.run_getObj_map hb, K.check w false hkey, h1, MapKept.run_setObj_map _ hb, Result.andThen, setBlock]
  · have hj : es[j]? = some e0 := by simpa using h2
    have hsame : es.modify j (fun e => { e with key := key }) = es := by
      apply Array.ext'
      rw [Array.toList_modify, modify_eq_set _ _ _ _ h2]
      have : ({ e0 with key := key } : MapEntry) = e0 := by rw [← h3]
      rw [this]
      exact WideElems.set_self _ _ _ h2
    refine ⟨e0.val, e0.born, es, clock, ?_, fun w2 val hw2 => ⟨es.modify j (fun e' => { e' with key := key, val := val }), clock, ?_, ?_⟩⟩
    · simp [Instr.mapEntry, run_underlying ht, MapKept.run_getObj_map hb, K.check w false hkey, h1, hj, h3, K.stays w hkey, hsame, MapKept.run_setObj_map _ hb, Result.andThen, setBlock]
    · have hidx : es.findIdx? (fun e => ((e.born : Nat) : Int) == ((e0.born : Nat) : Int)) = some j := by
        rw [WideElems.findIdx_arr]
        exact WideElems.findIdx_born s2 h2
      have hmod : es.modify j (fun e => { e with val := val }) = es.modify j (fun e' => { e' with key := key, val := val }) := by
        apply Array.ext'
        rw [Array.toList_modify, Array.toList_modify, modify_eq_set _ _ _ _ h2, modify_eq_set _ _ _ _ h2, ← h3]
      simp [Instr.entryStore, MapKept.run_getObj_map hw2, asInt, asIntOf, goInt, hidx, hmod, MapKept.run_setObj_map _ hw2, Result.andThen, setBlock]
    · simp [Instr.mapUpdate, run_underlying ht, MapKept.run_getObj_map hb, K.check w false hkey, h1, hj, h3, K.stays w hkey, MapKept.run_setObj_map _ hb, Result.andThen, setBlock]
/-- The entry at kl is marked: a store at it goes. -/
def Pend (P : Program) (k t : TypeId) (w : World) (b n : Nat) (f : Lit → Option Value) (kl : Lit) (st : Nat) : Prop :=
  b < w.heap.size ∧ ∀ (w2 : World) (val : Value), w2.heap[b]? = w.heap[b]? → ∃ w3, (Instr.entryStore t (.map (some b)) (goInt st) val).run P w2 = .ok () w3 ∧ HasMap P k w3 b (n + 1) (updM f kl (some val)) ∧ Moves (fun i => i = b) w2 w3
theorem moves_setBlock {w : World} {b : Nat} {es : Array MapEntry} {clock : Nat} (hb : w.heap[b]? = some (.map es clock)) (o : Obj) : Moves (fun i => i = b) w (ChangeMaps.setBlock w b o) :=
  ⟨rfl, rfl, rfl, by simp [ChangeMaps.setBlock], fun i _ hi => ChangeMaps.heap_setBlock_other hb _ (fun e => hi e)⟩
section
variable {P : Program} {k t : TypeId} {w w' : World} {b n : Nat} {f : Lit → Option Value} {kl : Lit} {st : Nat}
theorem Pend.keep (h : Pend P k t w b n f kl st) (hb : w'.heap[b]? = w.heap[b]?) : Pend P k t w' b n f kl st := by
  refine ⟨?_, fun w2 val h2 => h.2 w2 val (h2.trans hb)⟩
  have h1 := h.1
  rw [Array.getElem?_eq_getElem h1] at hb
  exact (Array.getElem?_eq_some_iff.1 hb).1
theorem Pend.moves {F : Nat → Prop} (h : Pend P k t w b n f kl st) (hm : Moves F w w') (hn : ¬ F b) : Pend P k t w' b n f kl st := h.keep (hm.block b h.1 hn)
theorem HasMap.entry (h : HasMap P k w b n f) {e : TypeId} (K : Keyed P k) (ht : P.underlying t = some (.map k e)) (hn : n < maxLen) {z : Value} (hz : (zeroValue e).run P w = .ok z w) {key : Value} (hkey : keyOf P k key = some kl) :
    ∃ (v0 : Value) (st : Nat) (w' : World), (Instr.mapEntry t (.map (some b)) key).run P w = .ok (.tuple #[v0, goInt st]) w' ∧ Pend P k t w' b n f kl st ∧ Moves (fun i => i = b) w w' := by
  obtain ⟨D, ⟨es, clock, hb, F, hs, hD0⟩, hD, h2⟩ := h
  obtain ⟨v0, st, es1, clock1, hr, hst⟩ := entry_then K ht hz hb F hkey
  refine ⟨v0, st, _, hr, ⟨?_, fun w2 val hw2 => ?_⟩, moves_setBlock hb _⟩
  · simp [ChangeMaps.setBlock]
    exact (Array.getElem?_eq_some_iff.1 hb).1
  · rw [ChangeMaps.heap_setBlock_same hb] at hw2
    obtain ⟨es', clock', hr2, hr3⟩ := hst w2 val hw2
    obtain ⟨w3, hr4, h4, _⟩ := HasMap.store (val := val) ⟨D, ⟨es, clock, hb, F, hs, hD0⟩, hD, h2⟩ K ht hn hkey
    rw [hr3] at hr4
    injection hr4 with _ e4
    subst e4
    refine ⟨_, hr2, h4.keep ?_, moves_setBlock hw2 _⟩
    rw [ChangeMaps.heap_setBlock_same hw2, ChangeMaps.heap_setBlock_same hb]
end
/-! ### keyed by int -/
def IMap (P : Program) (k : TypeId) (w : World) (b n : Nat) (g : Int → Option Value) : Prop := ∃ f, HasMap P k w b n f ∧ ∀ a, f (.int .i64 a) = g a
def updI' (g : Int → Option Value) (a : Int) (v : Option Value) (x : Int) : Option Value := if x = a then v else g x
theorem updM_int (f : Lit → Option Value) (a x : Int) (v : Option Value) : updM f (.int .i64 a) v (.int .i64 x) = if x = a then v else f (.int .i64 x) := by
  by_cases h : x = a
  · subst h; rw [updM_same (by trivial), if_pos rfl]
  · rw [updM_other (by intro e; injection e; contradiction), if_neg h]
section
variable {P : Program} {k : TypeId} {w w' : World} {b n : Nat} {g : Int → Option Value}
theorem IMap.keep (h : IMap P k w b n g) (hb : w'.heap[b]? = w.heap[b]?) : IMap P k w' b n g := by obtain ⟨f, h1, h2⟩ := h; exact ⟨f, h1.keep hb, h2⟩
theorem IMap.lt (h : IMap P k w b n g) : b < w.heap.size := by obtain ⟨f, h1, _⟩ := h; exact h1.lt
theorem IMap.mono (h : IMap P k w b n g) {m : Nat} (hm : n ≤ m) : IMap P k w b m g := by obtain ⟨f, h1, h2⟩ := h; exact ⟨f, h1.mono hm, h2⟩
theorem IMap.below (h : IMap P k w b n g) (hb : Below w.heap.size w w') : IMap P k w' b n g := h.keep (hb.block b h.lt)
theorem IMap.moves {F : Nat → Prop} (h : IMap P k w b n g) (hm : Moves F w w') (hn : ¬ F b) : IMap P k w' b n g := h.keep (hm.block b h.lt hn)
theorem IMap.alloc (h : IMap P k w b n g) (o : Obj) : IMap P k (w.alloc o) b n g := h.keep (Below.heap_alloc _ _ _ h.lt)
theorem IMap.made (P : Program) (k : TypeId) (w : World) : IMap P k (w.alloc (.map #[] 0)) w.heap.size 0 (fun _ => none) := ⟨_, HasMap.made P k w, fun _ => rfl⟩
end
/-! ### at the operation -/
section
variable {P : Program} (w : World) {ops : Array Oper} {rest : List Oper} {o : Oper} {a : Act} {Q : Exit → Act → World → Prop}
/-- 'v, ok := m[k]': '(at_lookup; refine wpList_look_any _ rfl _ _ T rfl K E law A.underlyingT (zeroE _) B n f rfl h _ _ rfl hkey _ _ hv hi ?_)'. -/
theorem wpList_look_any (hg : o.guard = none) (m x : Operand) (t : TypeId) (hop : o.op = Op.lookup t m x true) (k e : TypeId) (K : Keyed P k) (ht : P.underlying t = some (.map k e)) {z : Value} (hz : (zeroValue e).run P w = .ok z w) (b n : Nat) (f : Lit → Option Value)
    (hm : a.eval m = .map (some b)) (hh : HasMap P k w b n f) (key : Value) (kl : Lit) (hx : a.eval x = key) (hkey : keyOf P k key = some kl) (v : Value) (is : Bool) (hv : (f kl).getD z = v) (hi : (f kl).isSome = is)
    (hK : wpList P ops Q rest (a.put o.dst (.tuple #[v, .bool is])) w) : wpList P ops Q (o :: rest) a w := by
  refine wpList_plain hg fun K' hK' => ?_
  have hrun := hh.look K ht hz hkey
  rw [hv, hi] at hrun
  unfold Oper.wp
  simp [execOp, hop, hm, hx, hrun, Result.andThen]
  exact hK' _ _ hK
theorem wpList_look1_any (hg : o.guard = none) (m x : Operand) (t : TypeId) (hop : o.op = Op.lookup t m x false) (k e : TypeId) (K : Keyed P k) (ht : P.underlying t = some (.map k e)) {z : Value} (hz : (zeroValue e).run P w = .ok z w) (b n : Nat) (f : Lit → Option Value)
    (hm : a.eval m = .map (some b)) (hh : HasMap P k w b n f) (key : Value) (kl : Lit) (hx : a.eval x = key) (hkey : keyOf P k key = some kl) (v : Value) (hv : (f kl).getD z = v)
    (hK : wpList P ops Q rest (a.put o.dst v) w) : wpList P ops Q (o :: rest) a w := by
  refine wpList_plain hg fun K' hK' => ?_
  have hrun := hh.look1 K ht hz hkey
  rw [hv] at hrun
  unfold Oper.wp
  simp [execOp, hop, hm, hx, hrun, Result.andThen]
  exact hK' _ _ hK
theorem wpList_store_any (hg : o.guard = none) (m x v : Operand) (t : TypeId) (hop : o.op = Op.mapUpdate t m x v) (k e : TypeId) (K : Keyed P k) (ht : P.underlying t = some (.map k e)) (b n : Nat) (f : Lit → Option Value)
    (hm : a.eval m = .map (some b)) (hh : HasMap P k w b n f) (hn : n < maxLen) (key val : Value) (kl : Lit) (hx : a.eval x = key) (hv : a.eval v = val) (hkey : keyOf P k key = some kl)
    (hK : ∀ w', HasMap P k w' b (n + 1) (updM f kl (some val)) → Moves (fun i => i = b) w w' → wpList P ops Q rest (a.put o.dst undef) w') : wpList P ops Q (o :: rest) a w := by
  refine wpList_plain hg fun K' hK' => ?_
  obtain ⟨w', hrun, r1, r2⟩ := hh.store (val := val) K ht hn hkey
  unfold Oper.wp
  simp [execOp, hop, hm, hx, hv, hrun, Result.andThen]
  exact hK' _ _ (hK w' r1 r2)
theorem wpList_insert_any (hg : o.guard = none) (m x v : Operand) (t : TypeId) (hop : o.op = Op.insert t m x v) (k e : TypeId) (K : Keyed P k) (ht : P.underlying t = some (.map k e)) (b n : Nat) (f : Lit → Option Value)
    (hm : a.eval m = .map (some b)) (hh : HasMap P k w b n f) (hn : n < maxLen) (key val : Value) (kl : Lit) (hx : a.eval x = key) (hv : a.eval v = val) (hkey : keyOf P k key = some kl)
    (hK : ∀ w', HasMap P k w' b (n + 1) (updM f kl (some val)) → Moves (fun i => i = b) w w' → wpList P ops Q rest (a.put o.dst undef) w') : wpList P ops Q (o :: rest) a w := by
  refine wpList_plain hg fun K' hK' => ?_
  obtain ⟨w', hrun, r1, r2⟩ := hh.store (val := val) K ht hn hkey
  unfold Oper.wp
  simp [execOp, hop, hm, hx, hv, hrun, Result.andThen]
  exact hK' _ _ (hK w' r1 r2)
theorem wpList_drop_any (hg : o.guard = none) (m x : Operand) (t k : TypeId) (hop : o.op = Op.call { callee := Callee.builtin Builtin.delete, args := #[m, x], argTypes := #[t, k] }) (e : TypeId) (K : Keyed P k) (ht : P.underlying t = some (.map k e)) (b n : Nat) (f : Lit → Option Value)
    (hm : a.eval m = .map (some b)) (hh : HasMap P k w b n f) (key : Value) (kl : Lit) (hx : a.eval x = key) (hkey : keyOf P k key = some kl)
    (hK : ∀ w', HasMap P k w' b n (updM f kl none) → Moves (fun i => i = b) w w' → wpList P ops Q rest (a.put o.dst (.tuple #[])) w') : wpList P ops Q (o :: rest) a w := by
  refine wpList_plain hg fun K' hK' => ?_
  obtain ⟨w', hrun, r1, r2⟩ := hh.drop K ht hkey o.type
  unfold Oper.wp
  simp [execOp, hop, resolve, invoke, builtin, hm, hx, hrun, Result.andThen]
  exact hK' _ _ (hK w' r1 r2)
theorem wpList_len_any (hg : o.guard = none) (m : Operand) (t : TypeId) (hop : o.op = Op.call { callee := Callee.builtin Builtin.len, args := #[m], argTypes := #[t] }) (k e : TypeId) (ht : P.underlying t = some (.map k e)) (b n : Nat) (f : Lit → Option Value)
    (hm : a.eval m = .map (some b)) (hh : HasMap P k w b n f) (hK : ∀ j : Nat, j ≤ n → wpList P ops Q rest (a.put o.dst (.int .i64 (j : Int))) w) : wpList P ops Q (o :: rest) a w := by
  refine wpList_plain hg fun K' hK' => ?_
  obtain ⟨j, hj, hrun⟩ := hh.len ht o.type
  unfold Oper.wp
  simp [execOp, hop, resolve, invoke, builtin, hm, hrun, Result.andThen]
  exact hK' _ _ (hK j hj)
/-! keyed by int -/
variable {k e : TypeId} (hk : P.underlying k = some (.int .i64))
include hk
theorem wpList_look_int (hg : o.guard = none) (m x : Operand) (t : TypeId) (hop : o.op = Op.lookup t m x true) (ht : P.underlying t = some (.map k e)) {z : Value} (hz : (zeroValue e).run P w = .ok z w) (b n : Nat) (g : Int → Option Value)
    (hm : a.eval m = .map (some b)) (hh : IMap P k w b n g) (i : Int) (hx : a.eval x = .int .i64 i) (hi : (Lit.int .i64 i).wf = true) (v : Value) (is : Bool) (hv : (g i).getD z = v) (hs : (g i).isSome = is)
    (hK : wpList P ops Q rest (a.put o.dst (.tuple #[v, .bool is])) w) : wpList P ops Q (o :: rest) a w := by
  obtain ⟨f, h1, h2⟩ := hh
  exact wpList_look_any w hg m x t hop k e (int_keyed hk) ht hz b n f hm h1 _ _ hx (keyOf_int_mk hk hi) v is (by rw [h2]; exact hv) (by rw [h2]; exact hs) hK
theorem wpList_look1_int (hg : o.guard = none) (m x : Operand) (t : TypeId) (hop : o.op = Op.lookup t m x false) (ht : P.underlying t = some (.map k e)) {z : Value} (hz : (zeroValue e).run P w = .ok z w) (b n : Nat) (g : Int → Option Value)
    (hm : a.eval m = .map (some b)) (hh : IMap P k w b n g) (i : Int) (hx : a.eval x = .int .i64 i) (hi : (Lit.int .i64 i).wf = true) (v : Value) (hv : (g i).getD z = v)
    (hK : wpList P ops Q rest (a.put o.dst v) w) : wpList P ops Q (o :: rest) a w := by
  obtain ⟨f, h1, h2⟩ := hh
  exact wpList_look1_any w hg m x t hop k e (int_keyed hk) ht hz b n f hm h1 _ _ hx (keyOf_int_mk hk hi) v (by rw [h2]; exact hv) hK
theorem wpList_store_int (hg : o.guard = none) (m x v : Operand) (t : TypeId) (hop : o.op = Op.mapUpdate t m x v) (ht : P.underlying t = some (.map k e)) (b n : Nat) (g : Int → Option Value)
    (hm : a.eval m = .map (some b)) (hh : IMap P k w b n g) (hn : n < maxLen) (i : Int) (val : Value) (hx : a.eval x = .int .i64 i) (hv : a.eval v = val) (hi : (Lit.int .i64 i).wf = true)
    (hK : ∀ w', IMap P k w' b (n + 1) (fun x => if x = i then some val else g x) → Moves (fun i => i = b) w w' → wpList P ops Q rest (a.put o.dst undef) w') : wpList P ops Q (o :: rest) a w := by
  obtain ⟨f, h1, h2⟩ := hh
  exact wpList_store_any w hg m x v t hop k e (int_keyed hk) ht b n f hm h1 hn _ _ _ hx hv (keyOf_int_mk hk hi) fun w' h3 h4 => hK w' ⟨_, h3, fun y => by rw [updM_int, h2]⟩ h4
theorem wpList_insert_int (hg : o.guard = none) (m x v : Operand) (t : TypeId) (hop : o.op = Op.insert t m x v) (ht : P.underlying t = some (.map k e)) (b n : Nat) (g : Int → Option Value)
    (hm : a.eval m = .map (some b)) (hh : IMap P k w b n g) (hn : n < maxLen) (i : Int) (val : Value) (hx : a.eval x = .int .i64 i) (hv : a.eval v = val) (hi : (Lit.int .i64 i).wf = true)
    (hK : ∀ w', IMap P k w' b (n + 1) (fun x => if x = i then some val else g x) → Moves (fun i => i = b) w w' → wpList P ops Q rest (a.put o.dst undef) w') : wpList P ops Q (o :: rest) a w := by
  obtain ⟨f, h1, h2⟩ := hh
  exact wpList_insert_any w hg m x v t hop k e (int_keyed hk) ht b n f hm h1 hn _ _ _ hx hv (keyOf_int_mk hk hi) fun w' h3 h4 => hK w' ⟨_, h3, fun y => by rw [updM_int, h2]⟩ h4
theorem wpList_drop_int (hg : o.guard = none) (m x : Operand) (t : TypeId) (hop : o.op = Op.call { callee := Callee.builtin Builtin.delete, args := #[m, x], argTypes := #[t, k] }) (ht : P.underlying t = some (.map k e)) (b n : Nat) (g : Int → Option Value)
    (hm : a.eval m = .map (some b)) (hh : IMap P k w b n g) (i : Int) (hx : a.eval x = .int .i64 i) (hi : (Lit.int .i64 i).wf = true)
    (hK : ∀ w', IMap P k w' b n (fun x => if x = i then none else g x) → Moves (fun i => i = b) w w' → wpList P ops Q rest (a.put o.dst (.tuple #[])) w') : wpList P ops Q (o :: rest) a w := by
  obtain ⟨f, h1, h2⟩ := hh
  exact wpList_drop_any w hg m x t k hop e (int_keyed hk) ht b n f hm h1 _ _ hx (keyOf_int_mk hk hi) fun w' h3 h4 => hK w' ⟨_, h3, fun y => by rw [updM_int, h2]⟩ h4
omit hk in
theorem wpList_len_int (hg : o.guard = none) (m : Operand) (t : TypeId) (hop : o.op = Op.call { callee := Callee.builtin Builtin.len, args := #[m], argTypes := #[t] }) (ht : P.underlying t = some (.map k e)) (b n : Nat) (g : Int → Option Value)
    (hm : a.eval m = .map (some b)) (hh : IMap P k w b n g) (hK : ∀ j : Nat, j ≤ n → wpList P ops Q rest (a.put o.dst (.int .i64 (j : Int))) w) : wpList P ops Q (o :: rest) a w := by
  obtain ⟨f, h1, h2⟩ := hh
  exact wpList_len_any w hg m t hop k e ht b n f hm h1 hK
end
/-! ### the same, in a region that draws its order -/
section
variable {P : Program} {w : World} {k e : TypeId}
theorem step_drop_int {ops : Array Oper} {o : Oper} {a : Act} {K : Act → World → Prop} {Q : Exit → Act → World → Prop} {E : Prop} (hk : P.underlying k = some (.int .i64)) (hg : o.guard = none) (m x : Operand) (t : TypeId)
    (hop : o.op = Op.call { callee := Callee.builtin Builtin.delete, args := #[m, x], argTypes := #[t, k] }) (ht : P.underlying t = some (.map k e)) (b n : Nat) (g : Int → Option Value)
    (hm : a.eval m = .map (some b)) (hh : IMap P k w b n g) (i : Int) (hx : a.eval x = .int .i64 i) (hi : (Lit.int .i64 i).wf = true)
    (hK : ∀ w', IMap P k w' b n (fun x => if x = i then none else g x) → Moves (fun i => i = b) w w' → K (a.put o.dst (.tuple #[])) w') :
    if Region.wanted o (yielded ops a.tmps) = true then Oper.wp P o a w K Q else E := by
  have hw : Region.wanted o (yielded ops a.tmps) = true := by simp [Region.wanted, hg]
  rw [if_pos hw]
  obtain ⟨f, h1, h2⟩ := hh
  obtain ⟨w', hrun, r1, r2⟩ := h1.drop (int_keyed hk) ht (keyOf_int_mk hk hi) o.type
  unfold Oper.wp
  simp [execOp, hop, resolve, invoke, builtin, hm, hx, hrun, Result.andThen]
  exact hK w' ⟨_, r1, fun y => by rw [updM_int, h2]⟩ r2
/-- The entry at i is marked. -/
def IPend (P : Program) (k t : TypeId) (w : World) (b n : Nat) (g : Int → Option Value) (i : Int) (st : Nat) : Prop := ∃ f, Pend P k t w b n f (.int .i64 i) st ∧ ∀ a, f (.int .i64 a) = g a
theorem IPend.keep {w' : World} {t : TypeId} {b n st : Nat} {g : Int → Option Value} {i : Int} (h : IPend P k t w b n g i st) (hb : w'.heap[b]? = w.heap[b]?) : IPend P k t w' b n g i st := by
  obtain ⟨f, h1, h2⟩ := h
  exact ⟨f, h1.keep hb, h2⟩
theorem IMap.entry (hk : P.underlying k = some (.int .i64)) {t : TypeId} (ht : P.underlying t = some (.map k e)) {z : Value} (hz : (zeroValue e).run P w = .ok z w) {b n : Nat} {g : Int → Option Value}
    (hh : IMap P k w b n g) (hn : n < maxLen) (i : Int) (hi : (Lit.int .i64 i).wf = true) :
    ∃ (v0 : Value) (st : Nat) (w' : World), (Instr.mapEntry t (.map (some b)) (.int .i64 i)).run P w = .ok (.tuple #[v0, .int .i64 (st : Int)]) w' ∧ IPend P k t w' b n g i st ∧ Moves (fun i => i = b) w w' := by
  obtain ⟨f, h1, h2⟩ := hh
  obtain ⟨v0, st, w', hrun, r1, r2⟩ := h1.entry (int_keyed hk) ht hn hz (keyOf_int_mk hk hi)
  exact ⟨v0, st, w', hrun, ⟨f, r1, h2⟩, r2⟩
theorem IPend.store {t : TypeId} {b n st : Nat} {g : Int → Option Value} {i : Int} (hh : IPend P k t w b n g i st) (val : Value) :
    ∃ w', (Instr.entryStore t (.map (some b)) (.int .i64 (st : Int)) val).run P w = .ok () w' ∧ IMap P k w' b (n + 1) (fun x => if x = i then some val else g x) ∧ Moves (fun i => i = b) w w' := by
  obtain ⟨f, h1, h2⟩ := hh
  obtain ⟨w', hrun, r1, r2⟩ := h1.2 w val rfl
  exact ⟨w', hrun, ⟨_, r1, fun y => by rw [updM_int, h2]⟩, r2⟩
end
end Go.Proofs.YtfjfkmoofmncnaaDoor
