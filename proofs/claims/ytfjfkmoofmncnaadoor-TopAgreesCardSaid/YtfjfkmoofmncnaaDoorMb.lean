/- Lemmas of the proof of TopAgrees, in one text: the parts Rng, RunP, SpA, Hd. Each part's own comment says what it shows. No condition but those that each lemma names. -/
import Derived.Test.YtfjfkmoofmncnaaDoorMa
import Derived.RangeFuncNested
import Derived.RangeFuncLeaves
import Derived.RangeFuncCalls
import Derived.Test.YtfjfkmoofmncnaaDoorLsA
import Derived.Shelf.RegionOpen
import Derived.OwnWalkIn
import Derived.TacticsInMore
import Derived.LoopNIn
import Derived.LoopIn
import Derived.Shelf.Abstract
import Derived.BigQuiet
import Derived.Sort.QuietIn
/- A law for a loop over an iterator that turns a captured cell of its own; the activation's marks when it leaves. -/
namespace Go.Proofs.YtfjfkmoofmncnaaDoor
open Go.RowKit
/-- What the iterator and the loop's own book-keeping may turn: blocks of T; from s on what holds no cells. -/
def Soft (T : Nat → Prop) (s : Nat) (A B : World) : Prop := Moves (fun i => T i ∨ (s ≤ i ∧ ∃ o : Obj, A.heap[i]? = some o ∧ o.isCells = false)) A B
/-- Beyond s no object that is not cells has turned. -/
def Firm (s : Nat) (A B : World) : Prop := A.heap.size ≤ B.heap.size ∧ ∀ (i : Nat) (o : Obj), s ≤ i → A.heap[i]? = some o → o.isCells = false → B.heap[i]? = some o
theorem Firm.trans {s : Nat} {A B C : World} (h : Firm s A B) (k : Firm s B C) : Firm s A C := ⟨Nat.le_trans h.1 k.1, fun i o hi ho hc => k.2 i o hi (h.2 i o hi ho hc) hc⟩
theorem Firm.refl (s : Nat) (A : World) : Firm s A A := ⟨Nat.le_refl _, fun _ _ _ h _ => h⟩
/-- An iterator's contract: it hands out xs, one by one, to rounds that all go on and leave the blocks of K as they lay; it turns blocks of T alone. -/
def IterT {α : Type} (F : Fence) (n : Nat) (P : Program) (g : Nat) (lb : Array Value) (encs : α → Array Value) (xs : List α) (N : Nat) (Ok : α → Prop) (K T : Nat → Prop) (w : World) : Prop :=
  ∀ (l : Nat) (J : List α → World → Prop) (W : World), Below w.heap.size w W → (∀ k A B, J k A → Moves T A B → J k B) →
    (∀ k x W1, Ok x → k.length < N → J k W1 → YieldAt F (n - 1) P l (encs x) W1 fun e W' => e = .returned (.bool true) ∧ J (k ++ [x]) W' ∧ ∀ i, K i → W'.heap[i]? = W1.heap[i]?) →
    J [] W → CallsIn F n P g (#[.func (.yield l) #[] #[]] ++ lb) W fun e W' => (∃ v, e = .returned v) ∧ J xs W'
variable {F : Fence} {n : Nat} {P : Program}
theorem putObj_heap_ne {W : World} {l i : Nat} (o : Obj) (h : i ≠ l) : (W.putObj l o).heap[i]? = W.heap[i]? := World.putObj_heap_other h
theorem soft_put {T : Nat → Prop} {s : Nat} {W : World} {l : Nat} {o : Obj} (o' : Obj) (hs : s ≤ l) (hl : W.heap[l]? = some o) (ho : o.isCells = false) : Soft T s W (W.putObj l o') :=
  (Moves.refl _ W).grown (grownBy_putObj' W l o') fun k e => by cases e; exact .inl (.inr ⟨hs, o, hl, ho⟩)
theorem soft_alloc {T : Nat → Prop} {s : Nat} {W : World} (o : Obj) : Soft T s W (W.alloc o) := (Moves.refl _ W).alloc o
/-- What a round's body is left with: it goes on. -/
def onward (s : Nat) (K : Nat → Prop) (I : World → Prop) (W : World) : Exit → Act → World → Prop
  | .normal, _, W' => Firm s W W' ∧ (∀ i, K i → W'.heap[i]? = W.heap[i]?) ∧ I W'
  | _, _, _ => False
theorem rangeT {α : Type} {g : Operand} {ps : Array Tmp} {assign body : Code} {Q : Exit → Act → World → Prop} {a : Act} {w : World}
    (hro : F.round = none) (h1 : 1 ≤ n) {gf : Nat} {lb : Array Value} (hg : a.eval g = .func (.func gf) #[] lb) (hFg : F.fn gf) (eg : ∀ args w, (callFunc gf args).run P w = .ok (.enter gf args) w)
    {encs : α → Array Value} {xs : List α} {N : Nat} {Ok : α → Prop} {K T : Nat → Prop} (hseq : IterT F (n - 1) P gf lb encs xs N Ok K T w) (hps : ∀ x, (encs x).size = ps.size)
    (hK : ∀ i, K i → i < w.heap.size) (hT : ∀ i, T i → i < w.heap.size)
    (I : List α → World → Prop) (hI : ∀ k A B, I k A → Soft T w.heap.size A B → I k B) (h0 : I [] w)
    (hround : ∀ (l : Nat) (k : List α) (x : α) (W : World), w.heap.size ≤ l → (∃ r, W.heap[l]? = some (.loop r)) → Ok x → k.length < N → I k W →
      assign.wpIn (F.inRound l) (n - 1 - 1) P (Exit.then (fun a₁ W₁ => Firm w.heap.size W W₁ ∧ (∀ i, K i → W₁.heap[i]? = W.heap[i]?) ∧ ∀ W₂, Moves (fun i => i = l) W₁ W₂ → W₂.heap.size = W₁.heap.size → body.wpIn (F.inRound l) (n - 1 - 1) P (onward w.heap.size K (I (k ++ [x])) W₂) a₁ W₂) (fun _ _ _ => False))
        { tmps := (ps.zip (encs x)).foldl (fun t (p, v) => t.setIfInBounds p v) a.tmps, defers := [] } W)
    (hdone : ∀ (D : Nat) (W : World), w.heap.size ≤ D → I xs W → W.heap[D]? = some (.deferred (some [])) → Q .normal { a with defers := { target := .collected D, args := #[] } :: a.defers } W) :
    (Code.rangeFunc g ps assign body).wpIn F n P Q a w := by
  refine wpIn_rangeFunc fun fn hfn => ?_
  rw [hro]
  generalize hrec : (fun (st : LoopState) (pe : Option Code) => ({ state := st, pending := pe, fn, tmps := a.tmps, params := ps, assign, body, defers := w.heap.size } : Loop)) = rec
  have hsz : ((w.alloc (.deferred (some []))).alloc (.loop (rec .ready none))).heap.size = w.heap.size + 2 := by simp
  have hL1 : ((w.alloc (.deferred (some []))).alloc (.loop (rec .ready none))).heap[w.heap.size + 1]? = some (.loop (rec .ready none)) := by
    have := World.alloc_heap_new (w.alloc (.deferred (some []))) (.loop (rec .ready none)); rwa [World.size_alloc] at this
  have hD1 : ((w.alloc (.deferred (some []))).alloc (.loop (rec .ready none))).heap[w.heap.size]? = some (.deferred (some [])) :=
    (Below.heap_alloc _ _ _ (by simp)).trans (World.alloc_heap_new w _)
  have hI1 : I [] ((w.alloc (.deferred (some []))).alloc (.loop (rec .ready none))) := hI [] _ _ (hI [] _ _ h0 (soft_alloc _)) (soft_alloc _)
  have hb1 : Below w.heap.size w ((w.alloc (.deferred (some []))).alloc (.loop (rec .ready none))) := ((Below.refl _ w).alloc (Nat.le_refl _) _).alloc (by simp) _
  refine ⟨w.heap.size + 1, [{ target := .collected w.heap.size, args := #[] }], (w.alloc (.deferred (some []))).alloc (.loop (rec .ready none)), { target := .fn (.func gf) lb, args := #[.func (.yield (w.heap.size + 1)) #[] #[]] }, (w.alloc (.deferred (some []))).alloc (.loop (rec .ready none)), gf,
    #[.func (.yield (w.heap.size + 1)) #[] #[]] ++ lb, (w.alloc (.deferred (some []))).alloc (.loop (rec .ready none)), ?_, ?_, ?_, ?_, fun _ => h1, ?_⟩
  · rw [← hrec]; exact run_enterLoop_outer _ _ _ _ _
  · simp only [resolve, hg]
    simp [go_sem]
  · intro f' hf'; simp [Target.leads] at hf'; subst hf'; exact hFg
  · simp [invoke, go_sem, eg]
  generalize (w.alloc (.deferred (some []))).alloc (.loop (rec .ready none)) = W1 at hsz hL1 hD1 hI1 hb1
  refine (hseq (w.heap.size + 1) (fun k W => I k W ∧ W.heap[w.heap.size + 1]? = some (.loop (rec .ready none)) ∧ W.heap[w.heap.size]? = some (.deferred (some []))) W1 hb1 ?_ ?_ ⟨hI1, hL1, hD1⟩).mono ?_
  · rintro k A B ⟨hi, hl, hd⟩ hm
    have hne : ∀ i, w.heap.size ≤ i → ¬ T i := fun i hi ht => by have := hT i ht; omega
    exact ⟨hI k A B hi (hm.mono fun i _ ht => .inl ht), (hm.block _ (Array.getElem?_eq_some_iff.1 hl).1 (hne _ (by omega))).trans hl, (hm.block _ (Array.getElem?_eq_some_iff.1 hd).1 (hne _ (by omega))).trans hd⟩
  · rintro k x W hx hkl ⟨hi, hl, hd⟩
    have hlt := (Array.getElem?_eq_some_iff.1 hl).1
    have hy := run_yield (P := P) (args := encs x) hl (by rw [← hrec]; exact hps x)
    rw [← hrec] at hy
    refine ⟨fn, _, assign, body, hy, roundIn_of_wpIn hfn (Code.wpIn_mono (fun e a₁ W₁ hq => ?_) (hround _ k x W (by omega) ⟨_, hl⟩ hx hkl hi))⟩
    cases e with
    | normal =>
      obtain ⟨f1, k1, hbody⟩ := hq
      have hl1 := f1.2 _ _ (by omega) hl rfl
      have hd1 := f1.2 _ _ (Nat.le_refl _) hd rfl
      have hlt1 := (Array.getElem?_eq_some_iff.1 hl1).1
      refine ⟨_, run_beginRound hl1 (by rw [← hrec]), ?_⟩
      have hl2 : (W₁.putObj (w.heap.size + 1) (.loop { rec .ready none with state := .busy })).heap[w.heap.size + 1]? = some (.loop { rec .ready none with state := .busy }) := World.putObj_heap_same hlt1
      have hd2 : (W₁.putObj (w.heap.size + 1) (.loop { rec .ready none with state := .busy })).heap[w.heap.size]? = some (.deferred (some [])) := (World.putObj_heap_other (by omega)).trans hd1
      have hK2 : ∀ i, K i → (W₁.putObj (w.heap.size + 1) (.loop { rec .ready none with state := .busy })).heap[i]? = W₁.heap[i]? := fun i hk => World.putObj_heap_other (by have := hK i hk; omega)
      refine wpIn_mono (hbody _ ((Moves.refl _ _).grown (grownBy_putObj' _ _ _) fun j e => by cases e; exact .inl rfl) (by simp [World.putObj])) ?_
      intro e a₃ W₃ hq
      cases e with
      | normal =>
        obtain ⟨f3, k3, i3⟩ := hq
        have hl3 := f3.2 _ _ (by omega) hl2 rfl
        have hd3 := f3.2 _ _ (Nat.le_refl _) hd2 rfl
        have he := run_endRound (P := P) none hl3
        refine ⟨_, _, he, rfl, ⟨hI _ _ _ i3 (soft_put _ (by omega) hl3 rfl), ?_, (World.putObj_heap_other (by omega)).trans hd3⟩, fun i hk => ?_⟩
        · rw [World.putObj_heap_same (Array.getElem?_eq_some_iff.1 hl3).1, ← hrec]; rfl
        · rw [World.putObj_heap_other (by have := hK i hk; omega), k3 i hk, hK2 i hk, k1 i hk]
      | ret => exact hq.elim
      | exit id => exact hq.elim
      | goto t => exact hq.elim
      | panic c => exact hq.elim
      | outgrown => exact hq.elim
    | ret => exact hq.elim
    | exit id => exact hq.elim
    | goto t => exact hq.elim
    | panic c => exact hq.elim
    | outgrown => exact hq.elim
  · rintro e W2 ⟨⟨v, rfl⟩, hi, hl, hd⟩
    have he := run_endLoop (P := P) hl (by rw [← hrec]; simp)
    have hp : (rec .ready none).pending = none := by rw [← hrec]
    rw [hp] at he
    exact ⟨none, _, he, hdone _ _ (Nat.le_refl _) (hI _ _ _ hi (soft_put _ (by omega) hl rfl)) ((World.putObj_heap_other (by omega)).trans hd)⟩
/-- Marks on the way out: each block is shut. -/
def mark (D : Nat) : Deferred := { target := .collected D, args := #[] }
theorem leaves_marks {fn : Func} {tmps : Array Value} {R : Ending → World → Prop} : ∀ (Ds : List Nat) (W : World), Ds.Nodup → (∀ D ∈ Ds, W.heap[D]? = some (.deferred (some []))) →
    (∀ W', Moves (fun i => i ∈ Ds) W W' → LeavesInM F n P fn tmps R [] .returning W') → LeavesInM F n P fn tmps R (Ds.map mark) .returning W
  | [], W, _, _, h => h W (Moves.refl _ _)
  | D :: Ds, W, hn, hd, h => by
    have hD := hd D (List.mem_cons_self ..)
    refine ⟨by simp, .inl ⟨_, _, rfl, run_takeDeferred hD, leaves_marks Ds _ (List.nodup_cons.1 hn).2 (fun D' h' => ?_) fun W' hm => h W' ?_⟩⟩
    · have : D' ≠ D := fun e => by subst e; exact (List.nodup_cons.1 hn).1 h'
      rw [World.putObj_heap_other this]
      exact hd D' (List.mem_cons_of_mem _ h')
    · refine Moves.trans (F := fun i => i ∈ D :: Ds) (b := W.putObj D (.deferred none)) ((Moves.refl _ W).grown (grownBy_putObj' W D _) fun j e => by cases e; exact .inl (List.mem_cons_self ..)) hm fun i hi => .inl (List.mem_cons_of_mem _ hi)
end Go.Proofs.YtfjfkmoofmncnaaDoor

/- Runs of one mode within a row, in plain Lean: how they grow, what they have, and that they have all. -/
namespace Go.Proofs.YtfjfkmoofmncnaaDoor
structure Run where
  a : Nat
  b : Nat
  m : Nat
/-- The last run up to b. -/
def extend (l : List Run) (b : Nat) : List Run := l.dropLast ++ (l.getLast?.map fun r => (⟨r.a, b, r.m⟩ : Run)).toList
theorem extend_snoc (l : List Run) (r : Run) (b : Nat) : extend (l ++ [r]) b = l ++ [⟨r.a, b, r.m⟩] := by simp [extend]
/-- The runs of f from lo on, below k. -/
def runsTo (f : Nat → Nat) (lo : Nat) : Nat → List Run
  | 0 => []
  | k + 1 => if k < lo then [] else if f k = 0 then runsTo f lo k else if lo < k ∧ f (k - 1) = f k then extend (runsTo f lo k) (k + 1) else runsTo f lo k ++ [⟨k, k + 1, f k⟩]
theorem runsTo_low (f : Nat → Nat) (lo : Nat) : ∀ k, k ≤ lo → runsTo f lo k = []
  | 0, _ => rfl
  | k + 1, h => by rw [runsTo, if_pos (by omega)]
theorem runsTo_zero (f : Nat → Nat) {lo k : Nat} (h : lo ≤ k) (h0 : f k = 0) : runsTo f lo (k + 1) = runsTo f lo k := by rw [runsTo, if_neg (by omega), if_pos h0]
theorem runsTo_more (f : Nat → Nat) {lo k : Nat} (h : lo < k) (h0 : f k ≠ 0) (hl : f (k - 1) = f k) : runsTo f lo (k + 1) = extend (runsTo f lo k) (k + 1) := by rw [runsTo, if_neg (by omega), if_neg h0, if_pos ⟨h, hl⟩]
theorem runsTo_new (f : Nat → Nat) {lo k : Nat} (h : lo ≤ k) (h0 : f k ≠ 0) (hl : k = lo ∨ f (k - 1) ≠ f k) : runsTo f lo (k + 1) = runsTo f lo k ++ [⟨k, k + 1, f k⟩] := by
  rw [runsTo, if_neg (by omega), if_neg h0, if_neg]
  rintro ⟨h1, h2⟩
  rcases hl with h3 | h3
  · omega
  · exact h3 h2
/-- One whole run more. -/
theorem runsTo_run (f : Nat → Nat) {lo k : Nat} (h : lo ≤ k) (hl : k = lo ∨ f (k - 1) ≠ f k) : ∀ (n : Nat), (∀ j, k ≤ j → j < k + n + 1 → f j = f k) →
    runsTo f lo (k + n + 1) = runsTo f lo k ++ (if f k = 0 then [] else [⟨k, k + n + 1, f k⟩])
  | 0, _ => by
    by_cases h0 : f k = 0
    · rw [if_pos h0, List.append_nil]; exact runsTo_zero f h h0
    · rw [if_neg h0]; exact runsTo_new f h h0 hl
  | n + 1, hc => by
    have ih := runsTo_run f h hl n fun j h1 h2 => hc j h1 (by omega)
    have e1 : f (k + n + 1) = f k := hc _ (by omega) (by omega)
    have e2 : f (k + n) = f k := hc _ (by omega) (by omega)
    by_cases h0 : f k = 0
    · rw [if_pos h0] at ih ⊢
      rw [show k + (n + 1) + 1 = (k + n + 1) + 1 by omega, runsTo_zero f (by omega) (by rw [e1, h0]), ih]
    · rw [if_neg h0] at ih ⊢
      rw [show k + (n + 1) + 1 = (k + n + 1) + 1 by omega, runsTo_more f (by omega) (by rw [e1]; exact h0) (by rw [Nat.add_sub_cancel, e1, e2]), ih, extend_snoc]
/-- What a run is: within the bounds; its mode, that is not 0, at each place. -/
structure RunOk (f : Nat → Nat) (lo hi : Nat) (r : Run) : Prop where
  lo : lo ≤ r.a
  lt : r.a < r.b
  hi : r.b ≤ hi
  m : r.m ≠ 0
  all : ∀ j, r.a ≤ j → j < r.b → f j = r.m
theorem RunOk.up {f : Nat → Nat} {lo hi hi' : Nat} {r : Run} (h : RunOk f lo hi r) (hh : hi ≤ hi') : RunOk f lo hi' r := ⟨h.lo, h.lt, Nat.le_trans h.hi hh, h.m, h.all⟩
/-- All runs are so; where the last place is not 0, the last run ends there. -/
theorem runsTo_ok (f : Nat → Nat) (lo : Nat) : ∀ k, (∀ r ∈ runsTo f lo k, RunOk f lo k r) ∧ (lo < k → f (k - 1) ≠ 0 → ∃ l r, runsTo f lo k = l ++ [r] ∧ r.b = k)
  | 0 => ⟨fun r hr => by simp [runsTo] at hr, fun h => by omega⟩
  | k + 1 => by
    obtain ⟨i1, i2⟩ := runsTo_ok f lo k
    by_cases hk : k < lo
    · rw [runsTo_low f lo _ (by omega)]
      exact ⟨fun r hr => by simp at hr, fun h => by omega⟩
    by_cases h0 : f k = 0
    · rw [runsTo_zero f (by omega) h0]
      exact ⟨fun r hr => (i1 r hr).up (by omega), fun _ h => absurd (by simpa using h0) h⟩
    by_cases hm : lo < k ∧ f (k - 1) = f k
    · rw [runsTo_more f hm.1 h0 hm.2]
      obtain ⟨l, r, hlr, hrb⟩ := i2 hm.1 (by rw [hm.2]; exact h0)
      rw [hlr, extend_snoc]
      have hr := i1 r (by rw [hlr]; simp)
      refine ⟨fun q hq => ?_, fun _ _ => ⟨l, _, rfl, rfl⟩⟩
      rcases List.mem_append.1 hq with hq | hq
      · exact (i1 q (by rw [hlr]; exact List.mem_append_left _ hq)).up (by omega)
      · simp at hq; subst hq
        refine ⟨hr.lo, by have := hr.lt; have := hr.hi; show r.a < k + 1; omega, Nat.le_refl _, hr.m, fun j h1 h2 => ?_⟩
        by_cases hj : j < r.b
        · exact hr.all j h1 hj
        · have e : j = k := by have h3 : j < k + 1 := h2; omega
          subst e
          rw [← hm.2]
          exact hr.all _ (by have := hr.lt; show r.a ≤ j - 1; omega) (by have := hr.lt; have h4 : r.a ≤ j := h1; omega)
    · rw [runsTo_new f (by omega) h0 (by by_cases e : k = lo; exact .inl e; exact .inr fun h => hm ⟨by omega, h⟩)]
      refine ⟨fun q hq => ?_, fun _ _ => ⟨_, _, rfl, rfl⟩⟩
      rcases List.mem_append.1 hq with hq | hq
      · exact (i1 q hq).up (by omega)
      · simp at hq; subst hq
        exact ⟨by show lo ≤ k; omega, by show k < k + 1; omega, Nat.le_refl _, h0, fun j h1 h2 => by have h3 : k ≤ j := h1; have h4 : j < k + 1 := h2; rw [show j = k by omega]⟩
theorem runsTo_mem {f : Nat → Nat} {lo hi : Nat} {r : Run} (h : r ∈ runsTo f lo hi) : RunOk f lo hi r := (runsTo_ok f lo hi).1 r h
/-- Each place that is not 0 lies in a run. -/
theorem runsTo_has (f : Nat → Nat) (lo : Nat) : ∀ k j, lo ≤ j → j < k → f j ≠ 0 → ∃ r ∈ runsTo f lo k, r.a ≤ j ∧ j < r.b
  | 0, j, _, h, _ => by omega
  | k + 1, j, h1, h2, h3 => by
    by_cases h0 : f k = 0
    · rw [runsTo_zero f (by omega) h0]
      exact runsTo_has f lo k j h1 (by by_cases e : j = k; subst e; exact absurd h0 h3; omega) h3
    by_cases hm : lo < k ∧ f (k - 1) = f k
    · rw [runsTo_more f hm.1 h0 hm.2]
      obtain ⟨l, r, hlr, hrb⟩ := (runsTo_ok f lo k).2 hm.1 (by rw [hm.2]; exact h0)
      have hr := runsTo_mem (r := r) (f := f) (lo := lo) (hi := k) (by rw [hlr]; simp)
      rw [hlr, extend_snoc]
      by_cases e : j = k
      · exact ⟨_, List.mem_append_right _ (List.mem_singleton.2 rfl), by have := hr.lt; show r.a ≤ j; omega, by show j < k + 1; omega⟩
      · obtain ⟨q, hq, q1, q2⟩ := runsTo_has f lo k j h1 (by omega) h3
        rw [hlr] at hq
        rcases List.mem_append.1 hq with hq | hq
        · exact ⟨q, List.mem_append_left _ hq, q1, q2⟩
        · simp at hq; subst hq
          exact ⟨_, List.mem_append_right _ (List.mem_singleton.2 rfl), q1, by show j < k + 1; omega⟩
    · rw [runsTo_new f (by omega) h0 (by by_cases e : k = lo; exact .inl e; exact .inr fun h => hm ⟨by omega, h⟩)]
      by_cases e : j = k
      · exact ⟨_, List.mem_append_right _ (List.mem_singleton.2 rfl), by show k ≤ j; omega, by show j < k + 1; omega⟩
      · obtain ⟨q, hq, q1, q2⟩ := runsTo_has f lo k j h1 (by omega) h3
        exact ⟨q, List.mem_append_left _ hq, q1, q2⟩
theorem runsTo_congr {f g : Nat → Nat} {lo : Nat} : ∀ k, (∀ j, lo ≤ j → j < k → f j = g j) → runsTo f lo k = runsTo g lo k
  | 0, _ => rfl
  | k + 1, h => by
    by_cases hk : k < lo
    · rw [runsTo_low f lo _ (by omega), runsTo_low g lo _ (by omega)]
    · have ih := runsTo_congr (f := f) (g := g) k fun j h1 h2 => h j h1 (by omega)
      have e := h k (by omega) (by omega)
      rw [runsTo, runsTo, ih, e]
      by_cases hl : lo < k
      · rw [h (k - 1) (by omega) (by omega)]
      · simp [hl]
theorem runsTo_len (f : Nat → Nat) (lo : Nat) : ∀ k, (runsTo f lo k).length ≤ k
  | 0 => by simp [runsTo]
  | k + 1 => by
    have ih := runsTo_len f lo k
    rw [runsTo]
    split
    · simp
    split
    · omega
    split
    · rename_i h
      have hl : (extend (runsTo f lo k) (k + 1)).length ≤ (runsTo f lo k).length - 1 + 1 := by
        unfold extend
        rw [List.length_append, List.length_dropLast]
        cases (runsTo f lo k).getLast? <;> simp
      omega
    · simp; omega
/-- Two runs that share a place are one. -/
theorem runsTo_any (f : Nat → Nat) (lo hi : Nat) (p : Nat → Bool) : (runsTo f lo hi).any (fun r => p r.m) = (List.range hi).any fun k => decide (lo ≤ k) && decide (f k ≠ 0) && p (f k) := by
  rw [Bool.eq_iff_iff, List.any_eq_true, List.any_eq_true]
  constructor
  · rintro ⟨r, hr, hp⟩
    have H := runsTo_mem hr
    refine ⟨r.a, by have h1 := H.lt; have h2 := H.hi; simp; omega, ?_⟩
    have e := H.all r.a (Nat.le_refl _) H.lt
    rw [e]
    simp [H.lo, H.m, hp]
  · rintro ⟨k, hk, hp⟩
    simp at hk hp
    obtain ⟨r, hr, h1, h2⟩ := runsTo_has f lo hi k hp.1.1 hk hp.1.2
    exact ⟨r, hr, by rw [← (runsTo_mem hr).all k h1 h2]; exact hp.2⟩
end Go.Proofs.YtfjfkmoofmncnaaDoor
/- span: a table in memory; clip, runs, the iterator that runs gives. -/
namespace Go.Proofs.YtfjfkmoofmncnaaDoor
open Go.RowKit Go.Shelf
attribute [local go_sem] Oper.semAt_some
/-- The table that lies in block b: of each client each block's mode. -/
structure IsTab (w : World) (b : Nat) (R : Nat → Nat → Nat) : Prop where
  c : ∀ c k, c < 8 → k < 256 → w.cell? ⟨b, c * 256 + k, none⟩ = some (.int .u8 (R c k : Int))
  fro : ∀ o, w.frozen? ⟨b, o, none⟩ = false
section
variable {w w' : World} {b : Nat} {R : Nat → Nat → Nat}
theorem IsTab.lt (h : IsTab w b R) : b < w.heap.size := World.block_lt_of_cell? w _ (h.c 0 0 (by omega) (by omega))
theorem IsTab.keep (h : IsTab w b R) (hk : w'.heap[b]? = w.heap[b]?) : IsTab w' b R :=
  ⟨fun c k hc hl => (World.cell?_of_block (a := ⟨b, c * 256 + k, none⟩) hk).trans (h.c c k hc hl), fun o => (World.frozen?_of_block (a := ⟨b, o, none⟩) hk).trans (h.fro o)⟩
def rng (a b : Nat) : Value := .agg #[.int .i64 (a : Int), .int .i64 (b : Int)]
set_option maxRecDepth 100000 in
theorem clip_any (a b : Nat) : Calls Tryd.prog 89 #[rng a b] w fun e w' => e = .returned (rng a (min b 256)) ∧ Below w.heap.size w w' := by
  have e1 : max (a : Int) 0 = (a : Int) := by omega
  unfold rng
  go_enter Tryd.func89, Tryd.ntmps89
  go_wp2_with fail
  · have h : (256 : Int) ≤ (b : Int) := by first | assumption | omega
    refine bodyPost_ret (v := .agg #[.int .i64 (a : Int), .int .i64 256]) (by simp [results, Tryd.results89, go_sem]) rfl ?_
    exact ⟨by rw [show min b 256 = 256 by omega]; rfl, ((Below.refl _ _).alloc (Nat.le_refl _) _).alloc (by simp) _⟩
  · have h : (b : Int) ≤ 256 := by first | assumption | omega
    refine bodyPost_ret (v := .agg #[.int .i64 (a : Int), .int .i64 (b : Int)]) (by simp [results, Tryd.results89, go_sem]) rfl ?_
    exact ⟨by rw [show min b 256 = b by omega], ((Below.refl _ _).alloc (Nat.le_refl _) _).alloc (by simp) _⟩
set_option maxRecDepth 100000 in
theorem runs_any (a b : Nat) (v : Option Addr) : Calls Tryd.prog 85 #[.pointer v, rng a b] w fun e w' =>
    e = .returned (.func (.func 88) #[] #[.pointer (some ⟨w.heap.size + 1, 0, none⟩), .pointer (some ⟨w.heap.size, 0, none⟩)]) ∧
    w' = (w.alloc (.cells #[.pointer v] 201)).alloc (.cells #[.int .i64 (a : Int), .int .i64 (b : Int)] 34) := by
  unfold rng
  go_enter Tryd.func85, Tryd.ntmps85
  go_wp2_with fail
  go_ret
  exact ⟨rfl, rfl⟩
/-- What the iterator reads. -/
structure ItW (w : World) (bR bW b c a hi : Nat) (f : Nat → Nat) : Prop where
  r0 : w.cell? ⟨bR, 0, none⟩ = some (.int .i64 (a : Int))
  r1 : w.cell? ⟨bR, 1, none⟩ = some (.int .i64 (hi : Int))
  w0 : w.cell? ⟨bW, 0, none⟩ = some (.pointer (some ⟨b, c * 256, none⟩))
  row : ∀ k, k < 256 → w.cell? ⟨b, c * 256 + k, none⟩ = some (.int .u8 (f k : Int))
theorem ItW.keep {w w' : World} {bR bW b c a hi : Nat} {f : Nat → Nat} (h : ItW w bR bW b c a hi f) (hk : ∀ i, (i = bR ∨ i = bW ∨ i = b) → w'.heap[i]? = w.heap[i]?) : ItW w' bR bW b c a hi f :=
  ⟨(World.cell?_of_block (a := ⟨bR, 0, none⟩) (hk bR (.inl rfl))).trans h.r0, (World.cell?_of_block (a := ⟨bR, 1, none⟩) (hk bR (.inl rfl))).trans h.r1, (World.cell?_of_block (a := ⟨bW, 0, none⟩) (hk bW (.inr (.inl rfl)))).trans h.w0,
    fun k hl => (World.cell?_of_block (a := ⟨b, c * 256 + k, none⟩) (hk b (.inr (.inr rfl)))).trans (h.row k hl)⟩
theorem itw_set {W : World} {bR bW b c a z hi : Nat} {f : Nat → Nat} (hbR : bR ≠ b) (hbW : bR ≠ bW) (h : ItW W bR bW b c a z f) :
    ItW ((W.setCell ⟨bR, 0, none⟩ (.int .i64 (a : Int))).setCell ⟨bR, 1, none⟩ (.int .i64 (hi : Int))) bR bW b c a hi f := by
  have hne : ∀ (k o : Nat) (v : Value) (X : World) (p : Nat), k ≠ bR → (X.setCell ⟨bR, p, none⟩ v).cell? ⟨k, o, none⟩ = X.cell? ⟨k, o, none⟩ := fun k o v X p hk => World.cell?_setCell_other _ _ _ _ (by intro e; injection e with e1 _; exact hk e1.symm)
  refine ⟨?_, ?_, ?_, fun k hk => ?_⟩
  · rw [oth_cell _ _ _ (by omega)]; exact World.cell?_setCell_same _ _ _ h.r0
  · refine World.cell?_setCell_same (u := .int .i64 (z : Int)) _ _ _ ?_
    rw [oth_cell _ _ _ (by omega)]; exact h.r1
  · rw [hne _ _ _ _ _ hbW.symm, hne _ _ _ _ _ hbW.symm]; exact h.w0
  · rw [hne _ _ _ _ _ hbR.symm, hne _ _ _ _ _ hbR.symm]; exact h.row k hk
def encR (r : Run) : Array Value := #[rng r.a r.b, .int .i64 (r.m : Int)]
def OkR (r : Run) : Prop := r.a < r.b ∧ r.b ≤ 256 ∧ r.m ≠ 0 ∧ r.m < 256
theorem mv2 {W : World} {bR : Nat} (u v : Value) : Moves (fun i => i = bR) W ((W.setCell ⟨bR, 0, none⟩ u).setCell ⟨bR, 1, none⟩ v) :=
  Moves.setCell (F := fun i => i = bR) (Moves.setCell (F := fun i => i = bR) (Moves.refl _ _) ⟨bR, 0, none⟩ u (.inl rfl)) ⟨bR, 1, none⟩ v (.inl rfl)
set_option maxRecDepth 100000 in
set_option maxHeartbeats 4000000 in
/-- The iterator gives the runs. -/
theorem runs_iter {n : Nat} (hn : 1 ≤ n) (bR bW b c a z : Nat) (f : Nat → Nat) (hf : ∀ k, k < 256 → f k < 256) (hbR : bR ≠ b) (hbW : bR ≠ bW)
    (h : ItW w bR bW b c a z f) (rf : ∀ o, w.frozen? ⟨bR, o, none⟩ = false) :
    IterT Fence.wide n Tryd.prog 88 #[.pointer (some ⟨bR, 0, none⟩), .pointer (some ⟨bW, 0, none⟩)] encR (runsTo f a (min z 256)) 256 OkR (fun i => i = bR ∨ i = bW ∨ i = b) (fun i => i = bR) w := fun l J W hW hJ hY h0 => by
  obtain ⟨hi, hhi⟩ : ∃ hi, hi = min z 256 := ⟨_, rfl⟩
  have hi256 : hi ≤ 256 := by omega
  rw [← hhi]
  refine callsIn_of_wp Tryd.func88 rfl trivial ?_ rfl
  simp only [Tryd.ntmps88, List.size_toArray, List.length_cons, List.length_nil, Nat.reduceAdd, Nat.reduceSub, Array.replicate_succ, Array.replicate_zero, List.push_toArray, List.append_toArray, List.nil_append, List.cons_append]
  have lR : bR < w.heap.size := World.block_lt_of_cell? w _ h.r0
  have lW : bW < w.heap.size := World.block_lt_of_cell? w _ h.w0
  have lb : b < w.heap.size := World.block_lt_of_cell? w _ (h.row 0 (by omega))
  have hW' : ItW W bR bW b c a z f := h.keep fun i hi => hW.block i (by rcases hi with rfl | rfl | rfl <;> assumption)
  have rfW : ∀ o, W.frozen? ⟨bR, o, none⟩ = false := fun o => (World.frozen?_of_block (a := ⟨bR, o, none⟩) (hW.block bR lR)).trans (rf o)
  have hszW := hW.size
  have r0 := hW'.r0
  have r1 := hW'.r1
  have hclip := callsIn_wide (n := n - 1) |>.2 (clip_any (w := W) a z)
  rw [← hhi] at hclip
  clear hhi
  unfold rng at hclip
  have H := Lib.hid hW'
  have Hf := Lib.hid rfW
  have HJ := Lib.hid hJ
  have HY := Lib.hid hY
  have H0 := Lib.hid h0
  clear hW' rfW h rf hW hJ hY h0
  gi_wp2_with (refine ⟨trivial, ?_⟩; gi_at_call 89; refine hclip.mono ?_; clear hclip r0 r1; rintro e W1 ⟨rfl, hB1⟩; have h1 : ItW W1 bR bW b c a z f := H.out.keep fun i hi => hB1.block i (by rcases hi with rfl | rfl | rfl <;> omega); have rf0 := (World.frozen?_of_block (a := ⟨bR, 0, none⟩) (hB1.block bR (by omega))).trans (Hf.out 0); have rf1 := (World.frozen?_of_block (a := ⟨bR, 1, none⟩) (hB1.block bR (by omega))).trans (Hf.out 1); have hJ1 : J [] ((W1.setCell ⟨bR, 0, none⟩ (.int .i64 (a : Int))).setCell ⟨bR, 1, none⟩ (.int .i64 (hi : Int))) := HJ.out _ _ _ H0.out ((Moves.of_below hB1).trans (mv2 _ _) fun i hi => .inl hi); have h2 := Lib.hid (itw_set (hi := hi) hbR hbW h1); have r0 := h1.r0; have r1 := h1.r1; have HJ1 := Lib.hid hJ1; clear h1 hJ1)
  generalize hW2 : (W1.setCell ⟨bR, 0, none⟩ (.int .i64 (a : Int))).setCell ⟨bR, 1, none⟩ (.int .i64 (hi : Int)) = W2 at *
  clear hW2 rf0 rf1 H Hf H0
  have r0 := h2.out.r0
  gi_wp2
  gi_loopw [4] (fun p wr => ∃ k : Nat, p = .int .i64 (k : Int) ∧ a ≤ k ∧ (k ≤ hi ∨ k = a) ∧ (k = a ∨ f (k - 1) ≠ f k ∨ k = hi) ∧ ItW wr bR bW b c a hi f ∧ J (runsTo f a k) wr) (fun p _ => 256 - (intOf p).toNat)
  case atStart => exact ⟨a, rfl, Nat.le_refl _, .inr rfl, .inl rfl, h2.out, by rw [runsTo_low f a a (Nat.le_refl _)]; exact HJ1.out⟩
  case round =>
    clear HJ1 h2 r0
    obtain ⟨k, rfl, hak, hkh, hbd, hit, hj⟩ := hrel
    generalize hV : wr = V at *
    clear hV
    have r1 := hit.r1
    have HI := Lib.hid hit
    have HJk := Lib.hid hj
    clear hit hj
    by_cases hlt : k < hi
    · have e1 : decide ((k : Int) < (hi : Int)) = true := by simpa using hlt
      have hk256 : k < 256 := by omega
      gi_wp2
      gi_loopw [4] (fun p w3 => ∃ j : Nat, p = .int .i64 (j : Int) ∧ k ≤ j ∧ j ≤ hi ∧ (∀ i, k ≤ i → i < j → f i = f k) ∧ Moves (fun _ => False) V w3) (fun p _ => 256 - (intOf p).toNat)
      case atStart => exact ⟨k, rfl, Nat.le_refl _, by omega, fun i h1 h2 => absurd h2 (by omega), Moves.refl _ _⟩
      case round =>
        clear r1 e1
        obtain ⟨j, rfl, hkj, hjh, hsame, hm⟩ := hrel
        have hit3 : ItW wr bR bW b c a hi f := HI.out.keep fun i hi' => hm.block i (by rcases hi' with rfl | rfl | rfl; exact World.block_lt_of_cell? _ _ HI.out.r0; exact World.block_lt_of_cell? _ _ HI.out.w0; exact World.block_lt_of_cell? _ _ (HI.out.row 0 (by omega))) (fun h => h)
        have r1 := hit3.r1
        have w0 := hit3.w0
        have ck := hit3.row k hk256
        have HI3 := Lib.hid hit3
        have Hs := Lib.hid hsame
        have Hm := Lib.hid hm
        clear hit3 hsame hm
        by_cases hjl : j < hi ∧ f j = f k
        · obtain ⟨hjl, hfe⟩ := hjl
          have e2 : decide ((j : Int) < (hi : Int)) = true := by simpa using hjl
          have hj256 : j < 256 := by omega
          have cj := HI3.out.row j hj256
          have e3 : ((f j : Int) == (f k : Int)) = true := by simp [hfe]
          gi_wp2_with (gi_quiet (fail))
          refine ⟨⟨j + 1, by go_num, by omega, by omega, fun i h1 h2 => ?_, Hm.out.drewN _⟩, by simp [intOf]; omega⟩
          by_cases e : i = j
          · rw [e, hfe]
          · exact Hs.out i h1 (by omega)
        · have hjk : j ≠ k := fun e => hjl ⟨by omega, by rw [e]⟩
          have hend : runsTo f a j = runsTo f a k ++ (if f k = 0 then [] else [⟨k, j, f k⟩]) := by
            have h := runsTo_run f hak (by rcases hbd with h | h | h; exact .inl h; exact .inr h; omega) (j - k - 1) fun i h1 h2 => Hs.out i h1 (by omega)
            rwa [show k + (j - k - 1) + 1 = j by omega] at h
          have hbd2 : j = a ∨ f (j - 1) ≠ f j ∨ j = hi := by
            by_cases h : j < hi
            · exact .inr (.inl fun e => hjl ⟨h, by rw [← e]; exact Hs.out (j - 1) (by omega) (by omega)⟩)
            · exact .inr (.inr (by omega))
          have hwk : wrap64 (f k : Int) = (f k : Int) := by unfold wrap64; have := hf k hk256; omega
          have Hfk := Lib.hid hwk
          clear hwk
          by_cases hjl2 : j < hi
          · have e2 : decide ((j : Int) < (hi : Int)) = true := by simpa using hjl2
            have hj256 : j < 256 := by omega
            have cj := HI3.out.row j hj256
            have e3 : ((f j : Int) == (f k : Int)) = false := by simp; exact fun h => hjl ⟨hjl2, by omega⟩
            gi_wp2_with (gi_quiet (fail))
            · have hf0 : 0 < f k := by omega
              obtain ⟨fn, tmps, assign, body, hy, hR⟩ := HY.out (runsTo f a k) ⟨k, j, f k⟩ (wr.drewN nq) ⟨by show k < j; omega, by show j ≤ 256; omega, by show f k ≠ 0; omega, hf k hk256⟩ (by have := runsTo_len f a k; omega) (HJ.out _ _ _ HJk.out (((Hm.out.drewN nq)).mono fun i _ h => h.elim))
              dsimp only [encR, rng] at hy
              rw [Hfk.out, hy]
              gi_wp2
              refine hR.mono ?_
              rintro e W3 ⟨rfl, hJ3, hk3⟩
              have HJ3 := Lib.hid hJ3
              have Hk3 := Lib.hid hk3
              clear hJ3 hk3 hR hy
              gi_wp2
              go_roundw
              case rel => exact ⟨j, rfl, by omega, .inl hjh, hbd2, HI3.out.keep fun i hi' => (Hk3.out i hi').trans rfl, by rw [hend, if_neg (by omega)]; exact HJ3.out⟩
              case measure => simp [intOf]; omega
            · have hf0 : f k = 0 := by omega
              refine ⟨fun _ h => (by cases h), ?_⟩
              gi_wp2
              go_roundw
              case rel => exact ⟨j, rfl, by omega, .inl hjh, hbd2, HI3.out.keep fun i hi' => rfl, by rw [hend, if_pos hf0, List.append_nil]; exact HJ.out _ _ _ HJk.out (((Hm.out.drewN nq)).mono fun i _ h => h.elim)⟩
              case measure => simp [intOf]; omega
          · have e2 : decide ((j : Int) < (hi : Int)) = false := by simpa using hjl2
            gi_wp2_with (gi_quiet (fail))
            · have hf0 : 0 < f k := by omega
              obtain ⟨fn, tmps, assign, body, hy, hR⟩ := HY.out (runsTo f a k) ⟨k, j, f k⟩ (wr.drewN nq) ⟨by show k < j; omega, by show j ≤ 256; omega, by show f k ≠ 0; omega, hf k hk256⟩ (by have := runsTo_len f a k; omega) (HJ.out _ _ _ HJk.out (((Hm.out.drewN nq)).mono fun i _ h => h.elim))
              dsimp only [encR, rng] at hy
              rw [Hfk.out, hy]
              gi_wp2
              refine hR.mono ?_
              rintro e W3 ⟨rfl, hJ3, hk3⟩
              have HJ3 := Lib.hid hJ3
              have Hk3 := Lib.hid hk3
              clear hJ3 hk3 hR hy
              gi_wp2
              go_roundw
              case rel => exact ⟨j, rfl, by omega, .inl hjh, hbd2, HI3.out.keep fun i hi' => (Hk3.out i hi').trans rfl, by rw [hend, if_neg (by omega)]; exact HJ3.out⟩
              case measure => simp [intOf]; omega
            · have hf0 : f k = 0 := by omega
              refine ⟨fun _ h => (by cases h), ?_⟩
              gi_wp2
              go_roundw
              case rel => exact ⟨j, rfl, by omega, .inl hjh, hbd2, HI3.out.keep fun i hi' => rfl, by rw [hend, if_pos hf0, List.append_nil]; exact HJ.out _ _ _ HJk.out (((Hm.out.drewN nq)).mono fun i _ h => h.elim)⟩
              case measure => simp [intOf]; omega
    · have e1 : decide ((k : Int) < (hi : Int)) = false := by simpa using hlt
      have ek : runsTo f a hi = runsTo f a k := by
        rcases Nat.lt_or_ge a hi with h | h
        · rw [show hi = k by omega]
        · rw [runsTo_low f a hi h, runsTo_low f a k (by omega)]
      gi_wp2
      go_end0
      rw [ek]
      exact ⟨⟨_, rfl⟩, HJk.out⟩
end
end Go.Proofs.YtfjfkmoofmncnaaDoor
/- Holds as cells. -/
namespace Go.Proofs.YtfjfkmoofmncnaaDoor
open Go.RowKit
structure Hd where
  a : Nat
  b : Nat
  c : Nat
  m : Nat
deriving DecidableEq
namespace Hd
def cells (v : Hd) : List Value := [.int .i64 (v.a : Int), .int .i64 (v.b : Int), .int .i64 (v.c : Int), .int .i64 (v.m : Int)]
def val (v : Hd) : Value := .agg #[.int .i64 (v.a : Int), .int .i64 (v.b : Int), .int .i64 (v.c : Int), .int .i64 (v.m : Int)]
end Hd
theorem one_hcells (v : Hd) : ∀ x ∈ v.cells, x.oneCell' = true := by
  intro x hx
  simp [Hd.cells] at hx
  rcases hx with rfl | rfl | rfl | rfl <;> rfl
def hrows (l : List Hd) : List Value := l.flatMap Hd.cells
theorem hrows_app (a b : List Hd) : hrows (a ++ b) = hrows a ++ hrows b := by simp [hrows]
theorem length_hrows (l : List Hd) : (hrows l).length = l.length * 4 := by
  induction l with
  | nil => rfl
  | cons x l ih => rw [show x :: l = [x] ++ l from rfl, hrows_app, List.length_append, ih, List.length_append]; simp [hrows, Hd.cells]; omega
theorem one_hrows (l : List Hd) : ∀ v ∈ hrows l, v.oneCell' = true := by
  intro v hv
  obtain ⟨x, _, hx⟩ := List.mem_flatMap.1 hv
  exact one_hcells x v hx
theorem hrows_at : ∀ (l : List Hd) (k : Nat) (m : Hd), l[k]? = some m → ∀ j v, m.cells[j]? = some v → (hrows l)[k * 4 + j]? = some v
  | [], k, m, h, _, _, _ => by simp at h
  | x :: l, 0, m, h, j, v, hj => by
    simp at h
    subst h
    rw [show x :: l = [x] ++ l from rfl, hrows_app, Nat.zero_mul, Nat.zero_add, List.getElem?_append_left]
    · simpa [hrows] using hj
    · have := (List.getElem?_eq_some_iff.1 hj).1
      simpa [hrows] using this
  | x :: l, k + 1, m, h, j, v, hj => by
    rw [show x :: l = [x] ++ l from rfl, hrows_app, List.getElem?_append_right (by simp [hrows, Hd.cells]; omega)]
    have := hrows_at l k m (by simpa using h) j v hj
    rw [show (k + 1) * 4 + j - (hrows [x]).length = k * 4 + j by simp [hrows, Hd.cells]; omega]
    exact this
theorem hrowcell {w : World} {base : Nat} {v : Value} {l : List Hd} (h : w.ownsRow base 57 4 v l.length (hrows l)) {k : Nat} {m : Hd} (hk : l[k]? = some m) :
    ∃ g cap, v = .slice (some ⟨g, 0, none⟩) l.length cap ∧ ∀ j x, m.cells[j]? = some x → w.cell? ⟨g, k * 4 + j, none⟩ = some x := by
  have hkl := (List.getElem?_eq_some_iff.1 hk).1
  rcases ownsRow_form h with ⟨h0, h1⟩ | ⟨g, cap, rfl, _⟩
  · have : l.length = 0 := h1.1
    omega
  · refine ⟨g, cap, rfl, fun j x hj => ?_⟩
    have hj3 : j < 4 := (List.getElem?_eq_some_iff.1 hj).1
    rw [World.ownsRow.cellAt h (k * 4 + j) (by omega)]
    exact hrows_at l k m hk j x hj
theorem Tryd.infoHold : (Tryd.prog.info? 57).map (fun i => (i.zero, i.size, i.bytes)) = some (some (Hd.val ⟨0, 0, 0, 0⟩), 4, 32) := by kernel_rfl
/-- The holds of a range, of those clients and modes that p lets in. -/
def someRow (p : Nat → Nat → Bool) (c : Nat) (l : List Run) : List Hd := (l.filter fun r => p c r.m).map fun r => ⟨r.a, r.b, c, r.m⟩
def someOf (R : Nat → Nat → Nat) (a z : Nat) (p : Nat → Nat → Bool) (n : Nat) : List Hd := (List.range n).flatMap fun c => someRow p c (runsTo (R c) a (min z 256))
theorem someOf_succ (R : Nat → Nat → Nat) (a z : Nat) (p : Nat → Nat → Bool) (n : Nat) : someOf R a z p (n + 1) = someOf R a z p n ++ someRow p n (runsTo (R n) a (min z 256)) := by
  unfold someOf
  rw [List.range_succ, List.flatMap_append]
  simp
theorem someRow_len (p : Nat → Nat → Bool) (c : Nat) (l : List Run) : (someRow p c l).length ≤ l.length := by
  unfold someRow
  rw [List.length_map]
  exact List.length_filter_le _ _
theorem someOf_len (R : Nat → Nat → Nat) (a z : Nat) (p : Nat → Nat → Bool) : ∀ n, (someOf R a z p n).length ≤ 256 * n
  | 0 => by simp [someOf]
  | n + 1 => by
    rw [someOf_succ, List.length_append]
    have h1 := someOf_len R a z p n
    have h2 := someRow_len p n (runsTo (R n) a (min z 256))
    have h3 := runsTo_len (R n) a (min z 256)
    omega
theorem someRow_snoc (p : Nat → Nat → Bool) (c : Nat) (l : List Run) (r : Run) : someRow p c (l ++ [r]) = someRow p c l ++ (if p c r.m then [⟨r.a, r.b, c, r.m⟩] else []) := by
  unfold someRow
  rw [List.filter_append, List.map_append]
  by_cases h : p c r.m <;> simp [h]
end Go.Proofs.YtfjfkmoofmncnaaDoor
