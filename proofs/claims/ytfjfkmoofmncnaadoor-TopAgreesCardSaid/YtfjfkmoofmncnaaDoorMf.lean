/- Lemmas of the proof of TopAgrees, in one text: the parts Qb, Qc, Qd, Qe, Qf, Qg, Qi. Each part's own comment says what it shows. No condition but those that each lemma names. -/
import Derived.Test.YtfjfkmoofmncnaaDoorQa
import Derived.Test.YtfjfkmoofmncnaaDoorPax
import Derived.Test.YtfjfkmoofmncnaaDoorMc
import Derived.StillTailTactics
import Derived.Test.YtfjfkmoofmncnaaDoorChoose
import Derived.Maps.AppendAt
import Derived.Defers
/- quorum: a group of three nodes in memory; what turns in it; Log, Promised. -/
namespace Go.Proofs.YtfjfkmoofmncnaaDoor
open Go.RowKit
/-- Where a group lies. -/
structure QP where
  gb : Nat
  gl : Nat
  gc : Nat
  mb : Nat
  cb : Nat
  nb : Nat → Nat
  ab : Nat → Nat
  lv : Nat → Value
def vt (g : Nat → Option (Int × ByteArray)) (k : Nat) : Option Vt := (g k).map fun y => ⟨y.1, y.2⟩
/-- What may turn in a group. -/
def QF (q : QP) (I : Nat → Prop) (k : Nat) : Prop := k = q.gb ∨ k = q.gl ∨ (∃ i, i < 3 ∧ k = q.nb i) ∨ (∃ i, i < 3 ∧ k = q.ab i) ∨ (∃ i, i < 3 ∧ (q.lv i).ownBlock = some k) ∨ k = q.mb ∨ k = q.cb ∨ I k
structure QCol (col : Nat → Nat) (q : QP) (I : Nat → Prop) : Prop where
  g : col q.gb = 0
  l : col q.gl = 1
  m : col q.mb = 2
  c : col q.cb = 2
  i : ∀ k, I k → col k = 2
  n : ∀ i, i < 3 → col (q.nb i) = 10 + i
  a : ∀ i, i < 3 → col (q.ab i) = 20 + i
  v : ∀ i k, i < 3 → (q.lv i).ownBlock = some k → col k = 30 + i
structure IsQ (w : World) (q : QP) (X I : Nat → Prop) (f : Lit → Option Value) (n : Nat) (s : PX ByteArray) : Prop where
  c0 : w.cell? ⟨q.gb, 0, none⟩ = some (.slice (some ⟨q.gl, 0, none⟩) 3 q.gc)
  row : ∀ i, i < 3 → w.cell? ⟨q.gl, i, none⟩ = some (.pointer (some ⟨q.nb i, 0, none⟩))
  n0 : ∀ i, i < 3 → w.cell? ⟨q.nb i, 0, none⟩ = some (.bool true)
  n1 : ∀ i, i < 3 → w.cell? ⟨q.nb i, 1, none⟩ = some (.pointer (some ⟨q.ab i, 0, none⟩))
  n2 : ∀ i, i < 3 → w.cell? ⟨q.nb i, 2, none⟩ = some (q.lv i)
  n3 : ∀ i, i < 3 → w.cell? ⟨q.nb i, 3, none⟩ = some (.int .i64 (s.round i : Int))
  fro : ∀ i, i < 3 → ∀ o, w.frozen? ⟨q.nb i, o, none⟩ = false
  acc : ∀ i, i < 3 → Acc w X (q.ab i) (s.p i) (vt (s.V i))
  log : ∀ i, i < 3 → w.ownsRow 0 9 1 (q.lv i) (s.log i).length (srows (s.log i))
  gv : GV w q.gb q.mb q.cb n n n I f
  xs : ∀ k, QF q I k → X k
  xl : ∀ k, X k → k < w.heap.size
  col : ∃ col, QCol col q I
section
variable {w w' : World} {q : QP} {X I : Nat → Prop} {f : Lit → Option Value} {n : Nat} {s : PX ByteArray}
theorem Acc.movesX {b : Nat} {p : Int} {V : Nat → Option Vt} {F : Nat → Prop} (h : Acc w X b p V) (hm : Moves F w w') (hF : ∀ k, F k → X k) (hb : ¬ F b) : Acc w' X b p V := by
  obtain ⟨B, h1, h2⟩ := h
  exact ⟨B, h1.keep (hm.block b h1.lt hb) fun i x hx => hm.block _ (h1.vs i x hx).lt fun e => h2 i x hx (hF _ e), h2⟩
theorem IsQ.lt (h : IsQ w q X I f n s) : ∀ k, QF q I k → k < w.heap.size := fun k hk => h.xl k (h.xs k hk)
/-- All of it but acceptors' and maps is as it was. -/
theorem IsQ.change (h : IsQ w q X I f n s) {F : Nat → Prop} (hm : Moves F w w') {X' I' : Nat → Prop} {f' : Lit → Option Value} {n' : Nat} {s' : PX ByteArray} (hr : s'.round = s.round) (hl : s'.log = s.log)
    (hg : ∀ k, F k → k ≠ q.gb ∧ k ≠ q.gl ∧ (∀ i, i < 3 → k ≠ q.nb i) ∧ ∀ i, i < 3 → (q.lv i).ownBlock ≠ some k)
    (hA : ∀ i, i < 3 → Acc w' X' (q.ab i) (s'.p i) (vt (s'.V i))) (hG : GV w' q.gb q.mb q.cb n' n' n' I' f') (hx : ∀ k, QF q I' k → X' k) (hxl : ∀ k, X' k → k < w'.heap.size) (hc : ∃ col, QCol col q I') : IsQ w' q X' I' f' n' s' := by
  have kg := hm.block q.gb (h.lt _ (.inl rfl)) fun e => (hg _ e).1 rfl
  have kl := hm.block q.gl (h.lt _ (.inr (.inl rfl))) fun e => (hg _ e).2.1 rfl
  have kn : ∀ i, i < 3 → w'.heap[q.nb i]? = w.heap[q.nb i]? := fun i hi => hm.block _ (h.lt _ (.inr (.inr (.inl ⟨i, hi, rfl⟩)))) fun e => (hg _ e).2.2.1 i hi rfl
  have kc : ∀ i, i < 3 → ∀ o v, w.cell? ⟨q.nb i, o, none⟩ = some v → w'.cell? ⟨q.nb i, o, none⟩ = some v := fun i hi o v h => (World.cell?_of_block (a := ⟨q.nb i, o, none⟩) (kn i hi)).trans h
  exact ⟨(World.cell?_of_block (a := ⟨q.gb, 0, none⟩) kg).trans h.c0, fun i hi => (World.cell?_of_block (a := ⟨q.gl, i, none⟩) kl).trans (h.row i hi), fun i hi => kc i hi _ _ (h.n0 i hi), fun i hi => kc i hi _ _ (h.n1 i hi), fun i hi => kc i hi _ _ (h.n2 i hi), fun i hi => by rw [hr]; exact kc i hi _ _ (h.n3 i hi), fun i hi o => (World.frozen?_of_block (a := ⟨q.nb i, o, none⟩) (kn i hi)).trans (h.fro i hi o), hA,
    fun i hi => by rw [hl]; exact ownsRow_keep (h.log i hi) fun k hk => hm.block k (h.lt _ (.inr (.inr (.inr (.inr (.inl ⟨i, hi, hk⟩)))))) (fun e => (hg _ e).2.2.2 i hi hk), hG, hx, hxl, hc⟩
theorem IsQ.below (h : IsQ w q X I f n s) (hb : Below w.heap.size w w') : IsQ w' q X I f n s :=
  h.change (F := fun _ => False) (Moves.of_below hb) rfl rfl (fun _ e => e.elim) (fun i hi => (h.acc i hi).below hb) (h.gv.below hb) h.xs (fun k hk => Nat.lt_of_lt_of_le (h.xl k hk) hb.size) h.col
/-- More blocks are barred to votes. -/
theorem IsQ.more (h : IsQ w q X I f n s) {Y : Nat → Prop} (h1 : ∀ k, k < w.heap.size → Y k → X k) (hY : ∀ k, QF q I k → Y k) (hl : ∀ k, Y k → k < w.heap.size) : IsQ w q Y I f n s :=
  ⟨h.c0, h.row, h.n0, h.n1, h.n2, h.n3, h.fro, fun i hi => (h.acc i hi).also h1, h.log, h.gv, hY, hl, h.col⟩
/-- Blocks of another's own turn. -/
theorem IsQ.moves (h : IsQ w q X I f n s) {F : Nat → Prop} (hm : Moves F w w') (hX : ∀ k, F k → X k) (hF : ∀ k, F k → ¬ QF q I k) : IsQ w' q X I f n s :=
  h.change hm rfl rfl (fun k hk => ⟨fun e => hF k hk (.inl e), fun e => hF k hk (.inr (.inl e)), fun i hi e => hF k hk (.inr (.inr (.inl ⟨i, hi, e⟩))), fun i hi e => hF k hk (.inr (.inr (.inr (.inr (.inl ⟨i, hi, e⟩)))))⟩)
    (fun i hi => (h.acc i hi).movesX hm hX fun e => hF _ e (.inr (.inr (.inr (.inl ⟨i, hi, rfl⟩)))))
    (h.gv.keep hm.size fun k hk => hm.block k (by obtain ⟨l1, l2, l3⟩ := h.gv.lt; rcases hk with rfl | rfl | rfl | hk; exact l1; exact l2; exact l3; exact (h.gv.ni k hk).2.2.2) fun e => hF k e (by rcases hk with rfl | rfl | rfl | hk; exact .inl rfl; exact .inr (.inr (.inr (.inr (.inr (.inl rfl))))); exact .inr (.inr (.inr (.inr (.inr (.inr (.inl rfl)))))); exact .inr (.inr (.inr (.inr (.inr (.inr (.inr hk)))))))) h.xs (fun k hk => Nat.lt_of_lt_of_le (h.xl k hk) hm.size) h.col
/-- An acceptor has turned. -/
theorem IsQ.accs (h : IsQ w q X I f n s) {i : Nat} (hi : i < 3) {p : Int} {V : Nat → Option (Int × ByteArray)} (hA : Acc w' X (q.ab i) p (vt V)) (hm : Moves (fun k => k = q.ab i) w w') : IsQ w' q X I f n { s with p := fun j => if j = i then p else s.p j, V := fun j => if j = i then V else s.V j } := by
  obtain ⟨col, hc⟩ := h.col
  have hne : ∀ k, k = q.ab i → col k = 20 + i := fun k e => by rw [e]; exact hc.a i hi
  refine h.change hm rfl rfl (fun k hk => ⟨fun e => ?_, fun e => ?_, fun j hj e => ?_, fun j hj e => ?_⟩) (fun j hj => ?_) (h.gv.keep hm.size fun k hk => hm.block k (by obtain ⟨l1, l2, l3⟩ := h.gv.lt; rcases hk with rfl | rfl | rfl | hk; exact l1; exact l2; exact l3; exact (h.gv.ni k hk).2.2.2) fun e => ?_) h.xs (fun k hk => Nat.lt_of_lt_of_le (h.xl k hk) hm.size) h.col
  · have h1 := hne k hk; rw [e, hc.g] at h1; omega
  · have h1 := hne k hk; rw [e, hc.l] at h1; omega
  · have h1 := hne k hk; rw [e, hc.n j hj] at h1; omega
  · have h1 := hne k hk; rw [hc.v j k hj e] at h1; omega
  · by_cases e : j = i
    · subst e
      show Acc w' X (q.ab j) (if j = j then p else s.p j) (vt (if j = j then V else s.V j))
      rw [if_pos rfl, if_pos rfl]
      exact hA
    · show Acc w' X (q.ab j) (if j = i then p else s.p j) (vt (if j = i then V else s.V j))
      rw [if_neg e, if_neg e]
      exact (h.acc j hj).movesX hm (fun k hk => h.xs k (.inr (.inr (.inr (.inl ⟨i, hi, hk⟩))))) fun e2 => by
        have h1 := hne _ e2
        rw [hc.a j hj] at h1
        omega
  · have h1 := hne k e
    rcases hk with e2 | e2 | e2 | e2
    · rw [e2, hc.g] at h1; omega
    · rw [e2, hc.m] at h1; omega
    · rw [e2, hc.c] at h1; omega
    · rw [hc.i k e2] at h1; omega
/-- A vote is told in the maps. -/
theorem IsQ.voted (h : IsQ w q X I f n s) {I' : Nat → Prop} {f' : Lit → Option Value} (hG : GV w' q.gb q.mb q.cb (n + 1) (n + 1) (n + 1) I' f') (hm : Moves (votedF q.mb q.cb I) w w') (hI : ∀ k, I' k → I k ∨ w.heap.size ≤ k) : IsQ w' q (fun k => X k ∨ I' k) I' f' (n + 1) s := by
  obtain ⟨col, hc⟩ := h.col
  have hX : ∀ k, votedF q.mb q.cb I k → X k := fun k hk => h.xs k (by rcases hk with hk | hk | hk; exact .inr (.inr (.inr (.inr (.inr (.inl hk))))); exact .inr (.inr (.inr (.inr (.inr (.inr (.inl hk)))))); exact .inr (.inr (.inr (.inr (.inr (.inr (.inr hk)))))))
  have h2 : ∀ k, votedF q.mb q.cb I k → col k = 2 := fun k hk => by rcases hk with rfl | rfl | hk; exact hc.m; exact hc.c; exact hc.i k hk
  refine h.change hm rfl rfl (fun k hk => ⟨fun e => ?_, fun e => ?_, fun j hj e => ?_, fun j hj e => ?_⟩) (fun i hi => ?_) hG (fun k hk => ?_) (fun k hk => ?_) ⟨fun k => if w.heap.size ≤ k then 2 else col k, ?_⟩
  · have h1 := h2 k hk; rw [e, hc.g] at h1; omega
  · have h1 := h2 k hk; rw [e, hc.l] at h1; omega
  · have h1 := h2 k hk; rw [e, hc.n j hj] at h1; omega
  · have h1 := h2 k hk; rw [hc.v j k hj e] at h1; omega
  · have h1 := (h.acc i hi).movesX hm hX fun e => by
      have h3 := h2 _ e
      rw [hc.a i hi] at h3; omega
    obtain ⟨B, g1, g2⟩ := h.acc i hi
    refine ⟨B, g1.keep (hm.block _ g1.lt fun e => ?_) fun j x hx => hm.block _ (g1.vs j x hx).lt fun e => g2 j x hx (hX _ e), fun j x hx hk => ?_⟩
    · have h3 := h2 _ e
      rw [hc.a i hi] at h3; omega
    · rcases hk with hk | hk
      · exact g2 j x hx hk
      · rcases hI _ hk with h4 | h4
        · exact g2 j x hx (h.xs _ (.inr (.inr (.inr (.inr (.inr (.inr (.inr h4))))))))
        · have := (g1.vs j x hx).lt; omega
  · rcases hk with hk | hk | hk | hk | hk | hk | hk | hk
    · exact .inl (h.xs k (.inl hk))
    · exact .inl (h.xs k (.inr (.inl hk)))
    · exact .inl (h.xs k (.inr (.inr (.inl hk))))
    · exact .inl (h.xs k (.inr (.inr (.inr (.inl hk)))))
    · exact .inl (h.xs k (.inr (.inr (.inr (.inr (.inl hk))))))
    · exact .inl (h.xs k (.inr (.inr (.inr (.inr (.inr (.inl hk)))))))
    · exact .inl (h.xs k (.inr (.inr (.inr (.inr (.inr (.inr (.inl hk))))))))
    · exact .inr hk
  · rcases hk with hk | hk
    · exact Nat.lt_of_lt_of_le (h.xl k hk) hm.size
    · exact (hG.ni k hk).2.2.2
  · have hlt := h.lt
    have hold : ∀ k, QF q I k → (if w.heap.size ≤ k then 2 else col k) = col k := fun k hk => if_neg (by have := hlt k hk; omega)
    refine ⟨(hold _ (.inl rfl)).trans hc.g, (hold _ (.inr (.inl rfl))).trans hc.l, (hold _ (.inr (.inr (.inr (.inr (.inr (.inl rfl))))))).trans hc.m, (hold _ (.inr (.inr (.inr (.inr (.inr (.inr (.inl rfl)))))))).trans hc.c, fun k hk => ?_, fun i hi => (hold _ (.inr (.inr (.inl ⟨i, hi, rfl⟩)))).trans (hc.n i hi), fun i hi => (hold _ (.inr (.inr (.inr (.inl ⟨i, hi, rfl⟩))))).trans (hc.a i hi), fun i k hi hk => (hold _ (.inr (.inr (.inr (.inr (.inl ⟨i, hi, hk⟩)))))).trans (hc.v i k hi hk)⟩
    rcases hI k hk with h4 | h4
    · exact (hold k (.inr (.inr (.inr (.inr (.inr (.inr (.inr h4)))))))).trans (hc.i k h4)
    · exact if_pos h4
/-- A node's round is told. -/
theorem IsQ.turn (h : IsQ w q X I f n s) {i : Nat} (hi : i < 3) (r : Nat) : IsQ (w.setCell ⟨q.nb i, 3, none⟩ (.int .i64 (r : Int))) q X I f n (s.turn i r) := by
  obtain ⟨col, hc⟩ := h.col
  have hk : ∀ k, col k ≠ 10 + i → (w.setCell ⟨q.nb i, 3, none⟩ (.int .i64 (r : Int))).heap[k]? = w.heap[k]? := fun k hne => Below.heap_setCell _ _ _ _ (fun e => hne (by rw [e]; exact hc.n i hi))
  have hm : Moves (fun k => k = q.nb i) w (w.setCell ⟨q.nb i, 3, none⟩ (.int .i64 (r : Int))) := (Moves.refl _ w).setCell ⟨q.nb i, 3, none⟩ _ (.inl rfl)
  have kc : ∀ j, j < 3 → ∀ o v, o ≠ 3 → w.cell? ⟨q.nb j, o, none⟩ = some v → (w.setCell ⟨q.nb i, 3, none⟩ (.int .i64 (r : Int))).cell? ⟨q.nb j, o, none⟩ = some v := fun j hj o v ho hv => by
    by_cases e : q.nb j = q.nb i
    · rw [e] at hv ⊢; rw [oth_cell _ _ _ ho]; exact hv
    · rw [oth_blk _ _ _ _ e]; exact hv
  refine ⟨(World.cell?_of_block (a := ⟨q.gb, 0, none⟩) (hk q.gb (by rw [hc.g]; omega))).trans h.c0, fun j hj => (World.cell?_of_block (a := ⟨q.gl, j, none⟩) (hk q.gl (by rw [hc.l]; omega))).trans (h.row j hj), fun j hj => kc j hj 0 _ (by omega) (h.n0 j hj), fun j hj => kc j hj 1 _ (by omega) (h.n1 j hj), fun j hj => kc j hj 2 _ (by omega) (h.n2 j hj), fun j hj => ?_, fun j hj o => by rw [World.frozen?_setCell]; exact h.fro j hj o, fun j hj => ?_, fun j hj => ?_, h.gv.keep hm.size fun k hk' => hk k ?_, h.xs, fun k hk' => Nat.lt_of_lt_of_le (h.xl k hk') hm.size, h.col⟩
  · show (w.setCell ⟨q.nb i, 3, none⟩ (.int .i64 (r : Int))).cell? ⟨q.nb j, 3, none⟩ = some (.int .i64 ((if j = i then r else s.round j : Nat) : Int))
    by_cases e : j = i
    · subst e; rw [if_pos rfl]; exact World.cell?_setCell_same _ _ _ (h.n3 j hj)
    · rw [if_neg e, oth_blk _ _ _ _ (fun e2 => by have h1 := hc.n j hj; rw [e2, hc.n i hi] at h1; omega)]
      exact h.n3 j hj
  · exact (h.acc j hj).movesX hm (fun k hk => h.xs k (.inr (.inr (.inl ⟨i, hi, hk⟩)))) fun e => by have h1 := hc.a j hj; rw [e, hc.n i hi] at h1; omega
  · exact ownsRow_keep (h.log j hj) fun k hk' => hk k (by rw [hc.v j k hj hk']; omega)
  · rcases hk' with e2 | e2 | e2 | e2
    · rw [e2, hc.g]; omega
    · rw [e2, hc.m]; omega
    · rw [e2, hc.c]; omega
    · rw [hc.i k e2]; omega
set_option maxRecDepth 100000 in
theorem promised_any {b : Nat} {p : Int} {V : Nat → Option Vt} (h : Acc w X b p V) : Calls Tryd.prog 46 #[.pointer (some ⟨b, 0, none⟩)] w fun e w' => e = .returned (.int .i64 p) ∧ w = w' := by
  obtain ⟨B, ha, -⟩ := h
  have c0 := ha.c0
  clear ha
  go_enter Tryd.func46, Tryd.ntmps46
  go_wp2_with fail
  go_ret
  exact ⟨rfl, rfl⟩
set_option maxRecDepth 100000 in
theorem qlog_any (h : IsQ w q X I f n s) {i : Nat} (hi : i < 3) (hl : (s.log i).length ≤ 1000) : Calls Tryd.prog 11 #[.pointer (some ⟨q.gb, 0, none⟩), .int .i64 (i : Int)] w fun e w' => ∃ v, e = .returned v ∧ w'.ownsRow w.heap.size 9 1 v (s.log i).length (srows (s.log i)) ∧ Below w.heap.size w w' := by
  have hh := qhas_any h.c0 (i : Int) (by omega) (by omega)
  have c0 := h.c0
  have r0 := h.row i hi
  have d2 := h.n2 i hi
  have hcl := sclone_any (h.log i hi) (by omega)
  have i3 : (i : Int) < 3 := by omega
  obtain ⟨va, vc, hlv⟩ := row_lens (h.log i hi)
  rw [hlv] at d2 hcl
  clear h hlv
  go_enter Tryd.func11, Tryd.ntmps11
  go_wp2_with (first
    | (go_at_call 22; refine hh.mono ?_; clear hh; rintro e w1 ⟨rfl, rfl⟩)
    | (go_at_call 35
       refine hcl.mono ?_
       clear hcl
       rintro e w2 ⟨v, rfl, hr, hb⟩
       have HR := Lib.hid hr
       have HB := Lib.hid hb
       clear hr hb))
  go_ret
  exact ⟨_, rfl, HR.out, HB.out⟩
end
end Go.Proofs.YtfjfkmoofmncnaaDoor
/- quorum: ask, over any two closures. -/
namespace Go.Proofs.YtfjfkmoofmncnaaDoor
open Go.RowKit
/-- What ask reads of a group. -/
structure QV (w : World) (q : QP) : Prop where
  c0 : w.cell? ⟨q.gb, 0, none⟩ = some (.slice (some ⟨q.gl, 0, none⟩) 3 q.gc)
  row : ∀ i, i < 3 → w.cell? ⟨q.gl, i, none⟩ = some (.pointer (some ⟨q.nb i, 0, none⟩))
  n0 : ∀ i, i < 3 → w.cell? ⟨q.nb i, 0, none⟩ = some (.bool true)
  n1 : ∀ i, i < 3 → w.cell? ⟨q.nb i, 1, none⟩ = some (.pointer (some ⟨q.ab i, 0, none⟩))
theorem QV.below {w w' : World} {q : QP} (h : QV w q) (hb : Below w.heap.size w w') : QV w' q :=
  have k : ∀ a v, w.cell? a = some v → w'.cell? a = some v := fun _ _ h => (World.cell?_of_block (hb.block _ (World.block_lt_of_cell? _ _ h))).trans h
  ⟨k _ _ h.c0, fun i hi => k _ _ (h.row i hi), fun i hi => k _ _ (h.n0 i hi), fun i hi => k _ _ (h.n1 i hi)⟩
/-- What a round of asking lays down of its two functions: J ahead of node i, K behind its asking, L behind me's round. -/
structure AskC (q : QP) (who : Nat) (F : Nat → Prop) (wa wh : FuncId) (la lh : Array Value) (J : Nat → Nat → World → Prop) (K L : Nat → Nat → Int → World → Prop) : Prop where
  view : ∀ i m W, J i m W → QV W q
  jb : ∀ i m W W', J i m W → Below W.heap.size W W' → J i m W'
  kb : ∀ i m c W W', K i m c W → Below W.heap.size W W' → K i m c W'
  ask : ∀ i m W, i < 3 → J i m W → Calls Tryd.prog wa (#[.int .i64 (i : Int), .pointer (some ⟨q.ab i, 0, none⟩)] ++ la) W fun e w' => ∃ c, e = .returned (.int .i64 c) ∧ K i m c w' ∧ Moves F W w'
  own : ∀ i m c W, i < 3 → K i m c W → QV W q ∧ (∃ X p V, Acc W X (q.ab i) p V ∧ 1 ≤ p ∧ p ≤ 1000) ∧ (∃ rd : Nat, W.cell? ⟨q.nb who, 3, none⟩ = some (.int .i64 (rd : Int))) ∧ W.frozen? ⟨q.nb who, 3, none⟩ = false
  skip : ∀ i m W, i < 3 → J i m W → J (i + 1) m W
  lost : ∀ i m c W, i < 3 → K i m c W → J (i + 1) m W
  turn : ∀ i m c W X p V (rd : Nat), i < 3 → K i m c W → W.cell? ⟨q.nb who, 3, none⟩ = some (.int .i64 (rd : Int)) → Acc W X (q.ab i) p V → L i m c (W.setCell ⟨q.nb who, 3, none⟩ (.int .i64 ((max rd ((p - 1) / 8).toNat : Nat) : Int)))
  bad : ∀ i m c W, i < 3 → L i m c W → c ≠ 0 → J (i + 1) m W
  hear : ∀ i m W, i < 3 → L i m 0 W → Calls Tryd.prog wh (#[.int .i64 (i : Int)] ++ lh) W fun e w' => e = .returned (.tuple #[]) ∧ J (i + 1) (m + 1) w' ∧ Moves F W w'
section
variable {w : World} {q : QP} {who : Nat} {F : Nat → Prop} {wa wh : FuncId} {la lh : Array Value} {J : Nat → Nat → World → Prop} {K L : Nat → Nat → Int → World → Prop}
set_option maxRecDepth 100000 in
set_option maxHeartbeats 8000000 in
theorem ask_any (hC : AskC q who F wa wh la lh J K L) (hJ : ∀ w1, Below w.heap.size w w1 → w.heap.size < w1.heap.size → J 0 0 w1) (hF : ¬ F w.heap.size) (hn : q.nb who < w.heap.size) (loss : Int) (ea : ∀ args w, (callFunc wa args).run Tryd.prog w = .ok (.enter wa args) w) (eh : ∀ args w, (callFunc wh args).run Tryd.prog w = .ok (.enter wh args) w) :
    Calls Tryd.prog 25 #[.pointer (some ⟨q.gb, 0, none⟩), .pointer (some ⟨q.nb who, 0, none⟩), .agg #[.func (.func wa) #[] la, .func (.func wh) #[] lh, .int .u64 loss]] w fun e w' => ∃ m : Nat, e = .returned (.int .i64 (m : Int)) ∧ m ≤ 3 ∧ J 3 m w' := by
  have hbA : Below w.heap.size w (w.alloc (.cells #[.func (.func wa) #[] la, .func (.func wh) #[] lh, .int .u64 loss] 98)) := (Below.refl _ _).alloc (Nat.le_refl _) _
  obtain ⟨w1, hw1⟩ : ∃ w1, w1 = w.alloc (.cells #[.func (.func wa) #[] la, .func (.func wh) #[] lh, .int .u64 loss] 98) := ⟨_, rfl⟩
  have hr : ∀ (o : Nat) v, #[.func (.func wa) #[] la, .func (.func wh) #[] lh, .int .u64 loss][o]? = some v → w1.cell? ⟨w.heap.size, o, none⟩ = some v := fun o v h => by rw [hw1]; exact (World.cell?_alloc_new _ _ _ o).trans h
  rw [← hw1] at hbA
  have r0 := hr 0 _ rfl
  have r1 := hr 1 _ rfl
  have r2 := hr 2 _ rfl
  have hrl := World.block_lt_of_cell? _ _ r0
  have HJ := Lib.hid (hJ w1 hbA hrl)
  have HR := Lib.hid (And.intro r0 (And.intro r1 r2))
  have HW := Lib.hid hw1
  have HC := Lib.hid hC
  have c0 := (hC.view _ _ _ HJ.out).c0
  clear hJ hr hw1 hC hbA r0 r1 r2
  go_enter Tryd.func25, Tryd.ntmps25
  go_upto_region 2 with (fail)
  rw [← HW.out]
  go_wp2_with fail
  clear c0
  go_loopw [7, 19] (fun a c wr => ∃ m i : Nat, a = .int .i64 (m : Int) ∧ c = .int .i64 (i : Int) ∧ i ≤ 3 ∧ m ≤ i ∧ J i m wr ∧ w.heap.size < wr.heap.size ∧ wr.heap[w.heap.size]? = w1.heap[w.heap.size]?) (fun _ c _ => 3 - (intOf c).toNat)
  case atStart => exact ⟨0, 0, rfl, rfl, by omega, by omega, HJ.out, hrl, rfl⟩
  case round =>
    obtain ⟨m, i, rfl, rfl, hi, hm, hj, hlt, hk⟩ := hrel
    clear HJ
    rcases (by omega : i = 3 ∨ i < 3) with h3 | h3
    · subst h3
      go_wp2_with fail
      go_ret
      exact ⟨m, rfl, hm, hj⟩
    · have e1 : decide ((i : Int) < 3) = true := by simp; omega
      have hvw := HC.out.view _ _ _ hj
      have cr := hvw.row i h3
      have cn := hvw.n0 i h3
      have r2 : wr.cell? ⟨w.heap.size, 2, none⟩ = some (.int .u64 loss) := (World.cell?_of_block (a := ⟨w.heap.size, 2, none⟩) hk).trans HR.out.2.2
      have HVW := Lib.hid hvw
      have HJ := Lib.hid hj
      clear hvw hj
      go_upto_region 6 with (fail)
      generalize loss / 2 ^ (4 * i) = bits
      go_upto_region 7 with (fail)
      · exact ⟨⟨m, i + 1, rfl, by go_num, by omega, by omega, HC.out.skip _ _ _ h3 HJ.out, hlt, hk⟩, by simp [intOf]; omega⟩
      clear cr cn r2
      have n1 := HVW.out.n1 i h3
      have r0 : wr.cell? ⟨w.heap.size, 0, none⟩ = some (.func (.func wa) #[] la) := (World.cell?_of_block (a := ⟨w.heap.size, 0, none⟩) hk).trans HR.out.1
      have hcall := HC.out.ask i m wr.drew h3 (HC.out.jb _ _ _ _ HJ.out (Below.refl wr.heap.size wr).drew)
      refine wp_region_still_tail 7 (by kernel_rfl) (by kernel_rfl) ?_
      simp only [List.take_succ_cons, List.take_zero, List.drop_succ_cons, List.drop_zero]
      iterate 7 still_step
      refine wpStill_nil ?_
      clear n1 r0
      go_upto_region 8 with (go_at_fn wa; refine hcall.mono ?_; clear hcall; rintro e w2 ⟨c, rfl, hK, hM⟩)
      have HK := Lib.hid hK
      have hk2 : w2.heap[w.heap.size]? = w1.heap[w.heap.size]? := (hM.block w.heap.size (show w.heap.size < wr.heap.size from hlt) hF).trans hk
      have hlt2 : w.heap.size < w2.heap.size := Nat.lt_of_lt_of_le hlt hM.size
      clear hK hM hk hlt HJ HVW
      go_upto_region 9 with (fail)
      · exact ⟨⟨m, i + 1, rfl, by go_num, by omega, by omega, HC.out.lost _ _ _ _ h3 HK.out, hlt2, hk2⟩, by simp [intOf]; omega⟩
      obtain ⟨hv2, ⟨X, p, V, hA, hp1, hp2⟩, ⟨rd, hrd⟩, hfr⟩ := HC.out.own i m c w2 h3 HK.out
      have n1 := hv2.n1 i h3
      have hpr := promised_any hA
      have how := owner_any (w := w2) p hp1 (by omega)
      have HT := Lib.hid (HC.out.turn i m c w2 X p V rd h3 HK.out hrd hA)
      have hq0 : (p - 1) / 8 = (((p - 1) / 8).toNat : Int) := by omega
      generalize ((p - 1) / 8).toNat = its at HT hq0
      rw [hq0] at how
      clear hv2 hA hp2 hq0
      go_upto_region 10 with (first
        | (go_at_call 46
           refine hpr.mono ?_
           clear hpr
           rintro e w3 ⟨rfl, rfl⟩)
        | (go_at_call 45
           refine how.mono ?_
           clear how
           rintro e w3 ⟨rfl, rfl⟩))
      go_upto_region 11 with (fail)
      have hmx : (Value.int .i64 (if rd < its then (its : Int) else (rd : Int))) = .int .i64 ((max rd its : Nat) : Int) := by
        by_cases h : rd < its
        · rw [if_pos h, Nat.max_eq_right (by omega)]
        · rw [if_neg h, Nat.max_eq_left (by omega)]
      rw [hmx]
      have hk4 : (w2.setCell ⟨q.nb who, 3, none⟩ (.int .i64 ((max rd its : Nat) : Int))).heap[w.heap.size]? = w1.heap[w.heap.size]? := (Below.heap_setCell _ _ _ _ (by show w.heap.size ≠ q.nb who; omega)).trans hk2
      have hlt4 : w.heap.size < (w2.setCell ⟨q.nb who, 3, none⟩ (.int .i64 ((max rd its : Nat) : Int))).heap.size := by simpa using hlt2
      clear hmx hrd hfr n1 HK hk2 hlt2
      generalize w2.setCell ⟨q.nb who, 3, none⟩ (.int .i64 ((max rd its : Nat) : Int)) = w4 at HT hk4 hlt4 ⊢
      by_cases hc0 : c = 0
      · subst hc0
        have r1 : w4.cell? ⟨w.heap.size, 1, none⟩ = some (.func (.func wh) #[] lh) := (World.cell?_of_block (a := ⟨w.heap.size, 1, none⟩) hk4).trans HR.out.2.1
        have hcall := HC.out.hear i m w4 h3 HT.out
        go_wp2_with (go_at_fn wh; refine hcall.mono ?_; clear hcall; rintro e w5 ⟨rfl, hJ5, hM5⟩)
        exact ⟨⟨m + 1, i + 1, by go_num, by go_num, by omega, by omega, hJ5, Nat.lt_of_lt_of_le hlt4 hM5.size, (hM5.block w.heap.size hlt4 hF).trans hk4⟩, by simp [intOf]; omega⟩
      · have e2 : (c == 0) = false := beq_eq_false_iff_ne.2 hc0
        go_wp2_with fail
        exact ⟨⟨m, i + 1, rfl, by go_num, by omega, by omega, HC.out.bad _ _ _ _ h3 HT.out hc0, hlt4, hk4⟩, by simp [intOf]; omega⟩
end
end Go.Proofs.YtfjfkmoofmncnaaDoor
/- quorum: what Propose asks and hears: its five functions. -/
namespace Go.Proofs.YtfjfkmoofmncnaaDoor
open Go.RowKit
theorem Tryd.infoVotes : (Tryd.prog.info? 90).map (fun i => (i.zero, i.size, i.bytes)) = some (some (.slice none 0 0), 1, 24) := by kernel_rfl
section
variable {w w' : World} {q : QP} {X I : Nat → Prop} {f : Lit → Option Value} {n : Nat} {s : PX ByteArray}
set_option maxRecDepth 100000 in
theorem round_any {mb nb rd : Nat} (u : FrameMode) (h : w.cell? ⟨mb, 0, none⟩ = some (.pointer (some ⟨nb, 0, none⟩))) (hr : w.cell? ⟨nb, 3, none⟩ = some (.int .i64 (rd : Int))) (hf : w.frozen? ⟨nb, 3, none⟩ = false) (hl : rd < 100000) :
    CallsD Tryd.prog 24 #[.pointer (some ⟨mb, 0, none⟩)] u w fun e u' w' => u' = u ∧ (e = .returned (.tuple #[]) ∧ w' = w.setCell ⟨nb, 3, none⟩ (.int .i64 ((rd + 1 : Nat) : Int))) := by
  go_enter_d Tryd.func24, Tryd.ntmps24
  go_wp2_with fail
  go_end0
  exact ⟨rfl, rfl⟩
set_option maxRecDepth 100000 in
theorem skip_any (i : Int) : Calls Tryd.prog 34 #[.int .i64 i] w fun e w' => e = .returned (.tuple #[]) ∧ w = w' := by
  go_enter Tryd.func34, Tryd.ntmps34
  go_wp2_with fail
  go_end0
  exact ⟨rfl, rfl⟩
set_option maxRecDepth 100000 in
theorem prep1_ok {ab bb sb tb : Nat} {p : Int} {V : Nat → Option Vt} (h : Acc w X ab p V) (hX : X ab) (hXt : X tb) (hne : tb ≠ ab) (i : Int) {b : Int} {slot : Nat} {tv : Value} (hb : w.cell? ⟨bb, 0, none⟩ = some (.int .i64 b)) (hs : w.cell? ⟨sb, 0, none⟩ = some (.int .i64 (slot : Int))) (ht : w.cell? ⟨tb, 0, none⟩ = some tv) (hf : w.frozen? ⟨tb, 0, none⟩ = false) (h1 : 1 ≤ b) (h2 : b ≤ 1000) (hp : p ≤ b) :
    Calls Tryd.prog 26 #[.int .i64 i, .pointer (some ⟨ab, 0, none⟩), .pointer (some ⟨bb, 0, none⟩), .pointer (some ⟨sb, 0, none⟩), .pointer (some ⟨tb, 0, none⟩)] w fun e w' => e = .returned (.int .i64 0) ∧ Acc w' X ab b V ∧ Moves (fun k => k = ab ∨ k = tb) w w' ∧ ∃ v, w'.cell? ⟨tb, 0, none⟩ = some v ∧ w'.frozen? ⟨tb, 0, none⟩ = false ∧ w'.ownsRow w.heap.size 100 3 v (votesTo V slot 4096).length (vrows (votesTo V slot 4096)) := by
  have hpr := prep_ok h hX b h1 (by omega) hp (slot : Int)
  have hm1 := fun (v : Value) => (Moves.refl (fun k => k = tb) w).setCell ⟨tb, 0, none⟩ v (.inl rfl)
  have htl := World.block_lt_of_cell? _ _ ht
  clear h
  generalize votesTo V slot 4096 = LL at hpr ⊢
  go_enter Tryd.func26, Tryd.ntmps26
  go_wp2_with (go_at_call 27; refine hpr.mono ?_; clear hpr; rintro e w1 ⟨v, rfl, hr, hA, hm⟩; have ht1 := (hm.cell (p := ⟨tb, 0, none⟩) htl hne).trans ht; have hf1 := (hm.frozen (p := ⟨tb, 0, none⟩) htl hne).trans hf; clear ht hf; obtain ⟨va, vc, rfl⟩ := row_lens hr)
  go_ret
  have hm2 : Moves (fun k => k = tb) w1 (w1.setCell ⟨tb, 0, none⟩ (.slice va LL.length vc)) := (Moves.refl _ _).setCell ⟨tb, 0, none⟩ _ (.inl rfl)
  refine ⟨rfl, hA.movesX hm2 (fun k hk => hk ▸ hXt) (fun e => hne e.symm), (hm.mono fun k _ hk => .inl hk).trans hm2 fun k hk => .inl (.inr hk), _, World.cell?_setCell_same _ _ _ ht1, by rw [World.frozen?_setCell]; exact hf1, ownsRow_keep hr fun k hk => Below.heap_setCell _ _ _ _ (fun (e : k = tb) => by have := (hr.lt k hk).1; omega)⟩
set_option maxRecDepth 100000 in
theorem prep1_old {ab bb sb tb : Nat} {p : Int} {V : Nat → Option Vt} (h : Acc w X ab p V) (i : Int) {b : Int} {slot : Nat} {tv : Value} (hb : w.cell? ⟨bb, 0, none⟩ = some (.int .i64 b)) (hs : w.cell? ⟨sb, 0, none⟩ = some (.int .i64 (slot : Int))) (ht : w.cell? ⟨tb, 0, none⟩ = some tv) (hf : w.frozen? ⟨tb, 0, none⟩ = false) (h1 : 1 ≤ b) (h2 : b ≤ 1000) (hp : b < p) :
    Calls Tryd.prog 26 #[.int .i64 i, .pointer (some ⟨ab, 0, none⟩), .pointer (some ⟨bb, 0, none⟩), .pointer (some ⟨sb, 0, none⟩), .pointer (some ⟨tb, 0, none⟩)] w fun e w' => e = .returned (.int .i64 5) ∧ w' = w.setCell ⟨tb, 0, none⟩ (.slice none 0 0) := by
  have hpr := prep_old h b h1 (by omega) hp (slot : Int)
  clear h
  go_enter Tryd.func26, Tryd.ntmps26
  go_wp2_with (go_at_call 27; refine hpr.mono ?_; clear hpr; rintro e w1 ⟨rfl, rfl⟩)
  go_ret
  exact ⟨rfl, rfl⟩
set_option maxRecDepth 100000 in
theorem hear_any {zb tb m : Nat} {sv tv : Value} {vals : List Value} {al : Option Addr} {tl tc : Nat} (hs : w.cell? ⟨zb, 0, none⟩ = some sv) (hf : w.frozen? ⟨zb, 0, none⟩ = false) (ht : w.cell? ⟨tb, 0, none⟩ = some tv) (htv : tv = .slice al tl tc) (hr : w.ownsRow 0 90 1 sv m vals) (hm : m ≤ 1000) (hz : sv.ownBlock ≠ some zb) (i : Int) :
    Calls Tryd.prog 28 #[.int .i64 i, .pointer (some ⟨zb, 0, none⟩), .pointer (some ⟨tb, 0, none⟩)] w fun e w' => e = .returned (.tuple #[]) ∧ ∃ sv', w'.cell? ⟨zb, 0, none⟩ = some sv' ∧ w'.frozen? ⟨zb, 0, none⟩ = false ∧ w'.ownsRow 0 90 1 sv' (m + 1) (vals ++ [tv]) ∧ Moves (fun k => k = zb ∨ sv.ownBlock = some k) w w' ∧ ∀ k, sv'.ownBlock = some k → sv.ownBlock = some k ∨ w.heap.size ≤ k := by
  subst htv
  obtain ⟨va, vc, rfl⟩ := row_lens hr
  obtain ⟨i0, hi0, hz0, hz1, hz2⟩ := info_parts Tryd.infoVotes
  have hrA := World.ownsRow.alloc hr (.cells #[.slice al tl tc] 90)
  have hcl : ∀ p u, [Value.slice al tl tc][p]? = some u → (w.alloc (.cells #[.slice al tl tc] 90)).cell? ((⟨w.heap.size, 0, none⟩ : Addr).add p) = some u := fun p u hp => by
    rw [Addr.add_mid, Nat.zero_add, World.cell?_alloc_new]
    simpa using hp
  have hzl := World.block_lt_of_cell? _ _ hs
  have HRA := Lib.hid hrA
  have HCL := Lib.hid hcl
  have HF := Lib.hid hf
  have HS := Lib.hid hs
  clear hr hrA hcl hf
  go_enter Tryd.func28, Tryd.ntmps28
  go_wp2_with (refine wpList_append_own_at _ rfl (.tmp 4) (.tmp 6) 91 rfl 0 90 i0 _ 1 24 Tryd.underlying91 hi0 hz0 hz1 hz2 rfl (by decide) _ m vals rfl HRA.out ⟨w.heap.size, 0, none⟩ 1 1 [.slice al tl tc] rfl rfl HCL.out (by simp [Value.oneCell']) (by unfold maxLen; omega) (by omega) (Nat.zero_le _) ?_)
  intro v' w1 hown hgrow _ hob
  have hz2 : some zb ≠ (Value.slice va m vc).ownBlock := fun e => hz e.symm
  have hs1 : w1.cell? ⟨zb, 0, none⟩ = some (.slice va m vc) := (hgrow.cell_far ⟨zb, 0, none⟩ (by simp; omega) hz2).trans ((World.cell?_of_block (a := ⟨zb, 0, none⟩) (Below.heap_alloc _ _ _ hzl)).trans HS.out)
  have hf1 : w1.frozen? ⟨zb, 0, none⟩ = false := (hgrow.frozen_far ⟨zb, 0, none⟩ (by simp; omega) hz2).trans ((World.frozen?_of_block (a := ⟨zb, 0, none⟩) (Below.heap_alloc _ _ _ hzl)).trans HF.out)
  have hM := (((Moves.refl (fun k => k = zb ∨ (Value.slice va m vc).ownBlock = some k) w).alloc (.cells #[.slice al tl tc] 90)).grown hgrow fun k hk => .inl (.inr hk)).setCell ⟨zb, 0, none⟩ v' (.inl (.inl rfl))
  have HM := Lib.hid hM
  have HO := Lib.hid hown
  have HOB := Lib.hid hob
  clear hM hown hob hgrow
  obtain ⟨va', vc', rfl⟩ := row_lens HO.out
  go_wp2_with fail
  go_end0
  have hne : ∀ k, (Value.slice va' (m + 1) vc').ownBlock = some k → k ≠ zb := fun k hk e => by
    rcases HOB.out with h | h
    · rw [h] at hk
      exact hz (e ▸ hk)
    · rw [h] at hk
      have := Option.some.inj hk
      omega
  refine ⟨rfl, _, World.cell?_setCell_same _ _ _ hs1, by rw [World.frozen?_setCell]; exact hf1, ownsRow_keep HO.out fun k hk => Below.heap_setCell _ _ _ _ (hne k hk), HM.out, fun k hk => ?_⟩
  rcases HOB.out with h | h
  · exact .inl (by rw [← h]; exact hk)
  · rw [h] at hk
    have := Option.some.inj hk
    exact .inr (by omega)
theorem vt_upd (V : Nat → Option (Int × ByteArray)) (slot : Nat) (b : Int) (x : ByteArray) : vt (fun k => if k = slot then some (b, x) else V k) = updV (vt V) slot ⟨b, x⟩ := by
  funext k
  show Option.map (fun y : Int × ByteArray => (⟨y.1, y.2⟩ : Vt)) (if k = slot then some (b, x) else V k) = if k = slot then some (⟨b, x⟩ : Vt) else Option.map (fun y : Int × ByteArray => (⟨y.1, y.2⟩ : Vt)) (V k)
  by_cases h : k = slot
  · rw [if_pos h, if_pos h]; rfl
  · rw [if_neg h, if_neg h]
/-- Node i has promised b; has voted. -/
def PX.vote1 (s : PX ByteArray) (i : Nat) (b : Int) (slot : Nat) (x : ByteArray) : PX ByteArray :=
  { s with p := fun j => if j = i then b else s.p j, V := fun j => if j = i then (fun k => if k = slot then some (b, x) else s.V i k) else s.V j }
set_option maxRecDepth 100000 in
set_option maxHeartbeats 4000000 in
theorem vote1_ok (h : IsQ w q X I f n s) {i : Nat} (hi : i < 3) (hn : n < 1000000) {sb bb xb gx slot : Nat} {b : Int} {t : ByteArray} (hs : w.cell? ⟨sb, 0, none⟩ = some (.int .i64 (slot : Int))) (hb : w.cell? ⟨bb, 0, none⟩ = some (.int .i64 b)) (hx : w.cell? ⟨xb, 0, none⟩ = some (.string t)) (hg : w.cell? ⟨gx, 0, none⟩ = some (.pointer (some ⟨q.gb, 0, none⟩)))
    (hgx : gx ≠ q.ab i) (h1 : 1 ≤ b) (h2 : b ≤ 1000) (hp : s.p i ≤ b) (hsl : slot < 4096) (ht : t.size ≤ 1024) :
    Calls Tryd.prog 31 #[.int .i64 (i : Int), .pointer (some ⟨q.ab i, 0, none⟩), .pointer (some ⟨sb, 0, none⟩), .pointer (some ⟨bb, 0, none⟩), .pointer (some ⟨xb, 0, none⟩), .pointer (some ⟨gx, 0, none⟩)] w fun e w' => e = .returned (.int .i64 0) ∧ ∃ X' I' f', IsQ w' q X' I' f' (n + 1) (s.vote1 i b slot t) ∧ (∀ k, I' k → I k ∨ w.heap.size ≤ k) ∧ (∀ k, X' k ↔ X k ∨ I' k) ∧ Moves (fun k => k = q.ab i ∨ votedF q.mb q.cb I k) w w' := by
  have hbA : Below w.heap.size w (w.alloc (.cells #[.int .i64 (slot : Int), .int .i64 b, .string t] 100)) := (Below.refl _ _).alloc (Nat.le_refl _) _
  obtain ⟨w1, hw1⟩ : ∃ w1, w1 = w.alloc (.cells #[.int .i64 (slot : Int), .int .i64 b, .string t] 100) := ⟨_, rfl⟩
  have hv1 : ∀ o : Nat, w1.cell? ⟨w.heap.size, o, none⟩ = #[.int .i64 (slot : Int), .int .i64 b, .string t][o]? := fun o => by rw [hw1]; exact World.cell?_alloc_new _ _ _ o
  have hsz : w1.heap.size = w.heap.size + 1 := by rw [hw1]; simp
  rw [← hw1] at hbA
  have h1A := h.below hbA
  have hacc := accept_ok (h1A.acc i hi) (h1A.xs _ (.inr (.inr (.inr (.inl ⟨i, hi, rfl⟩))))) h1A.xl slot hsl b h1 (by omega) hp t ht
  have x0 : w1.cell? ⟨w.heap.size, 0, none⟩ = some (.int .i64 (slot : Int)) := hv1 0
  have x1 : w1.cell? ⟨w.heap.size, 1, none⟩ = some (.int .i64 b) := hv1 1
  have x2 : w1.cell? ⟨w.heap.size, 2, none⟩ = some (.string t) := hv1 2
  have hgx1 : w1.cell? ⟨gx, 0, none⟩ = some (.pointer (some ⟨q.gb, 0, none⟩)) := (World.cell?_of_block (a := ⟨gx, 0, none⟩) (hbA.block gx (World.block_lt_of_cell? _ _ hg))).trans hg
  have hgl := World.block_lt_of_cell? _ _ hgx1
  have HB := Lib.hid hbA
  have HA := Lib.hid h1A
  have HW := Lib.hid hw1
  have hal := (h.acc i hi).lt
  clear hv1 hbA h1A hw1 h
  go_enter Tryd.func31, Tryd.ntmps31
  go_upto_region 2 with (fail)
  rw [← HW.out]
  clear HW
  go_wp2_with fail
  refine hacc.mono ?_
  clear hacc
  rintro e w2 ⟨rfl, hA2, hm2⟩
  have h2A := HA.out.accs hi (V := fun k => if k = slot then some (b, t) else s.V i k) ((vt_upd (s.V i) slot b t).symm ▸ hA2) hm2
  have H2 := Lib.hid h2A
  have HM2 := Lib.hid hm2
  have hu1 := hm2.block w.heap.size (by omega) (by omega)
  have hu2 := hm2.block gx hgl hgx
  have g2 := (World.cell?_of_block (a := ⟨gx, 0, none⟩) hu2).trans hgx1
  have y0 := (World.cell?_of_block (a := ⟨w.heap.size, 0, none⟩) hu1).trans x0
  have y1 := (World.cell?_of_block (a := ⟨w.heap.size, 1, none⟩) hu1).trans x1
  have y2 := (World.cell?_of_block (a := ⟨w.heap.size, 2, none⟩) hu1).trans x2
  have hvo := voted_any h2A.gv h2A.c0 hn (i : Int) (slot : Int) b t (WalkArith.wf_i64 (by omega)) (WalkArith.wf_i64 (by omega)) (WalkArith.wf_i64 (by omega))
  clear h2A hA2 hm2 hu1 hu2 x0 x1 x2 hgx1
  go_wp2_with (go_at_call 33; refine hvo.mono ?_; clear hvo; rintro e w3 ⟨rfl, hm3, I', f', hG3, hI3⟩)
  go_ret
  have hszw : w.heap.size ≤ w2.heap.size := Nat.le_trans HB.out.size HM2.out.size
  have hsz3 : w.heap.size + 1 ≤ w2.heap.size := by have := HM2.out.size; omega
  refine ⟨rfl, fun k => X k ∨ I' k, I', f', H2.out.voted hG3 hm3 hI3, fun k hk => (hI3 k hk).imp id fun h => by omega, fun k => Iff.rfl, ?_⟩
  refine ((Moves.of_below HB.out).trans HM2.out fun k hk => .inl (.inl hk)).trans hm3 fun k hk => .inl (.inr hk)
set_option maxRecDepth 100000 in
set_option maxHeartbeats 4000000 in
theorem vote1_old (h : IsQ w q X I f n s) {i : Nat} (hi : i < 3) {sb bb xb gx slot : Nat} {b : Int} {t : ByteArray} (hs : w.cell? ⟨sb, 0, none⟩ = some (.int .i64 (slot : Int))) (hb : w.cell? ⟨bb, 0, none⟩ = some (.int .i64 b)) (hx : w.cell? ⟨xb, 0, none⟩ = some (.string t))
    (h1 : 1 ≤ b) (h2 : b ≤ 1000) (hp : b < s.p i) (hsl : slot < 4096) (ht : t.size ≤ 1024) :
    Calls Tryd.prog 31 #[.int .i64 (i : Int), .pointer (some ⟨q.ab i, 0, none⟩), .pointer (some ⟨sb, 0, none⟩), .pointer (some ⟨bb, 0, none⟩), .pointer (some ⟨xb, 0, none⟩), .pointer (some ⟨gx, 0, none⟩)] w fun e w' => e = .returned (.int .i64 5) ∧ Below w.heap.size w w' := by
  have hbA : Below w.heap.size w (w.alloc (.cells #[.int .i64 (slot : Int), .int .i64 b, .string t] 100)) := (Below.refl _ _).alloc (Nat.le_refl _) _
  obtain ⟨w1, hw1⟩ : ∃ w1, w1 = w.alloc (.cells #[.int .i64 (slot : Int), .int .i64 b, .string t] 100) := ⟨_, rfl⟩
  have hv1 : ∀ o : Nat, w1.cell? ⟨w.heap.size, o, none⟩ = #[.int .i64 (slot : Int), .int .i64 b, .string t][o]? := fun o => by rw [hw1]; exact World.cell?_alloc_new _ _ _ o
  rw [← hw1] at hbA
  have hacc := accept_old (h.below hbA |>.acc i hi) slot hsl b h1 (by omega) hp t ht
  have x0 : w1.cell? ⟨w.heap.size, 0, none⟩ = some (.int .i64 (slot : Int)) := hv1 0
  have x1 : w1.cell? ⟨w.heap.size, 1, none⟩ = some (.int .i64 b) := hv1 1
  have x2 : w1.cell? ⟨w.heap.size, 2, none⟩ = some (.string t) := hv1 2
  have HB := Lib.hid hbA
  have HW := Lib.hid hw1
  have hsz := hbA.size
  clear hv1 hbA hw1 h
  go_enter Tryd.func31, Tryd.ntmps31
  go_upto_region 2 with (fail)
  rw [← HW.out]
  clear HW
  go_wp2_with (go_at_call 32; refine hacc.mono ?_; clear hacc; rintro e w2 ⟨rfl, hb2⟩)
  go_ret
  exact ⟨rfl, HB.out.trans (hb2.mono hsz)⟩
end
end Go.Proofs.YtfjfkmoofmncnaaDoor
/- quorum: the steps of a proposal as plain data; the best vote of those that were heard. -/
namespace Go.Proofs.YtfjfkmoofmncnaaDoor
section
variable {s : PX ByteArray} {k who rd : Nat} {G : ByteArray → Prop} {P A : Nat → Bool} {b : Int} {slot : Nat} {x : ByteArray}
theorem PX.turn_turn (s : PX ByteArray) (who a c : Nat) : (s.turn who a).turn who c = s.turn who c := by
  have : (fun i => if i = who then c else if i = who then a else s.round i) = fun i => if i = who then c else s.round i := by
    funext i
    by_cases h : i = who
    · rw [if_pos h, if_pos h]
    · rw [if_neg h, if_neg h, if_neg h]
  show PX.mk s.p s.V s.log (fun i => if i = who then c else if i = who then a else s.round i) = _
  rw [this]
  rfl
def upB (P : Nat → Bool) (i : Nat) : Nat → Bool := fun j => if j = i then true else P j
theorem upB_same (P : Nat → Bool) (i : Nat) : upB P i i = true := if_pos rfl
theorem upB_keep {j i : Nat} (h : P j = true) : upB P i j = true := by
  unfold upB
  split
  · rfl
  · exact h
theorem upB_of {j i : Nat} (h : upB P i j = true) : j = i ∨ P j = true := by
  unfold upB at h
  split at h
  · exact .inl (by assumption)
  · exact .inr h
theorem prep_up (s : PX ByteArray) (P : Nat → Bool) (b : Int) (who rd i : Nat) :
    ({ (s.prep P b).turn who rd with p := fun j => if j = i then b else (s.prep P b).p j, V := fun j => if j = i then s.V i else s.V j } : PX ByteArray) = (s.prep (upB P i) b).turn who rd := by
  have h1 : (fun j => if j = i then b else (s.prep P b).p j) = (s.prep (upB P i) b).p := by
    funext j
    show (if j = i then b else if P j = true then b else s.p j) = if (if j = i then true else P j) = true then b else s.p j
    by_cases h : j = i
    · rw [if_pos h, if_pos h, if_pos rfl]
    · rw [if_neg h, if_neg h]
  have h2 : (fun j => if j = i then s.V i else s.V j) = s.V := by
    funext j
    by_cases h : j = i
    · rw [if_pos h, h]
    · rw [if_neg h]
  rw [h1, h2]
  rfl
theorem acc_up (s : PX ByteArray) (A : Nat → Bool) (b : Int) (slot : Nat) (x : ByteArray) (who rd i : Nat) :
    ((s.acc A b slot x).turn who rd).vote1 i b slot x = (s.acc (upB A i) b slot x).turn who rd := by
  have h1 : (fun j => if j = i then b else (s.acc A b slot x).p j) = (s.acc (upB A i) b slot x).p := by
    funext j
    show (if j = i then b else if A j = true then b else s.p j) = if (if j = i then true else A j) = true then b else s.p j
    by_cases h : j = i
    · rw [if_pos h, if_pos h, if_pos rfl]
    · rw [if_neg h, if_neg h]
  have h2 : (fun j => if j = i then (fun k => if k = slot then some (b, x) else (s.acc A b slot x).V i k) else (s.acc A b slot x).V j) = (s.acc (upB A i) b slot x).V := by
    funext j k
    show (if j = i then (fun k => if k = slot then some (b, x) else if (A i && k == slot) = true then some (b, x) else s.V i k) else fun k => if (A j && k == slot) = true then some (b, x) else s.V j k) k = if (upB A i j && k == slot) = true then some (b, x) else s.V j k
    by_cases h : j = i
    · subst h
      rw [if_pos rfl, upB_same]
      by_cases hk : k = slot
      · simp [hk]
      · simp [hk]
    · rw [if_neg h]
      unfold upB
      rw [if_neg h]
  show PX.mk (fun j => if j = i then b else (s.acc A b slot x).p j) (fun j => if j = i then (fun k => if k = slot then some (b, x) else (s.acc A b slot x).V i k) else (s.acc A b slot x).V j) s.log _ = _
  rw [h1, h2]
  rfl
theorem maj_of {H : List Nat} (h : H.Nodup) (hl : 2 ≤ H.length) (h3 : ∀ j ∈ H, j < 3) : maj (fun j => j ∈ H) := by
  match H, h, hl, h3 with
  | a :: c :: r, h, _, h3 =>
    refine ⟨a, c, fun e => ?_, h3 a (by simp), h3 c (by simp), by simp, by simp⟩
    subst e
    simp at h
theorem bestOf_spec (slot : Int) (l : List Vote) : ∀ b : Vote, (∀ v ∈ l, v.slot = slot → v.bal ≤ (bestOf slot l b).bal) ∧ b.bal ≤ (bestOf slot l b).bal ∧ (bestOf slot l b = b ∨ (bestOf slot l b ∈ l ∧ (bestOf slot l b).slot = slot)) := by
  induction l with
  | nil => exact fun b => ⟨fun v hv => by simp at hv, Int.le_refl _, .inl rfl⟩
  | cons a r ih =>
    intro b
    have e : bestOf slot (a :: r) b = bestOf slot r (better slot b a) := rfl
    obtain ⟨h1, h2, h3⟩ := ih (better slot b a)
    rw [e]
    have hb : b.bal ≤ (better slot b a).bal ∧ (a.slot = slot → a.bal ≤ (better slot b a).bal) := by
      unfold better
      split
      · exact ⟨by omega, fun _ => by omega⟩
      · exact ⟨by omega, fun _ => by omega⟩
    refine ⟨fun v hv hs => ?_, by omega, ?_⟩
    · rcases List.mem_cons.1 hv with rfl | hv
      · have := hb.2 hs; omega
      · exact h1 v hv hs
    · rcases h3 with h3 | ⟨h3, h4⟩
      · rw [h3]
        unfold better
        split
        · rename_i hc
          exact .inr ⟨by simp, hc.1⟩
        · exact .inl rfl
      · exact .inr ⟨by simp [h3], h4⟩
theorem mem_votesTo {V : Nat → Option Vt} {lo : Int} {v : Vote} {n : Nat} : v ∈ votesTo V lo n ↔ ∃ i, i < n ∧ lo ≤ (i : Int) ∧ ∃ x, V i = some x ∧ v = ⟨(i : Int), x.bal, x.val⟩ := by
  unfold votesTo
  rw [List.mem_filterMap]
  constructor
  · rintro ⟨i, hi, h⟩
    split at h
    · rename_i hlo
      rw [Option.map_eq_some_iff] at h
      obtain ⟨x, hx, e⟩ := h
      exact ⟨i, by simpa using hi, hlo, x, hx, e.symm⟩
    · cases h
  · rintro ⟨i, hi, hlo, x, hx, e⟩
    exact ⟨i, by simpa using hi, by rw [if_pos hlo, hx, e]; rfl⟩
/-- Of the heard nodes' votes in a slot: none, or the best one. -/
theorem best_of (V : Nat → Nat → Option (Int × ByteArray)) (hs : slot < 4096) (H : List Nat) (hb : ∀ j ∈ H, ∀ b x, V j slot = some (b, x) → 1 ≤ b) (v : Vote) (hv : v = bestOf (slot : Int) (H.map fun j => votesTo (vt (V j)) (slot : Int) 4096).flatten Vote.zero) :
    (v.bal ≤ 0 ∧ ∀ j ∈ H, V j slot = none) ∨ (0 < v.bal ∧ ∃ j ∈ H, V j slot = some (v.bal, v.val) ∧ ∀ i ∈ H, ∀ d y, V i slot = some (d, y) → d ≤ v.bal) := by
  obtain ⟨h1, h2, h3⟩ := bestOf_spec (slot : Int) (H.map fun j => votesTo (vt (V j)) (slot : Int) 4096).flatten Vote.zero
  rw [← hv] at h1 h2 h3
  have up : ∀ i ∈ H, ∀ d y, V i slot = some (d, y) → d ≤ v.bal := fun i hi d y hd => by
    refine h1 ⟨(slot : Int), d, y⟩ ?_ rfl
    rw [List.mem_flatten]
    refine ⟨_, List.mem_map.2 ⟨i, hi, rfl⟩, mem_votesTo.2 ⟨slot, hs, Int.le_refl _, ⟨d, y⟩, ?_, rfl⟩⟩
    unfold vt
    rw [hd]
    rfl
  by_cases h0 : 0 < v.bal
  · refine .inr ⟨h0, ?_⟩
    rcases h3 with h3 | ⟨h3, h4⟩
    · rw [h3] at h0
      exact absurd h0 (by decide)
    · rw [List.mem_flatten] at h3
      obtain ⟨l, hl, hm⟩ := h3
      obtain ⟨j, hj, rfl⟩ := List.mem_map.1 hl
      obtain ⟨i, hi, hlo, y, hy, e⟩ := mem_votesTo.1 hm
      have hi2 : i = slot := by
        rw [e] at h4
        exact Int.ofNat.inj h4
      subst hi2
      unfold vt at hy
      rw [Option.map_eq_some_iff] at hy
      obtain ⟨z, hz, rfl⟩ := hy
      refine ⟨j, hj, ?_, up⟩
      rw [hz, e]
  · refine .inl ⟨by omega, fun j hj => ?_⟩
    cases hz : V j slot with
    | none => rfl
    | some z =>
      have g1 := hb j hj z.1 z.2 hz
      have g2 := up j hj z.1 z.2 hz
      omega
/-- What holds of a group behind k proposals. -/
structure PB (G : ByteArray → Prop) (s : PX ByteArray) (k : Nat) : Prop where
  inv : Inv s
  r : ∀ i, i < 3 → s.round i ≤ k
  p : ∀ i, i < 3 → s.p i ≤ 8 * (k : Int) + 3
  l : ∀ i, i < 3 → (s.log i).length ≤ k
  gv : ∀ i j b x, i < 3 → s.V i j = some (b, x) → G x
  gl : ∀ i x, i < 3 → x ∈ s.log i → G x
theorem num_le (h : rd ≤ k) (hw : who < 3) : 1 ≤ num rd who ∧ num rd who ≤ 8 * (k : Int) + 3 := by
  unfold num
  omega
theorem PB.prep (h : PB G s k) (P : Nat → Bool) (hb : b ≤ 8 * (k : Int) + 3) (hP : ∀ i, i < 3 → P i = true → s.p i ≤ b) : PB G (s.prep P b) k := by
  refine ⟨h.inv.prep P b hP, h.r, fun i hi => ?_, h.l, h.gv, h.gl⟩
  show (if P i = true then b else s.p i) ≤ _
  split
  · exact hb
  · exact h.p i hi
theorem PB.turn (h : PB G s k) (h1 : s.round who ≤ rd) (h2 : rd ≤ k + 1) : PB G (s.turn who rd) (k + 1) := by
  refine ⟨h.inv.turn who rd h1, fun i hi => ?_, fun i hi => ?_, fun i hi => ?_, h.gv, h.gl⟩
  · show (if i = who then rd else s.round i) ≤ _
    split
    · exact h2
    · have := h.r i hi; omega
  · have := h.p i hi
    show s.p i ≤ _
    omega
  · have := h.l i hi
    show (s.log i).length ≤ _
    omega
/-- The votes are given. -/
theorem PB.vote (h : PB G s k) (hw : who < 3) (hG : G x) (hA : ∀ i, i < 3 → A i = true → s.p i ≤ num (s.round who) who) {H : Nat → Prop} (hH : maj H) (hp : ∀ i, i < 3 → H i → s.p i = num (s.round who) who)
    (hbest : (∀ i, i < 3 → H i → s.V i slot = none) ∨ ∃ i c, i < 3 ∧ H i ∧ s.V i slot = some (c, x) ∧ ∀ j d y, j < 3 → H j → s.V j slot = some (d, y) → d ≤ c) (h1 : s.round who + 1 ≤ rd) (h2 : rd ≤ k + 1) :
    PB G ((s.acc A (num (s.round who) who) slot x).turn who rd) (k + 1) ∧ (maj (fun i => A i = true) → Settled ((s.acc A (num (s.round who) who) slot x).turn who rd) slot x) := by
  obtain ⟨g1, g2⟩ := h.inv.vote who hw slot A x hA H hH hp hbest
  have hr := h.r who hw
  have hn := num_le (k := k) hr hw
  have e := PX.turn_turn (s.acc A (num (s.round who) who) slot x) who (s.round who + 1) rd
  refine ⟨⟨e ▸ g1.turn who rd (by show (if who = who then s.round who + 1 else s.round who) ≤ rd; rw [if_pos rfl]; exact h1), fun i hi => ?_, fun i hi => ?_, fun i hi => ?_, fun i j c y hi hv => ?_, h.gl⟩, g2⟩
  · show (if i = who then rd else s.round i) ≤ _
    split
    · exact h2
    · have := h.r i hi; omega
  · show (if A i = true then num (s.round who) who else s.p i) ≤ _
    split
    · omega
    · have := h.p i hi; omega
  · have := h.l i hi
    show (s.log i).length ≤ _
    omega
  · replace hv : (if (A i && j == slot) = true then some (num (s.round who) who, x) else s.V i j) = some (c, y) := hv
    split at hv
    · injection hv with hv
      injection hv with _ e2
      exact e2 ▸ hG
    · exact h.gv i j c y hi hv
/-- It learns what it proposed. -/
theorem PB.add (h : PB G s (k + 1)) (hl : (s.log who).length ≤ k) (hw : who < 3) (hG : G x) (hs : Settled s (s.log who).length x) : PB G (s.learn who (s.log who ++ [x])) (k + 1) := by
  refine ⟨h.inv.learn who _ fun j y hy => ?_, h.r, h.p, fun i hi => ?_, h.gv, fun i y hi hy => ?_⟩
  · rw [List.getElem?_append] at hy
    split at hy
    · exact h.inv.log who j y hw hy
    · rename_i hj
      have hj2 : j = (s.log who).length := by
        have := (List.getElem?_eq_some_iff.1 hy).1
        simp at this
        omega
      subst hj2
      simp at hy
      exact hy ▸ hs
  · show (if i = who then s.log who ++ [x] else s.log i).length ≤ _
    split
    · simp; omega
    · exact h.l i hi
  · replace hy : y ∈ (if i = who then s.log who ++ [x] else s.log i) := hy
    split at hy
    · rcases List.mem_append.1 hy with hy | hy
      · exact h.gl who y hw hy
      · simp at hy
        exact hy ▸ hG
    · exact h.gl i y hi hy
/-- It learns another's log. -/
theorem PB.learn (h : PB G s k) {me of : Nat} (ho : of < 3) : PB G (s.learn me (s.log of)) k := by
  refine ⟨h.inv.learn me _ fun j y hy => h.inv.log of j y ho hy, h.r, h.p, fun i hi => ?_, h.gv, fun i y hi hy => ?_⟩
  · show (if i = me then s.log of else s.log i).length ≤ _
    split
    · exact h.l of ho
    · exact h.l i hi
  · replace hy : y ∈ (if i = me then s.log of else s.log i) := hy
    split at hy
    · exact h.gl of y ho hy
    · exact h.gl i y hi hy
end
end Go.Proofs.YtfjfkmoofmncnaaDoor
/- quorum: the first round of a proposal: nodes promise, votes are heard. -/
namespace Go.Proofs.YtfjfkmoofmncnaaDoor
open Go.RowKit
section
variable {w w' : World} {q : QP} {X I X' I' : Nat → Prop} {f f' : Lit → Option Value} {n n' : Nat} {s : PX ByteArray}
/-- Blocks of another's own turn; and more blocks are barred to votes. -/
theorem IsQ.movesY (h : IsQ w q X I f n s) {F Y : Nat → Prop} (hm : Moves F w w') (hX : ∀ k, F k → X k) (hF : ∀ k, F k → ¬ QF q I k) (h1 : ∀ k, X k → Y k) (h2 : ∀ k, Y k → X k ∨ w.heap.size ≤ k) (h3 : ∀ k, Y k → k < w'.heap.size) : IsQ w' q Y I f n s := by
  have g := h.moves hm hX hF
  exact g.change (Moves.refl (fun _ => False) w') rfl rfl (fun _ e => e.elim) (fun i hi => by
    obtain ⟨B, g1, g2⟩ := h.acc i hi
    have e1 := hm.block _ g1.lt fun e => hF _ e (.inr (.inr (.inr (.inl ⟨i, hi, rfl⟩))))
    refine ⟨B, g1.keep e1 fun j x hx => hm.block _ (g1.vs j x hx).lt fun e => g2 j x hx (hX _ e), fun j x hx hk => ?_⟩
    rcases h2 _ hk with hk | hk
    · exact g2 j x hx hk
    · have := (g1.vs j x hx).lt; omega) g.gv (fun k hk => h1 k (g.xs k hk)) h3 g.col
/-- An acceptor has turned, and blocks of another's own. -/
theorem IsQ.accsT (h : IsQ w q X I f n s) {T : Nat → Prop} (hT : ∀ k, T k → X k ∧ ¬ QF q I k) {i : Nat} (hi : i < 3) {p : Int} {V : Nat → Option (Int × ByteArray)} (hA : Acc w' X (q.ab i) p (vt V)) (hm : Moves (fun k => k = q.ab i ∨ T k) w w') : IsQ w' q X I f n { s with p := fun j => if j = i then p else s.p j, V := fun j => if j = i then V else s.V j } := by
  obtain ⟨col, hc⟩ := h.col
  have hne : ∀ k, (k = q.ab i ∨ T k) → QF q I k → col k = 20 + i := fun k e hk => by
    rcases e with e | e
    · rw [e]; exact hc.a i hi
    · exact absurd hk (hT k e).2
  refine h.change hm rfl rfl (fun k hk => ⟨fun e => ?_, fun e => ?_, fun j hj e => ?_, fun j hj e => ?_⟩) (fun j hj => ?_) (h.gv.keep hm.size fun k hk => hm.block k (by obtain ⟨l1, l2, l3⟩ := h.gv.lt; rcases hk with rfl | rfl | rfl | hk; exact l1; exact l2; exact l3; exact (h.gv.ni k hk).2.2.2) fun e => ?_) h.xs (fun k hk => Nat.lt_of_lt_of_le (h.xl k hk) hm.size) h.col
  · have h1 := hne k hk (.inl e); rw [e, hc.g] at h1; omega
  · have h1 := hne k hk (.inr (.inl e)); rw [e, hc.l] at h1; omega
  · have h1 := hne k hk (.inr (.inr (.inl ⟨j, hj, e⟩))); rw [e, hc.n j hj] at h1; omega
  · have h1 := hne k hk (.inr (.inr (.inr (.inr (.inl ⟨j, hj, e⟩))))); rw [hc.v j k hj e] at h1; omega
  · by_cases e : j = i
    · subst e
      show Acc w' X (q.ab j) (if j = j then p else s.p j) (vt (if j = j then V else s.V j))
      rw [if_pos rfl, if_pos rfl]
      exact hA
    · show Acc w' X (q.ab j) (if j = i then p else s.p j) (vt (if j = i then V else s.V j))
      rw [if_neg e, if_neg e]
      exact (h.acc j hj).movesX hm (fun k hk => by
        rcases hk with hk | hk
        · exact h.xs k (.inr (.inr (.inr (.inl ⟨i, hi, hk⟩))))
        · exact (hT k hk).1) fun e2 => by
        have h1 := hne _ e2 (.inr (.inr (.inr (.inl ⟨j, hj, rfl⟩))))
        rw [hc.a j hj] at h1
        omega
  · rcases hk with e2 | e2 | e2 | e2
    · have h1 := hne k e (.inl e2); rw [e2, hc.g] at h1; omega
    · have h1 := hne k e (.inr (.inr (.inr (.inr (.inr (.inl e2)))))); rw [e2, hc.m] at h1; omega
    · have h1 := hne k e (.inr (.inr (.inr (.inr (.inr (.inr (.inl e2))))))); rw [e2, hc.c] at h1; omega
    · have h1 := hne k e (.inr (.inr (.inr (.inr (.inr (.inr (.inr e2))))))); rw [hc.i k e2] at h1; omega
/-- The world of a proposal under way: st the group but for the proposer's round; Y: blocks that stay; rb: one that the asking made. -/
structure JC (B k who : Nat) (Y : Nat → Prop) (w1 : World) (rb : Nat) (q : QP) (st : PX ByteArray) (W : World) (X I : Nat → Prop) (f : Lit → Option Value) (n rd : Nat) : Prop where
  g : IsQ W q (fun j => X j ∨ Y j) I f n (st.turn who rd)
  qx : ∀ j, QF q I j → X j
  b0 : B ≤ w1.heap.size
  bl : Below B w1 W
  xb : ∀ j, X j → B ≤ j
  y : ∀ j, Y j → ¬ X j ∧ j < w1.heap.size ∧ W.heap[j]? = w1.heap[j]?
  rb : ¬ X rb ∧ rb < W.heap.size
  r0 : st.round who ≤ rd
  r1 : rd ≤ k
variable {B k who rb rd rd' : Nat} {Y : Nat → Prop} {w1 W W' : World} {st st' : PX ByteArray}
theorem JC.next (h : JC B k who Y w1 rb q st W X I f n rd) (g' : IsQ W' q (fun j => X' j ∨ Y j) I' f' n' (st'.turn who rd')) (hq : ∀ j, QF q I' j → X' j) (hm : Moves X W W') (hx : ∀ j, X' j → X j ∨ W.heap.size ≤ j) (h0 : st'.round who ≤ rd') (h1 : rd' ≤ k) : JC B k who Y w1 rb q st' W' X' I' f' n' rd' := by
  have hs := h.bl.size
  have hb0 := h.b0
  refine ⟨g', hq, hb0, h.bl.trans (hm.below (Nat.le_trans hb0 hs) h.xb), fun j hj => ?_, fun j hj => ?_, ⟨fun hj => ?_, Nat.lt_of_lt_of_le h.rb.2 hm.size⟩, h0, h1⟩
  · rcases hx j hj with hj | hj
    · exact h.xb j hj
    · omega
  · obtain ⟨y1, y2, y3⟩ := h.y j hj
    refine ⟨fun e => ?_, y2, (hm.block j (by omega) y1).trans y3⟩
    rcases hx j e with e | e
    · exact y1 e
    · omega
  · rcases hx rb hj with hj | hj
    · exact h.rb.1 hj
    · have := h.rb.2; omega
theorem JC.cell (h : JC B k who Y w1 rb q st W X I f n rd) {j o : Nat} (hj : Y j) {v : Value} (hv : w1.cell? ⟨j, o, none⟩ = some v) : W.cell? ⟨j, o, none⟩ = some v := (World.cell?_of_block (a := ⟨j, o, none⟩) (h.y j hj).2.2).trans hv
theorem JC.view (h : JC B k who Y w1 rb q st W X I f n rd) : QV W q := ⟨h.g.c0, h.g.row, h.g.n0, h.g.n1⟩
theorem JC.below (h : JC B k who Y w1 rb q st W X I f n rd) (hb : Below W.heap.size W W') : JC B k who Y w1 rb q st W' X I f n rd :=
  h.next (h.g.below hb) h.qx (Moves.of_below hb) (fun _ hj => .inl hj) h.r0 h.r1
/-- Votes that were told, in a row that never turns. -/
def Told (W : World) (X : Nat → Prop) (x : Value) (L : List Vote) : Prop := W.ownsRow 0 100 3 x L.length (vrows L) ∧ ∀ k, x.ownBlock = some k → ¬ X k
theorem Told.next {x : Value} {L : List Vote} (h : Told W X x L) (hm : Moves X W W') (hx : ∀ j, X' j → X j ∨ W.heap.size ≤ j) : Told W' X' x L :=
  ⟨ownsRow_keep h.1 fun j hj => hm.block j (h.1.lt j hj).2 (h.2 j hj), fun j hj e => by
    rcases hx j e with e | e
    · exact h.2 j hj e
    · have := (h.1.lt j hj).2; omega⟩
/-- The first round. -/
structure J1 (B k who : Nat) (Y : Nat → Prop) (w1 : World) (rb : Nat) (q : QP) (s : PX ByteArray) (tb zb slot : Nat) (b : Int) (I : Nat → Prop) (f : Lit → Option Value) (n : Nat) (i ih m : Nat) (W : World) (X : Nat → Prop) (rd : Nat) (P : Nat → Bool) (H : List Nat) (sv : Value) (vals : List Value) : Prop where
  c : JC B k who Y w1 rb q (s.prep P b) W X I f n rd
  p : ∀ j, P j = true → j < i ∧ s.p j ≤ b
  t : ∃ a l c, W.cell? ⟨tb, 0, none⟩ = some (.slice a l c)
  tf : W.frozen? ⟨tb, 0, none⟩ = false
  z : W.cell? ⟨zb, 0, none⟩ = some sv
  zf : W.frozen? ⟨zb, 0, none⟩ = false
  row : W.ownsRow 0 90 1 sv m vals
  hm : H.length = m ∧ vals.length = m
  nd : H.Nodup
  hp : ∀ j ∈ H, j < ih ∧ P j = true
  rows : ∀ (a j : Nat), H[a]? = some j → ∃ x, vals[a]? = some x ∧ Told W X x (votesTo (vt (s.V j)) (slot : Int) 4096)
  fx : ∀ j, (j = tb ∨ j = zb ∨ sv.ownBlock = some j) → X j ∧ ¬ QF q I j
  ne : tb ≠ zb ∧ sv.ownBlock ≠ some tb ∧ sv.ownBlock ≠ some zb
variable {tb zb slot i i' ih m : Nat} {b : Int} {P P' : Nat → Bool} {H : List Nat} {sv : Value} {vals : List Value}
theorem J1.next (h : J1 B k who Y w1 rb q s tb zb slot b I f n i ih m W X rd P H sv vals) (g' : IsQ W' q (fun j => X j ∨ Y j) I f n ((s.prep P' b).turn who rd')) (hm : Moves (fun j => QF q I j ∨ j = tb) W W') (hP : ∀ j, P j = true → P' j = true) (hP' : ∀ j, P' j = true → j < i' ∧ s.p j ≤ b) {ih' : Nat} (hih : ih ≤ ih') (h0 : s.round who ≤ rd') (h1 : rd' ≤ k)
    (ht : ∃ a l c, W'.cell? ⟨tb, 0, none⟩ = some (.slice a l c)) (htf : W'.frozen? ⟨tb, 0, none⟩ = false) : J1 B k who Y w1 rb q s tb zb slot b I f n i' ih' m W' X rd' P' H sv vals := by
  have hX : ∀ j, (QF q I j ∨ j = tb) → X j := fun j hj => by
    rcases hj with hj | hj
    · exact h.c.qx j hj
    · exact (h.fx j (.inl hj)).1
  have hmX : Moves X W W' := hm.mono fun j _ hj => hX j hj
  have hzb := hm.block zb (World.block_lt_of_cell? _ _ h.z) fun e => by
    rcases e with e | e
    · exact (h.fx zb (.inr (.inl rfl))).2 e
    · exact h.ne.1 e.symm
  refine ⟨h.c.next g' h.c.qx hmX (fun _ hj => .inl hj) h0 h1, hP', ht, htf, (World.cell?_of_block (a := ⟨zb, 0, none⟩) hzb).trans h.z, (World.frozen?_of_block (a := ⟨zb, 0, none⟩) hzb).trans h.zf, ownsRow_keep h.row fun j hj => hm.block j (h.row.lt j hj).2 fun e => ?_, h.hm, h.nd, fun j hj => ⟨Nat.lt_of_lt_of_le (h.hp j hj).1 hih, hP j (h.hp j hj).2⟩, fun a j hj => ?_, h.fx, h.ne⟩
  · rcases e with e | e
    · exact (h.fx j (.inr (.inr hj))).2 e
    · exact h.ne.2.1 (e ▸ hj)
  · obtain ⟨x, hx, ho⟩ := h.rows a j hj
    exact ⟨x, hx, ho.next hmX fun _ hj => .inl hj⟩
theorem J1.below (h : J1 B k who Y w1 rb q s tb zb slot b I f n i ih m W X rd P H sv vals) (hb : Below W.heap.size W W') : J1 B k who Y w1 rb q s tb zb slot b I f n i ih m W' X rd P H sv vals := by
  obtain ⟨a, l, c, ht⟩ := h.t
  have hbt := hb.block tb (World.block_lt_of_cell? _ _ ht)
  exact h.next (h.c.g.below hb) (Moves.of_below hb) (fun _ hj => hj) h.p (Nat.le_refl _) h.c.r0 h.c.r1 ⟨a, l, c, (World.cell?_of_block (a := ⟨tb, 0, none⟩) hbt).trans ht⟩ ((World.frozen?_of_block (a := ⟨tb, 0, none⟩) hbt).trans h.tf)
theorem J1.more (h : J1 B k who Y w1 rb q s tb zb slot b I f n i ih m W X rd P H sv vals) {i' ih' : Nat} (h1 : i ≤ i') (h2 : ih ≤ ih') : J1 B k who Y w1 rb q s tb zb slot b I f n i' ih' m W X rd P H sv vals :=
  ⟨h.c, fun j hj => ⟨Nat.lt_of_lt_of_le (h.p j hj).1 h1, (h.p j hj).2⟩, h.t, h.tf, h.z, h.zf, h.row, h.hm, h.nd, fun j hj => ⟨Nat.lt_of_lt_of_le (h.hp j hj).1 h2, (h.hp j hj).2⟩, h.rows, h.fx, h.ne⟩
/-- Ahead of node i; behind its asking. -/
def JA1 (B k who : Nat) (Y : Nat → Prop) (w1 : World) (rb : Nat) (q : QP) (s : PX ByteArray) (tb zb slot : Nat) (b : Int) (I : Nat → Prop) (f : Lit → Option Value) (n : Nat) (i m : Nat) (W : World) : Prop :=
  ∃ X rd P H sv vals, J1 B k who Y w1 rb q s tb zb slot b I f n i i m W X rd P H sv vals
def JK1 (B k who : Nat) (Y : Nat → Prop) (w1 : World) (rb : Nat) (q : QP) (s : PX ByteArray) (tb zb slot : Nat) (b : Int) (I : Nat → Prop) (f : Lit → Option Value) (n : Nat) (i m : Nat) (c : Int) (W : World) : Prop :=
  ∃ X rd P H sv vals, J1 B k who Y w1 rb q s tb zb slot b I f n (i + 1) i m W X rd P H sv vals ∧ 1 ≤ (s.prep P b).p i ∧ (c = 0 → P i = true ∧ ∃ x, W.cell? ⟨tb, 0, none⟩ = some x ∧ Told W X x (votesTo (vt (s.V i)) (slot : Int) 4096))
theorem qf_ask (h : 1 ≤ b) : (s.prep (upB P i) b).p i = b ∧ 1 ≤ (s.prep (upB P i) b).p i := by
  have e : (s.prep (upB P i) b).p i = b := if_pos (upB_same P i)
  exact ⟨e, by rw [e]; exact h⟩
/-- The first round's two functions keep to it. -/
theorem ask1_ok {bb sb : Nat} (hw : who < 3) (hk : k ≤ 100) (hb1 : 1 ≤ b) (hb2 : b ≤ 8 * (k : Int) + 3) (hP : ∀ i, i < 3 → s.p i ≤ 8 * (k : Int) + 3) (hYb : Y bb) (hYs : Y sb) (cb : w1.cell? ⟨bb, 0, none⟩ = some (.int .i64 b)) (cs : w1.cell? ⟨sb, 0, none⟩ = some (.int .i64 (slot : Int))) :
    AskC q who (fun j => j ≠ rb) 26 28 #[.pointer (some ⟨bb, 0, none⟩), .pointer (some ⟨sb, 0, none⟩), .pointer (some ⟨tb, 0, none⟩)] #[.pointer (some ⟨zb, 0, none⟩), .pointer (some ⟨tb, 0, none⟩)]
      (JA1 B k who Y w1 rb q s tb zb slot b I f n) (JK1 B k who Y w1 rb q s tb zb slot b I f n) (JK1 B k who Y w1 rb q s tb zb slot b I f n) := by
  refine ⟨?_, ?_, ?_, ?_, ?_, ?_, ?_, ?_, ?_, ?_⟩
  · rintro i m W ⟨X, rd, P, H, sv, vals, h⟩
    exact h.c.view
  · rintro i m W W' ⟨X, rd, P, H, sv, vals, h⟩ hb
    exact ⟨X, rd, P, H, sv, vals, h.below hb⟩
  · rintro i m c W W' ⟨X, rd, P, H, sv, vals, h, h1, h2⟩ hb
    refine ⟨X, rd, P, H, sv, vals, h.below hb, h1, fun hc => ⟨(h2 hc).1, ?_⟩⟩
    obtain ⟨x, hx, ho⟩ := (h2 hc).2
    exact ⟨x, (World.cell?_of_block (a := ⟨tb, 0, none⟩) (hb.block tb (World.block_lt_of_cell? _ _ hx))).trans hx, ho.next (Moves.of_below hb) fun _ hj => .inl hj⟩
  · rintro i m W hi ⟨X, rd, P, H, sv, vals, h⟩
    obtain ⟨a, l, c, ht⟩ := h.t
    have hA := h.c.g.acc i hi
    have xt := h.fx tb (.inl rfl)
    have hab : X (q.ab i) := h.c.qx _ (.inr (.inr (.inr (.inl ⟨i, hi, rfl⟩))))
    have hne : tb ≠ q.ab i := fun e => xt.2 (e ▸ .inr (.inr (.inr (.inl ⟨i, hi, rfl⟩))))
    have hpi : ((s.prep P b).turn who rd).p i ≤ 8 * (k : Int) + 3 := by
      show (if P i = true then b else s.p i) ≤ _
      split
      · exact hb2
      · exact hP i hi
    by_cases hle : ((s.prep P b).turn who rd).p i ≤ b
    · refine (prep1_ok hA (.inl hab) (.inl xt.1) hne (i : Int) (h.c.cell hYb cb) (h.c.cell hYs cs) ht h.tf hb1 (by omega) hle).mono ?_
      rintro e w2 ⟨rfl, hA2, hm2, v, hv, hvf, hvr⟩
      have hnrb : ∀ j, (j = q.ab i ∨ j = tb) → j ≠ rb := fun j hj e => h.c.rb.1 (by
        rcases hj with hj | hj
        · rw [← e, hj]; exact hab
        · rw [← e, hj]; exact xt.1)
      have g' := h.c.g.accsT (T := fun j => j = tb) (fun j hj => by rw [hj]; exact ⟨.inl xt.1, xt.2⟩) hi hA2 hm2
      rw [show ({ (s.prep P b).turn who rd with p := fun j => if j = i then b else ((s.prep P b).turn who rd).p j, V := fun j => if j = i then ((s.prep P b).turn who rd).V i else ((s.prep P b).turn who rd).V j } : PX ByteArray) = (s.prep (upB P i) b).turn who rd from prep_up s P b who rd i] at g'
      refine ⟨0, rfl, ⟨X, rd, upB P i, H, sv, vals, h.next g' (hm2.mono fun j _ hj => hj.imp (fun (e : j = q.ab i) => .inr (.inr (.inr (.inl ⟨i, hi, e⟩)))) id) (fun _ hj => upB_keep hj) (fun j hj => ?_) (Nat.le_refl _) h.c.r0 h.c.r1 ?_ hvf, (qf_ask hb1).2, fun _ => ⟨upB_same P i, v, hv, ownsRow_base hvr fun _ _ => Nat.zero_le _, fun j hj e => ?_⟩⟩, hm2.mono fun j _ hj => hnrb j hj⟩
      · rcases upB_of hj with rfl | hj
        · refine ⟨Nat.lt_succ_self _, ?_⟩
          replace hle : (if P j = true then b else s.p j) ≤ b := hle
          split at hle
          · exact (h.p j (by assumption)).2
          · exact hle
        · exact ⟨Nat.lt_succ_of_lt (h.p j hj).1, (h.p j hj).2⟩
      · obtain ⟨va, vc, e⟩ := row_lens hvr
        exact ⟨va, _, vc, by rw [hv, e]⟩
      · have h3 := (hvr.lt j hj).1
        have h4 := h.c.g.xl j (.inl e)
        omega
    · refine (prep1_old hA (i : Int) (h.c.cell hYb cb) (h.c.cell hYs cs) ht h.tf hb1 (by omega) (by omega)).mono ?_
      rintro e w2 ⟨rfl, rfl⟩
      have hm2 := (Moves.refl (fun j => j = tb) W).setCell ⟨tb, 0, none⟩ (.slice none 0 0) (.inl rfl)
      have g' := h.c.g.moves hm2 (fun j hj => by rw [hj]; exact .inl xt.1) (fun j hj => by rw [hj]; exact xt.2)
      refine ⟨5, rfl, ⟨X, rd, P, H, sv, vals, h.next g' (hm2.mono fun j _ hj => .inr hj) (fun _ hj => hj) (fun j hj => ⟨Nat.lt_succ_of_lt (h.p j hj).1, (h.p j hj).2⟩) (Nat.le_refl _) h.c.r0 h.c.r1 ⟨none, 0, 0, World.cell?_setCell_same _ _ _ ht⟩ (by rw [World.frozen?_setCell]; exact h.tf), ?_, fun hc => by cases hc⟩, hm2.mono fun j _ hj e => h.c.rb.1 (by rw [← e, hj]; exact xt.1)⟩
      replace hle : ¬ (s.prep P b).p i ≤ b := hle
      omega
  · rintro i m c W hi ⟨X, rd, P, H, sv, vals, h, h1, h2⟩
    refine ⟨h.c.view, ⟨_, _, _, h.c.g.acc i hi, h1, ?_⟩, ⟨rd, ?_⟩, h.c.g.fro who hw 3⟩
    · show (if P i = true then b else s.p i) ≤ _
      have := hP i hi
      split <;> omega
    · have := h.c.g.n3 who hw
      rw [show ((s.prep P b).turn who rd).round who = rd from if_pos rfl] at this
      exact this
  · rintro i m W hi ⟨X, rd, P, H, sv, vals, h⟩
    exact ⟨X, rd, P, H, sv, vals, h.more (Nat.le_succ i) (Nat.le_succ i)⟩
  · rintro i m c W hi ⟨X, rd, P, H, sv, vals, h, h1, h2⟩
    exact ⟨X, rd, P, H, sv, vals, h.more (Nat.le_refl _) (Nat.le_succ i)⟩
  · rintro i m c W X' p V rd' hi ⟨X, rd, P, H, sv, vals, h, h1, h2⟩ hc hA
    have e1 : rd' = rd := by
      have h3 := h.c.g.n3 who hw
      rw [show ((s.prep P b).turn who rd).round who = rd from if_pos rfl, hc] at h3
      simp at h3
      omega
    have e2 : p = (s.prep P b).p i := by
      obtain ⟨B1, g1, -⟩ := hA
      obtain ⟨B2, g2, -⟩ := h.c.g.acc i hi
      have h3 := g1.c0.symm.trans g2.c0
      simp at h3
      exact h3
    have h4 : (s.prep P b).p i ≤ 8 * (k : Int) + 3 := by
      show (if P i = true then b else s.p i) ≤ _
      split
      · exact hb2
      · exact hP i hi
    subst e1 e2
    obtain ⟨R, hR⟩ : ∃ R, R = max rd' (((s.prep P b).p i - 1) / 8).toNat := ⟨_, rfl⟩
    rw [← hR]
    have hR1 : rd' ≤ R ∧ R ≤ k := by have := h.c.r1; omega
    have g' := h.c.g.turn hw R
    rw [PX.turn_turn] at g'
    have hm2 := (Moves.refl (fun j => j = q.nb who) W).setCell ⟨q.nb who, 3, none⟩ (.int .i64 (R : Int)) (.inl rfl)
    have hq : ∀ j, j = q.nb who → QF q I j := fun j e => .inr (.inr (.inl ⟨who, hw, e⟩))
    have hmX : Moves X W (W.setCell ⟨q.nb who, 3, none⟩ (.int .i64 (R : Int))) := hm2.mono fun j _ e => h.c.qx j (hq j e)
    obtain ⟨a, l, cc, ht⟩ := h.t
    have htn : tb ≠ q.nb who := fun e => (h.fx tb (.inl rfl)).2 (hq _ e)
    have hkt := hm2.block tb (World.block_lt_of_cell? _ _ ht) htn
    refine ⟨X, R, P, H, sv, vals, h.next g' (hm2.mono fun j _ e => .inl (hq j e)) (fun _ hj => hj) h.p (Nat.le_refl _) (by have h5 := h.c.r0; replace h5 : s.round who ≤ rd' := h5; omega) hR1.2 ⟨a, l, cc, (World.cell?_of_block (a := ⟨tb, 0, none⟩) hkt).trans ht⟩ ((World.frozen?_of_block (a := ⟨tb, 0, none⟩) hkt).trans h.tf), h1, fun hc0 => ⟨(h2 hc0).1, ?_⟩⟩
    obtain ⟨x, hx, ho⟩ := (h2 hc0).2
    exact ⟨x, (World.cell?_of_block (a := ⟨tb, 0, none⟩) hkt).trans hx, ho.next hmX fun _ hj => .inl hj⟩
  · rintro i m c W hi ⟨X, rd, P, H, sv, vals, h, h1, h2⟩ hc
    exact ⟨X, rd, P, H, sv, vals, h.more (Nat.le_refl _) (Nat.le_succ i)⟩
  · rintro i m W hi ⟨X, rd, P, H, sv, vals, h, h1, h2⟩
    obtain ⟨hPi, x, hx, ho⟩ := h2 rfl
    obtain ⟨xa, xc, rfl⟩ := row_lens ho.1
    have hil : H.length ≤ 3 ∧ i ∉ H := by
      have hni : i ∉ H := fun e => by have := (h.hp i e).1; omega
      refine ⟨?_, hni⟩
      have : H.length ≤ (List.range 3).length := List.Nodup.length_le_of_subset h.nd fun j hj => by
        have := (h.hp j hj).1
        simp
        omega
      simpa using this
    have hm3 : m ≤ 3 := by have := h.hm.1; omega
    refine (hear_any h.z h.zf hx rfl h.row (by omega) h.ne.2.2 (i : Int)).mono ?_
    rintro e w2 ⟨rfl, sv', z', zf', row', hmv, hob⟩
    have hfx : ∀ j, (j = zb ∨ sv.ownBlock = some j) → X j ∧ ¬ QF q I j := fun j hj => h.fx j (.inr hj)
    have hx2 : ∀ j, (X j ∨ sv'.ownBlock = some j) → X j ∨ W.heap.size ≤ j := fun j hj => by
      rcases hj with hj | hj
      · exact .inl hj
      · exact (hob j hj).imp (fun e => (h.fx j (.inr (.inr e))).1) id
    have g' := h.c.g.movesY (Y := fun j => (X j ∨ sv'.ownBlock = some j) ∨ Y j) hmv (fun j hj => .inl (hfx j hj).1) (fun j hj => (hfx j hj).2) (fun j hj => hj.imp .inl id) (fun j hj => by
      rcases hj with hj | hj
      · exact (hx2 j hj).imp .inl id
      · exact .inl (.inr hj)) (fun j hj => by
      rcases hj with (hj | hj) | hj
      · exact Nat.lt_of_lt_of_le (h.c.g.xl j (.inl hj)) hmv.size
      · exact (row'.lt j hj).2
      · exact Nat.lt_of_lt_of_le (h.c.g.xl j (.inr hj)) hmv.size)
    have hmX : Moves X W w2 := hmv.mono fun j _ hj => (hfx j hj).1
    have htl := World.block_lt_of_cell? _ _ hx
    have hkt := hmv.block tb htl fun e => by
      rcases e with e | e
      · exact h.ne.1 e
      · exact h.ne.2.1 e
    have hzl := World.block_lt_of_cell? _ _ h.z
    have hne : ∀ j, j < W.heap.size → sv.ownBlock ≠ some j → sv'.ownBlock ≠ some j := fun j hj hn e => by
      rcases hob j e with e | e
      · exact hn e
      · omega
    refine ⟨rfl, ⟨fun j => X j ∨ sv'.ownBlock = some j, rd, P, H ++ [i], sv', vals ++ [.slice xa (votesTo (vt (s.V i)) (slot : Int) 4096).length xc], h.c.next g' (fun j hj => .inl (h.c.qx j hj)) hmX hx2 h.c.r0 h.c.r1, h.p, ⟨xa, _, xc, (World.cell?_of_block (a := ⟨tb, 0, none⟩) hkt).trans hx⟩, (World.frozen?_of_block (a := ⟨tb, 0, none⟩) hkt).trans h.tf, z', zf', row', by simp [h.hm.1, h.hm.2], ?_, fun j hj => ?_, fun a j hj => ?_, fun j hj => ?_, h.ne.1, hne tb htl h.ne.2.1, hne zb hzl h.ne.2.2⟩, hmX.mono fun j _ hj e => h.c.rb.1 (e ▸ hj)⟩
    · rw [List.nodup_append]
      exact ⟨h.nd, by simp, fun a ha c hc e => hil.2 (by simp at hc; rw [← hc, ← e]; exact ha)⟩
    · rcases List.mem_append.1 hj with hj | hj
      · exact ⟨Nat.lt_succ_of_lt (h.hp j hj).1, (h.hp j hj).2⟩
      · simp at hj
        subst hj
        exact ⟨Nat.lt_succ_self _, hPi⟩
    · rw [List.getElem?_append] at hj
      split at hj
      · rename_i ha
        obtain ⟨y, hy, hto⟩ := h.rows a j hj
        exact ⟨y, by rw [List.getElem?_append_left (by rw [h.hm.2, ← h.hm.1]; exact ha)]; exact hy, hto.next hmX hx2⟩
      · rename_i ha
        have h0 : a - H.length = 0 := by
          have := (List.getElem?_eq_some_iff.1 hj).1
          simp at this
          omega
        rw [h0] at hj
        simp at hj
        subst hj
        have ea : a = vals.length := by have := h.hm; omega
        exact ⟨_, by rw [ea]; simp, ho.next hmX hx2⟩
    · rcases hj with hj | hj | hj
      · exact ⟨.inl (h.fx j (.inl hj)).1, (h.fx j (.inl hj)).2⟩
      · exact ⟨.inl (h.fx j (.inr (.inl hj))).1, (h.fx j (.inr (.inl hj))).2⟩
      · refine ⟨.inr hj, fun e => ?_⟩
        rcases hob j hj with h5 | h5
        · exact (h.fx j (.inr (.inr h5))).2 e
        · have := h.c.g.lt j e
          omega
end
end Go.Proofs.YtfjfkmoofmncnaaDoor
/- quorum: the second round of a proposal: nodes vote. -/
namespace Go.Proofs.YtfjfkmoofmncnaaDoor
open Go.RowKit
section
variable {q : QP} {s : PX ByteArray} {B k who rb n0 tb slot : Nat} {Y : Nat → Prop} {w1 : World} {b : Int} {x : ByteArray}
/-- The second round. -/
structure J2 (B k who : Nat) (Y : Nat → Prop) (w1 : World) (rb : Nat) (q : QP) (s : PX ByteArray) (slot : Nat) (b : Int) (x : ByteArray) (n0 i ih m : Nat) (W : World) (X I : Nat → Prop) (f : Lit → Option Value) (n rd : Nat) (A : Nat → Bool) (H : List Nat) : Prop where
  c : JC B k who Y w1 rb q (s.acc A b slot x) W X I f n rd
  n : n ≤ n0 + i
  p : ∀ j, A j = true → j < i ∧ s.p j ≤ b
  hm : H.length = m
  nd : H.Nodup
  hp : ∀ j ∈ H, j < ih ∧ A j = true
def JA2 (B k who : Nat) (Y : Nat → Prop) (w1 : World) (rb : Nat) (q : QP) (s : PX ByteArray) (slot : Nat) (b : Int) (x : ByteArray) (n0 i m : Nat) (W : World) : Prop :=
  ∃ X I f n rd A H, J2 B k who Y w1 rb q s slot b x n0 i i m W X I f n rd A H
def JK2 (B k who : Nat) (Y : Nat → Prop) (w1 : World) (rb : Nat) (q : QP) (s : PX ByteArray) (slot : Nat) (b : Int) (x : ByteArray) (n0 i m : Nat) (c : Int) (W : World) : Prop :=
  ∃ X I f n rd A H, J2 B k who Y w1 rb q s slot b x n0 (i + 1) i m W X I f n rd A H ∧ 1 ≤ (s.acc A b slot x).p i ∧ (c = 0 → A i = true)
section
variable {X I : Nat → Prop} {f : Lit → Option Value} {n rd i ih m : Nat} {A : Nat → Bool} {H : List Nat} {W W' : World}
theorem J2.below (h : J2 B k who Y w1 rb q s slot b x n0 i ih m W X I f n rd A H) (hb : Below W.heap.size W W') : J2 B k who Y w1 rb q s slot b x n0 i ih m W' X I f n rd A H := ⟨h.c.below hb, h.n, h.p, h.hm, h.nd, h.hp⟩
theorem J2.more (h : J2 B k who Y w1 rb q s slot b x n0 i ih m W X I f n rd A H) {i' ih' : Nat} (h1 : i ≤ i') (h2 : ih ≤ ih') : J2 B k who Y w1 rb q s slot b x n0 i' ih' m W X I f n rd A H :=
  ⟨h.c, Nat.le_trans h.n (by omega), fun j hj => ⟨Nat.lt_of_lt_of_le (h.p j hj).1 h1, (h.p j hj).2⟩, h.hm, h.nd, fun j hj => ⟨Nat.lt_of_lt_of_le (h.hp j hj).1 h2, (h.hp j hj).2⟩⟩
end
theorem qf_vote (A : Nat → Bool) (i : Nat) (h : 1 ≤ b) : 1 ≤ (s.acc (upB A i) b slot x).p i := by
  have e : (s.acc (upB A i) b slot x).p i = b := if_pos (upB_same A i)
  rw [e]
  exact h
/-- The second round's two functions keep to it. -/
theorem ask2_ok {bb sb xb gx : Nat} (hw : who < 3) (hk : k ≤ 100) (hn0 : n0 ≤ 1000) (hb1 : 1 ≤ b) (hb2 : b ≤ 8 * (k : Int) + 3) (hs : slot < 4096) (hx : x.size ≤ 1024) (hP : ∀ i, i < 3 → s.p i ≤ 8 * (k : Int) + 3) (hYb : Y bb) (hYs : Y sb) (hYx : Y xb) (hYg : Y gx) (cb : w1.cell? ⟨bb, 0, none⟩ = some (.int .i64 b)) (cs : w1.cell? ⟨sb, 0, none⟩ = some (.int .i64 (slot : Int)))
    (cx : w1.cell? ⟨xb, 0, none⟩ = some (.string x)) (cg : w1.cell? ⟨gx, 0, none⟩ = some (.pointer (some ⟨q.gb, 0, none⟩))) :
    AskC q who (fun j => j ≠ rb) 31 34 #[.pointer (some ⟨sb, 0, none⟩), .pointer (some ⟨bb, 0, none⟩), .pointer (some ⟨xb, 0, none⟩), .pointer (some ⟨gx, 0, none⟩)] #[]
      (JA2 B k who Y w1 rb q s slot b x n0) (JK2 B k who Y w1 rb q s slot b x n0) (JK2 B k who Y w1 rb q s slot b x n0) := by
  have hpi : ∀ A i, i < 3 → (s.acc A b slot x).p i ≤ 8 * (k : Int) + 3 := fun A i hi => by
    show (if A i = true then b else s.p i) ≤ _
    split
    · exact hb2
    · exact hP i hi
  refine ⟨?_, ?_, ?_, ?_, ?_, ?_, ?_, ?_, ?_, ?_⟩
  · rintro i m W ⟨X, I, f, n, rd, A, H, h⟩
    exact h.c.view
  · rintro i m W W' ⟨X, I, f, n, rd, A, H, h⟩ hb
    exact ⟨X, I, f, n, rd, A, H, h.below hb⟩
  · rintro i m c W W' ⟨X, I, f, n, rd, A, H, h, h1, h2⟩ hb
    exact ⟨X, I, f, n, rd, A, H, h.below hb, h1, h2⟩
  · rintro i m W hi ⟨X, I, f, n, rd, A, H, h⟩
    have hgx : gx ≠ q.ab i := fun e => (h.c.y gx hYg).1 (e ▸ h.c.qx _ (.inr (.inr (.inr (.inl ⟨i, hi, rfl⟩)))))
    by_cases hle : ((s.acc A b slot x).turn who rd).p i ≤ b
    · refine (vote1_ok h.c.g hi (by have := h.n; omega) (h.c.cell hYs cs) (h.c.cell hYb cb) (h.c.cell hYx cx) (h.c.cell hYg cg) hgx hb1 (by omega) hle hs hx).mono ?_
      rintro e w2 ⟨rfl, X', I', f', g', hI, hX, hm2⟩
      rw [acc_up] at g'
      have hmX : Moves X W w2 := hm2.mono fun j _ hj => h.c.qx j (by
        rcases hj with hj | hj | hj | hj
        · exact .inr (.inr (.inr (.inl ⟨i, hi, hj⟩)))
        · exact .inr (.inr (.inr (.inr (.inr (.inl hj)))))
        · exact .inr (.inr (.inr (.inr (.inr (.inr (.inl hj))))))
        · exact .inr (.inr (.inr (.inr (.inr (.inr (.inr hj)))))))
      have hXX : ∀ j, (X j ∨ I' j) → X j ∨ W.heap.size ≤ j := fun j hj => by
        rcases hj with hj | hj
        · exact .inl hj
        · exact (hI j hj).imp (fun e => h.c.qx j (.inr (.inr (.inr (.inr (.inr (.inr (.inr e)))))))) id
      have hXe : X' = fun j => (X j ∨ I' j) ∨ Y j := funext fun j => propext ((hX j).trans ⟨fun e => by rcases e with (e | e) | e; exact .inl (.inl e); exact .inr e; exact .inl (.inr e), fun e => by rcases e with (e | e) | e; exact .inl (.inl e); exact .inr e; exact .inl (.inr e)⟩)
      rw [hXe] at g'
      have hqx : ∀ j, QF q I' j → X j ∨ I' j := fun j hj => by
        rcases hj with hj | hj | hj | hj | hj | hj | hj | hj
        · exact .inl (h.c.qx j (.inl hj))
        · exact .inl (h.c.qx j (.inr (.inl hj)))
        · exact .inl (h.c.qx j (.inr (.inr (.inl hj))))
        · exact .inl (h.c.qx j (.inr (.inr (.inr (.inl hj)))))
        · exact .inl (h.c.qx j (.inr (.inr (.inr (.inr (.inl hj))))))
        · exact .inl (h.c.qx j (.inr (.inr (.inr (.inr (.inr (.inl hj)))))))
        · exact .inl (h.c.qx j (.inr (.inr (.inr (.inr (.inr (.inr (.inl hj))))))))
        · exact .inr hj
      refine ⟨0, rfl, ⟨fun j => X j ∨ I' j, I', f', n + 1, rd, upB A i, H, ⟨h.c.next g' hqx hmX hXX h.c.r0 h.c.r1, by have := h.n; omega, fun j hj => ?_, h.hm, h.nd, fun j hj => ⟨(h.hp j hj).1, upB_keep (h.hp j hj).2⟩⟩, qf_vote A i hb1, fun _ => upB_same A i⟩, hmX.mono fun j _ hj e => h.c.rb.1 (e ▸ hj)⟩
      rcases upB_of hj with rfl | hj
      · refine ⟨Nat.lt_succ_self _, ?_⟩
        replace hle : (if A j = true then b else s.p j) ≤ b := hle
        split at hle
        · exact (h.p j (by assumption)).2
        · exact hle
      · exact ⟨Nat.lt_succ_of_lt (h.p j hj).1, (h.p j hj).2⟩
    · refine (vote1_old h.c.g hi (gx := gx) (h.c.cell hYs cs) (h.c.cell hYb cb) (h.c.cell hYx cx) hb1 (by omega) (by omega) hs hx).mono ?_
      rintro e w2 ⟨rfl, hb2⟩
      refine ⟨5, rfl, ⟨X, I, f, n, rd, A, H, (h.below hb2).more (Nat.le_succ i) (Nat.le_refl i), ?_, fun hc => by cases hc⟩, Moves.of_below hb2⟩
      replace hle : ¬ (s.acc A b slot x).p i ≤ b := hle
      omega
  · rintro i m c W hi ⟨X, I, f, n, rd, A, H, h, h1, h2⟩
    refine ⟨h.c.view, ⟨_, _, _, h.c.g.acc i hi, h1, ?_⟩, ⟨rd, ?_⟩, h.c.g.fro who hw 3⟩
    · have := hpi A i hi
      show (s.acc A b slot x).p i ≤ _
      omega
    · have := h.c.g.n3 who hw
      rw [show ((s.acc A b slot x).turn who rd).round who = rd from if_pos rfl] at this
      exact this
  · rintro i m W hi ⟨X, I, f, n, rd, A, H, h⟩
    exact ⟨X, I, f, n, rd, A, H, h.more (Nat.le_succ i) (Nat.le_succ i)⟩
  · rintro i m c W hi ⟨X, I, f, n, rd, A, H, h, h1, h2⟩
    exact ⟨X, I, f, n, rd, A, H, h.more (Nat.le_refl _) (Nat.le_succ i)⟩
  · rintro i m c W X' p V rd' hi ⟨X, I, f, n, rd, A, H, h, h1, h2⟩ hc hA
    have e1 : rd' = rd := by
      have h3 := h.c.g.n3 who hw
      rw [show ((s.acc A b slot x).turn who rd).round who = rd from if_pos rfl, hc] at h3
      simp at h3
      omega
    have e2 : p = (s.acc A b slot x).p i := by
      obtain ⟨B1, g1, -⟩ := hA
      obtain ⟨B2, g2, -⟩ := h.c.g.acc i hi
      have h3 := g1.c0.symm.trans g2.c0
      simp at h3
      exact h3
    have h4 := hpi A i hi
    subst e1 e2
    obtain ⟨R, hR⟩ : ∃ R, R = max rd' (((s.acc A b slot x).p i - 1) / 8).toNat := ⟨_, rfl⟩
    rw [← hR]
    have hR1 : rd' ≤ R ∧ R ≤ k := by have := h.c.r1; omega
    have g' := h.c.g.turn hw R
    rw [PX.turn_turn] at g'
    have hm2 := (Moves.refl (fun j => j = q.nb who) W).setCell ⟨q.nb who, 3, none⟩ (.int .i64 (R : Int)) (.inl rfl)
    have hmX : Moves X W (W.setCell ⟨q.nb who, 3, none⟩ (.int .i64 (R : Int))) := hm2.mono fun j _ e => h.c.qx j (.inr (.inr (.inl ⟨who, hw, e⟩)))
    exact ⟨X, I, f, n, R, A, H, ⟨h.c.next g' h.c.qx hmX (fun _ hj => .inl hj) (Nat.le_trans h.c.r0 hR1.1) hR1.2, h.n, h.p, h.hm, h.nd, h.hp⟩, h1, h2⟩
  · rintro i m c W hi ⟨X, I, f, n, rd, A, H, h, h1, h2⟩ hc
    exact ⟨X, I, f, n, rd, A, H, h.more (Nat.le_refl _) (Nat.le_succ i)⟩
  · rintro i m W hi ⟨X, I, f, n, rd, A, H, h, h1, h2⟩
    have hni : i ∉ H := fun e => by have := (h.hp i e).1; omega
    refine (skip_any (i : Int)).mono ?_
    rintro e w2 ⟨rfl, rfl⟩
    refine ⟨rfl, ⟨X, I, f, n, rd, A, H ++ [i], h.c, h.n, h.p, by simp [h.hm], ?_, fun j hj => ?_⟩, Moves.refl _ _⟩
    · rw [List.nodup_append]
      exact ⟨h.nd, by simp, fun a ha c hc e => hni (by simp at hc; rw [← hc, ← e]; exact ha)⟩
    · rcases List.mem_append.1 hj with hj | hj
      · exact ⟨Nat.lt_succ_of_lt (h.hp j hj).1, (h.hp j hj).2⟩
      · simp at hj
        subst hj
        exact ⟨Nat.lt_succ_self _, h2 rfl⟩
end
end Go.Proofs.YtfjfkmoofmncnaaDoor
/- quorum: how the rounds begin and end; a log that is learned. -/
namespace Go.Proofs.YtfjfkmoofmncnaaDoor
open Go.RowKit
theorem made_named (W : World) (N : Nat) (hN : W.heap.size = N) (cs : Array Value) (T : TypeId) : ∃ W', W' = W.alloc (.cells cs T) ∧ Below W.heap.size W W' ∧ W'.heap.size = N + 1 ∧ (∀ (i : Nat) v, cs[i]? = some v → W'.cell? ⟨N, i, none⟩ = some v) ∧ ∀ i : Nat, W'.frozen? ⟨N, i, none⟩ = false := by
  subst hN
  exact ⟨_, rfl, (Below.refl _ _).alloc (Nat.le_refl _) _, by simp, fun i v h => (World.cell?_alloc_new _ _ _ i).trans h, fun i => World.frozen?_alloc_new W cs T i⟩
theorem cellA {w w' : World} (h : Below w.heap.size w w') {a : Addr} {v : Value} (hc : w.cell? a = some v) : w'.cell? a = some v := (World.cell?_of_block (h.block _ (World.block_lt_of_cell? _ _ hc))).trans hc
/-- A group behind k proposals, its blocks from B on. -/
def QS (G : ByteArray → Prop) (B k gb : Nat) (w : World) : Prop := ∃ q X I f n s, q.gb = gb ∧ IsQ w q X I f n s ∧ (∀ j, X j → B ≤ j) ∧ n ≤ 3 * k ∧ PB G s k
theorem prep_none (s : PX ByteArray) (b : Int) : s.prep (fun _ => false) b = s := by
  have : (fun i => if (false = true) then b else s.p i) = s.p := by
    funext i
    rw [if_neg (by decide)]
  show PX.mk (fun i => if (false = true) then b else s.p i) s.V s.log s.round = s
  rw [this]
theorem acc_none (s : PX ByteArray) (b : Int) (slot : Nat) (x : ByteArray) : s.acc (fun _ => false) b slot x = s := by
  have h1 : (fun i => if (false = true) then b else s.p i) = s.p := by
    funext i
    rw [if_neg (by decide)]
  have h2 : (fun i k => if (false && k == slot) = true then some (b, x) else s.V i k) = s.V := by
    funext i k
    rw [Bool.false_and, if_neg (by decide)]
  show PX.mk (fun i => if (false = true) then b else s.p i) (fun i k => if (false && k == slot) = true then some (b, x) else s.V i k) s.log s.round = s
  rw [h1, h2]
theorem turn_self (s : PX ByteArray) (who : Nat) : s.turn who (s.round who) = s := by
  have : (fun i => if i = who then s.round who else s.round i) = s.round := by
    funext i
    by_cases h : i = who
    · rw [if_pos h, h]
    · rw [if_neg h]
  show PX.mk s.p s.V s.log (fun i => if i = who then s.round who else s.round i) = s
  rw [this]
section
variable {w w' W : World} {q : QP} {X I Y : Nat → Prop} {f : Lit → Option Value} {n B k who tb zb slot rb rd i ih m : Nat} {s : PX ByteArray} {b : Int} {G : ByteArray → Prop} {w1 : World}
theorem start1 (g0 : IsQ W q (fun j => X j ∨ Y j) I f n s) (qx : ∀ j, QF q I j → X j) (hB : B ≤ W.heap.size) (xb : ∀ j, X j → B ≤ j) (hy : ∀ j, Y j → ¬ X j) (hr : s.round who ≤ k) (ht : W.cell? ⟨tb, 0, none⟩ = some (.slice none 0 0)) (htf : W.frozen? ⟨tb, 0, none⟩ = false) (hz : W.cell? ⟨zb, 0, none⟩ = some (.slice none 0 0)) (hzf : W.frozen? ⟨zb, 0, none⟩ = false)
    (hXt : X tb ∧ ¬ QF q I tb) (hXz : X zb ∧ ¬ QF q I zb) (hne : tb ≠ zb) (slot : Nat) (b : Int) : ∀ w1, Below W.heap.size W w1 → W.heap.size < w1.heap.size → JA1 B k who Y W W.heap.size q s tb zb slot b I f n 0 0 w1 := fun w1 hb hlt => by
  have kt := hb.block tb (World.block_lt_of_cell? _ _ ht)
  have kz := hb.block zb (World.block_lt_of_cell? _ _ hz)
  have hg : IsQ w1 q (fun j => X j ∨ Y j) I f n ((s.prep (fun _ => false) b).turn who (s.round who)) := by
    rw [prep_none, turn_self]
    exact g0.below hb
  refine ⟨X, s.round who, fun _ => false, [], .slice none 0 0, [], ⟨⟨hg, qx, hB, ⟨hb.os, hb.tape, hb.output, hb.size, fun j hj => hb.block j (Nat.lt_of_lt_of_le hj hB)⟩, xb, fun j hj => ⟨hy j hj, g0.xl j (.inr hj), hb.block j (g0.xl j (.inr hj))⟩, ⟨fun e => Nat.lt_irrefl _ (g0.xl _ (.inl e)), hlt⟩, Nat.le_refl _, hr⟩, fun j hj => (by cases hj), ⟨none, 0, 0, (World.cell?_of_block (a := ⟨tb, 0, none⟩) kt).trans ht⟩, (World.frozen?_of_block (a := ⟨tb, 0, none⟩) kt).trans htf, (World.cell?_of_block (a := ⟨zb, 0, none⟩) kz).trans hz, (World.frozen?_of_block (a := ⟨zb, 0, none⟩) kz).trans hzf, ⟨rfl, .inl ⟨rfl, rfl⟩⟩, ⟨rfl, rfl⟩, List.nodup_nil, fun j hj => by simp at hj, fun a j hj => by simp at hj, fun j hj => ?_, hne, by simp [Value.ownBlock], by simp [Value.ownBlock]⟩⟩
  rcases hj with rfl | rfl | hj
  · exact hXt
  · exact hXz
  · simp [Value.ownBlock] at hj
theorem start2 (g0 : IsQ W q (fun j => X j ∨ Y j) I f n (s.turn who rd)) (qx : ∀ j, QF q I j → X j) (hB : B ≤ W.heap.size) (xb : ∀ j, X j → B ≤ j) (hy : ∀ j, Y j → ¬ X j) (h0 : s.round who ≤ rd) (h1 : rd ≤ k) (slot : Nat) (b : Int) (x : ByteArray) : ∀ w1, Below W.heap.size W w1 → W.heap.size < w1.heap.size → JA2 B k who Y W W.heap.size q s slot b x n 0 0 w1 := fun w1 hb hlt => by
  have hg : IsQ w1 q (fun j => X j ∨ Y j) I f n ((s.acc (fun _ => false) b slot x).turn who rd) := by
    rw [acc_none]
    exact g0.below hb
  exact ⟨X, I, f, n, rd, fun _ => false, [], ⟨⟨hg, qx, hB, ⟨hb.os, hb.tape, hb.output, hb.size, fun j hj => hb.block j (Nat.lt_of_lt_of_le hj hB)⟩, xb, fun j hj => ⟨hy j hj, g0.xl j (.inr hj), hb.block j (g0.xl j (.inr hj))⟩, ⟨fun e => Nat.lt_irrefl _ (g0.xl _ (.inl e)), hlt⟩, h0, h1⟩, Nat.le_refl _, fun j hj => (by cases hj), rfl, List.nodup_nil, fun j hj => by simp at hj⟩⟩
theorem sets_of {P : Nat → Bool} {H : List Nat} {sv : Value} {vals : List Value} (h : J1 B k who Y w1 rb q s tb zb slot b I f n i ih m W X rd P H sv vals) : Sets W sv (H.map fun j => votesTo (vt (s.V j)) (slot : Int) 4096) := by
  refine ⟨vals, by rw [List.length_map, h.hm.1, h.hm.2], by rw [List.length_map, h.hm.1]; exact h.row, fun a l hl => ?_⟩
  rw [List.getElem?_map, Option.map_eq_some_iff] at hl
  obtain ⟨j, hj, rfl⟩ := hl
  obtain ⟨x, hx, ho⟩ := h.rows a j hj
  exact ⟨x, hx, ho.1⟩
/-- The round is told, and the proposal is over. -/
theorem fin_turn (g : IsQ W q X I f n (s.turn who rd)) (hw : who < 3) (xb : ∀ j, X j → B ≤ j) (hn : n ≤ 3 * (k + 1)) (hp : PB G (s.turn who (rd + 1)) (k + 1)) : QS G B (k + 1) q.gb (W.setCell ⟨q.nb who, 3, none⟩ (.int .i64 ((rd + 1 : Nat) : Int))) := by
  have g' := g.turn hw (rd + 1)
  rw [PX.turn_turn] at g'
  exact ⟨q, X, I, f, n, _, rfl, g', xb, hn, hp⟩
/-- A node's log is another row. -/
theorem IsQ.learn (h : IsQ w q X I f n s) (hi : i < 3) {v' : Value} {l : List ByteArray} (hm : Moves (fun j => (q.lv i).ownBlock = some j) w w') (row : w'.ownsRow 0 9 1 v' l.length (srows l)) (hob : ∀ j, v'.ownBlock = some j → (q.lv i).ownBlock = some j ∨ w.heap.size ≤ j) :
    IsQ (w'.setCell ⟨q.nb i, 2, none⟩ v') { q with lv := fun j => if j = i then v' else q.lv j } (fun j => X j ∨ v'.ownBlock = some j) I f n (s.learn i l) := by
  obtain ⟨col, hc⟩ := h.col
  have hlt := h.lt
  have hm2 : Moves (fun j => (q.lv i).ownBlock = some j ∨ j = q.nb i) w (w'.setCell ⟨q.nb i, 2, none⟩ v') := (hm.mono fun j _ e => .inl e).setCell ⟨q.nb i, 2, none⟩ v' (.inl (.inr rfl))
  have hoth : ∀ j, QF q I j → col j ≠ 30 + i → col j ≠ 10 + i → (w'.setCell ⟨q.nb i, 2, none⟩ v').heap[j]? = w.heap[j]? := fun j hj h1 h2 => hm2.block j (hlt j hj) fun e => by
    rcases e with e | e
    · exact h1 (hc.v i j hi e)
    · exact h2 (e ▸ hc.n i hi)
  have hnb : ∀ j, j < 3 → w'.heap[q.nb j]? = w.heap[q.nb j]? := fun j hj => hm.block _ (hlt _ (.inr (.inr (.inl ⟨j, hj, rfl⟩)))) fun e => by
    have h1 := hc.v i _ hi e
    rw [hc.n j hj] at h1
    omega
  have kc : ∀ j, j < 3 → ∀ o v, o ≠ 2 → w.cell? ⟨q.nb j, o, none⟩ = some v → (w'.setCell ⟨q.nb i, 2, none⟩ v').cell? ⟨q.nb j, o, none⟩ = some v := fun j hj o v ho hv => by
    have hv' : w'.cell? ⟨q.nb j, o, none⟩ = some v := (World.cell?_of_block (a := ⟨q.nb j, o, none⟩) (hnb j hj)).trans hv
    by_cases e : q.nb j = q.nb i
    · rw [e] at hv' ⊢; rw [oth_cell _ _ _ ho]; exact hv'
    · rw [oth_blk _ _ _ _ e]; exact hv'
  have hrow : ∀ j, v'.ownBlock = some j → j ≠ q.nb i := fun j hj e => by
    rcases hob j hj with h1 | h1
    · have h2 := hc.v i j hi h1
      rw [e, hc.n i hi] at h2
      omega
    · have := hlt _ (.inr (.inr (.inl ⟨i, hi, e⟩)))
      omega
  refine ⟨(World.cell?_of_block (a := ⟨q.gb, 0, none⟩) (hoth q.gb (.inl rfl) (by rw [hc.g]; omega) (by rw [hc.g]; omega))).trans h.c0, fun j hj => (World.cell?_of_block (a := ⟨q.gl, j, none⟩) (hoth q.gl (.inr (.inl rfl)) (by rw [hc.l]; omega) (by rw [hc.l]; omega))).trans (h.row j hj), fun j hj => kc j hj 0 _ (by omega) (h.n0 j hj), fun j hj => kc j hj 1 _ (by omega) (h.n1 j hj), fun j hj => ?_, fun j hj => kc j hj 3 _ (by omega) (h.n3 j hj), fun j hj o => by rw [World.frozen?_setCell]; exact (World.frozen?_of_block (a := ⟨q.nb j, o, none⟩) (hnb j hj)).trans (h.fro j hj o), fun j hj => ?_, fun j hj => ?_, h.gv.keep hm2.size fun j hj => ?_, fun j hj => ?_, fun j hj => ?_, ⟨fun j => if w.heap.size ≤ j then 30 + i else col j, ?_⟩⟩
  · show (w'.setCell ⟨q.nb i, 2, none⟩ v').cell? ⟨q.nb j, 2, none⟩ = some (if j = i then v' else q.lv j)
    by_cases e : j = i
    · subst e
      rw [if_pos rfl]
      exact World.cell?_setCell_same _ _ _ ((World.cell?_of_block (a := ⟨q.nb j, 2, none⟩) (hnb j hj)).trans (h.n2 j hj))
    · rw [if_neg e, oth_blk _ _ _ _ (fun e2 => by have h1 := hc.n j hj; rw [e2, hc.n i hi] at h1; omega)]
      exact (World.cell?_of_block (a := ⟨q.nb j, 2, none⟩) (hnb j hj)).trans (h.n2 j hj)
  · obtain ⟨A, g1, g2⟩ := h.acc j hj
    refine ⟨A, g1.keep (hoth _ (.inr (.inr (.inr (.inl ⟨j, hj, rfl⟩)))) (by rw [hc.a j hj]; omega) (by rw [hc.a j hj]; omega)) fun a x hx => hm2.block _ (g1.vs a x hx).lt fun e => ?_, fun a x hx e => ?_⟩
    · refine g2 a x hx (h.xs _ ?_)
      rcases e with e | e
      · exact .inr (.inr (.inr (.inr (.inl ⟨i, hi, e⟩))))
      · exact .inr (.inr (.inl ⟨i, hi, e⟩))
    · rcases e with e | e
      · exact g2 a x hx e
      · rcases hob _ e with h1 | h1
        · exact g2 a x hx (h.xs _ (.inr (.inr (.inr (.inr (.inl ⟨i, hi, h1⟩))))))
        · have := (g1.vs a x hx).lt
          omega
  · show (w'.setCell ⟨q.nb i, 2, none⟩ v').ownsRow 0 9 1 (if j = i then v' else q.lv j) (if j = i then l else s.log j).length (srows (if j = i then l else s.log j))
    by_cases e : j = i
    · rw [if_pos e, if_pos e]
      exact ownsRow_keep row fun a ha => Below.heap_setCell _ _ _ _ (hrow a ha)
    · rw [if_neg e, if_neg e]
      exact ownsRow_keep (h.log j hj) fun a ha => hoth a (.inr (.inr (.inr (.inr (.inl ⟨j, hj, ha⟩))))) (by rw [hc.v j a hj ha]; omega) (by rw [hc.v j a hj ha]; omega)
  · rcases hj with e | e | e | e
    · rw [e]; exact hoth _ (.inl rfl) (by rw [hc.g]; omega) (by rw [hc.g]; omega)
    · rw [e]; exact hoth _ (.inr (.inr (.inr (.inr (.inr (.inl rfl)))))) (by rw [hc.m]; omega) (by rw [hc.m]; omega)
    · rw [e]; exact hoth _ (.inr (.inr (.inr (.inr (.inr (.inr (.inl rfl))))))) (by rw [hc.c]; omega) (by rw [hc.c]; omega)
    · exact hoth _ (.inr (.inr (.inr (.inr (.inr (.inr (.inr e))))))) (by rw [hc.i j e]; omega) (by rw [hc.i j e]; omega)
  · rcases hj with hj | hj | hj | hj | hj | hj
    · exact .inl (h.xs j (.inl hj))
    · exact .inl (h.xs j (.inr (.inl hj)))
    · exact .inl (h.xs j (.inr (.inr (.inl hj))))
    · exact .inl (h.xs j (.inr (.inr (.inr (.inl hj)))))
    · obtain ⟨a, ha, ho⟩ := hj
      by_cases e : a = i
      · replace ho : (if a = i then v' else q.lv a).ownBlock = some j := ho
        rw [if_pos e] at ho
        exact .inr ho
      · replace ho : (if a = i then v' else q.lv a).ownBlock = some j := ho
        rw [if_neg e] at ho
        exact .inl (h.xs j (.inr (.inr (.inr (.inr (.inl ⟨a, ha, ho⟩))))))
    · exact .inl (h.xs j (.inr (.inr (.inr (.inr (.inr hj))))))
  · rcases hj with hj | hj
    · exact Nat.lt_of_lt_of_le (h.xl j hj) hm2.size
    · have := (row.lt j hj).2
      simpa using this
  · have hold : ∀ j, QF q I j → (if w.heap.size ≤ j then 30 + i else col j) = col j := fun j hj => if_neg (by have := hlt j hj; omega)
    refine ⟨(hold _ (.inl rfl)).trans hc.g, (hold _ (.inr (.inl rfl))).trans hc.l, (hold _ (.inr (.inr (.inr (.inr (.inr (.inl rfl))))))).trans hc.m, (hold _ (.inr (.inr (.inr (.inr (.inr (.inr (.inl rfl)))))))).trans hc.c, fun j hj => (hold j (.inr (.inr (.inr (.inr (.inr (.inr (.inr hj)))))))).trans (hc.i j hj), fun a ha => (hold _ (.inr (.inr (.inl ⟨a, ha, rfl⟩)))).trans (hc.n a ha), fun a ha => (hold _ (.inr (.inr (.inr (.inl ⟨a, ha, rfl⟩))))).trans (hc.a a ha), fun a j ha ho => ?_⟩
    replace ho : (if a = i then v' else q.lv a).ownBlock = some j := ho
    by_cases e : a = i
    · rw [if_pos e] at ho
      subst e
      rcases hob j ho with h1 | h1
      · exact (hold j (.inr (.inr (.inr (.inr (.inl ⟨a, ha, h1⟩)))))).trans (hc.v a j ha h1)
      · exact if_pos h1
    · rw [if_neg e] at ho
      exact (hold j (.inr (.inr (.inr (.inr (.inl ⟨a, ha, ho⟩)))))).trans (hc.v a j ha ho)
end
end Go.Proofs.YtfjfkmoofmncnaaDoor
