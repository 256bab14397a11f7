/- The bag and the reference in a law: the other methods. -/
import Derived.Test.YtibpkdaiaoccjaaBagI
import Derived.Test.YtibpkdaiaoccjaaBag1
import Derived.Test.YtibpkdaiaoccjaaBagG
namespace Go.Proofs.Ytibpkdaiaoccjaa
open Go.RowKit
section
variable {F : Frame} {w : World} {b c : Nat} {l lr : List Ms}
theorem BB.klt (h : BB F w b c l lr) {k : Nat} (hk : F.K k) : k < w.heap.size := by
  obtain ⟨_, _, _, _, _, _, _, hb⟩ := h
  exact (hb.2 k hk).1
theorem BB.more {K' : Nat → Prop} {w' : World} (h : BB F w b c l lr) (hbw : Below w.heap.size w w') (hK : ∀ k, K' k → k < w'.heap.size ∧ (F.K k ∨ w.heap.size ≤ k)) : BB { F with K := K', wk := w' } w' b c l lr :=
  h.moved (Moves.of_below (F := fun _ => False) hbw) (fun _ hk => hk.elim) hK
theorem BB.less {K : Nat → Prop} {wk : World} (h : BB F w b c l lr) (hK : ∀ k, K k → F.K k ∧ F.wk.heap[k]? = wk.heap[k]?) : BB { F with K := K, wk := wk } w b c l lr := by
  obtain ⟨v, vr, h1, h2, f1, f2, hd, hb⟩ := h
  exact ⟨v, vr, h1, h2, fun k hk => ⟨(f1 k hk).1, fun hk' => (f1 k hk).2 (hK k hk').1⟩, fun k hk => ⟨(f2 k hk).1, fun hk' => (f2 k hk).2 (hK k hk').1⟩, hd, hb.1, fun k hk => ⟨(hb.2 k (hK k hk).1).1, (hb.2 k (hK k hk).1).2.trans (hK k hk).2⟩⟩
theorem BB.row {base : Nat} {e : TypeId} {size n : Nat} {u : Value} {xs : List Value} (h : BB F w b c l lr) (ho : F.wk.ownsRow base e size u n xs) (hK : ∀ k, u.ownBlock = some k → F.K k) : w.ownsRow base e size u n xs :=
  ownsRow_keep ho fun k hk => h.kept (hK k hk)
theorem BB.rtake (h : BB F w b c l lr) (hl : lr.length ≤ 64) (i : Int) :
    Calls Try.prog 35 #[.pointer (some ⟨c, 0, none⟩), .int .i64 i] w fun e w' => e = .returned (.tuple #[(atM lr i).val, .int .i64 (if atB lr i then 0 else 3)]) ∧ BB F w' b c l (takeL lr i) := by
  obtain ⟨v, vr, h1, h2, f1, f2, hd, hb⟩ := h
  exact (rtake_any h2 hl i).mono fun e w' ⟨he, hT⟩ => ⟨he, .stepR h1 h2 f1 f2 hd hb hT⟩
theorem BB.drop (h : BB F w b c l lr) (hl : l.length ≤ 64) (i : Int) :
    Calls Try.prog 22 #[.pointer (some ⟨b, 0, none⟩), .int .i64 i] w fun e w' => e = .returned (.int .i64 (if atB l i then 0 else 3)) ∧ BB F w' b c (takeL l i) lr := by
  obtain ⟨v, vr, h1, h2, f1, f2, hd, hb⟩ := h
  exact (bdrop_any h1 hl i).mono fun e w' ⟨he, hT⟩ => ⟨he, .stepB h1 h2 f1 f2 hd hb hT⟩
theorem BB.rdrop (h : BB F w b c l lr) (hl : lr.length ≤ 64) (i : Int) :
    Calls Try.prog 36 #[.pointer (some ⟨c, 0, none⟩), .int .i64 i] w fun e w' => e = .returned (.int .i64 (if atB lr i then 0 else 3)) ∧ BB F w' b c l (takeL lr i) := by
  obtain ⟨v, vr, h1, h2, f1, f2, hd, hb⟩ := h
  exact (rdrop_any h2 hl i).mono fun e w' ⟨he, hT⟩ => ⟨he, .stepR h1 h2 f1 f2 hd hb hT⟩
theorem BB.late (h : BB F w b c l lr) (hl : l.length ≤ 64) (i : Int) :
    Calls Try.prog 20 #[.pointer (some ⟨b, 0, none⟩), .int .i64 i] w fun e w' => e = .returned (.int .i64 (if atB l i then 0 else 3)) ∧ BB F w' b c (lateL l i) lr := by
  obtain ⟨v, vr, h1, h2, f1, f2, hd, hb⟩ := h
  exact (late_any h1 hl i).mono fun e w' ⟨he, hT⟩ => ⟨he, .stepB h1 h2 f1 f2 hd hb hT⟩
theorem BB.rlate (h : BB F w b c l lr) (hl : lr.length ≤ 64) (hck : ∀ m ∈ lr, m.check = 0) (i : Int) :
    Calls Try.prog 37 #[.pointer (some ⟨c, 0, none⟩), .int .i64 i] w fun e w' => e = .returned (.int .i64 (if atB lr i then 0 else 3)) ∧ BB F w' b c l (lateL lr i) := by
  obtain ⟨v, vr, h1, h2, f1, f2, hd, hb⟩ := h
  exact (rlate_any h2 hl hck i).mono fun e w' ⟨he, hT⟩ => ⟨he, .stepR h1 h2 f1 f2 hd hb hT⟩
theorem BB.cut (h : BB F w b c l lr) (hl : l.length ≤ 64) (z : Int) :
    Calls Try.prog 19 #[.pointer (some ⟨b, 0, none⟩), .int .i64 z] w fun e w' => e = .returned (.int .i64 ((l.length : Int) - ((keepL (wishOf z) 0 l).length : Int))) ∧ BB F w' b c (keepL (wishOf z) 0 l) lr := by
  obtain ⟨v, vr, h1, h2, f1, f2, hd, hb⟩ := h
  exact (bcut_any h1 hl z).mono fun e w' ⟨he, hT⟩ => ⟨he, .stepB h1 h2 f1 f2 hd hb hT⟩
theorem BB.rcut (h : BB F w b c l lr) (hl : lr.length ≤ 64) (z : Int) :
    Calls Try.prog 38 #[.pointer (some ⟨c, 0, none⟩), .int .i64 z] w fun e w' => e = .returned (.int .i64 ((lr.length : Int) - ((keepL (wishOf z) 0 lr).length : Int))) ∧ BB F w' b c l (keepL (wishOf z) 0 lr) := by
  obtain ⟨v, vr, h1, h2, f1, f2, hd, hb⟩ := h
  exact (rcut_any h2 hl z).mono fun e w' ⟨he, hT⟩ => ⟨he, .stepR h1 h2 f1 f2 hd hb hT⟩
theorem BB.fors (h : BB F w b c l lr) (hl : l.length ≤ 1000) (z : Int) :
    Calls Try.prog 18 #[.pointer (some ⟨b, 0, none⟩), .int .i64 z] w fun e w' => ∃ v', e = .returned v' ∧ w'.ownsRow w.heap.size 3 1 v' (forI z 0 l).length (icells (forI z 0 l)) ∧ BB F w' b c l lr ∧ Below w.heap.size w w' := by
  have h0 := h
  obtain ⟨v, vr, h1, h2, f1, f2, hd, hb⟩ := h
  exact (for_any h1.has hl z).mono fun e w' ⟨v', he, h3, h4⟩ => ⟨v', he, h3, h0.quiet h4, h4⟩
theorem BB.rfors (h : BB F w b c l lr) (hl : lr.length ≤ 1000) (z : Int) :
    Calls Try.prog 25 #[.pointer (some ⟨c, 0, none⟩), .int .i64 z] w fun e w' => ∃ v', e = .returned v' ∧ w'.ownsRow w.heap.size 3 1 v' (forI z 0 lr).length (icells (forI z 0 lr)) ∧ BB F w' b c l lr ∧ Below w.heap.size w w' := by
  have h0 := h
  obtain ⟨v, vr, h1, h2, f1, f2, hd, hb⟩ := h
  exact (rfor_any h2 hl z).mono fun e w' ⟨v', he, h3, h4⟩ => ⟨v', he, h3, h0.quiet h4, h4⟩
end
end Go.Proofs.Ytibpkdaiaoccjaa
