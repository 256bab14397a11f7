/- TopMessages: its arguments, the bag and the row of texts that were sent. -/
import Derived.Test.YtkbncbkmaakpkaaDoorDec
import Derived.Test.YtkbncbkmaakpkaaDoorMsgArg
import Derived.Test.YtkbncbkmaakpkaaDoorMsEq
namespace Go.Proofs.YtkbncbkmaakpkaaDoor
open Go.ChangeShapes Go.WideShapes Go.ChangeAt Go.RowKit
set_option maxRecDepth 100000 in
theorem open_msgs {H : Type} {enc : TypeId × Value → H} {w : World} {r0 : Reach} {b0 : Nat} {v : Value} {d : DataW H} {ps : List MemPlace}
    (hval : Value.okWide Tryd.prog w r0 b0 41 v) (hd : DataW.Trod enc Tryd.prog w 0 (fun _ => true) true 41 v d ps) : ∃ l : List Ms, ArgRow w v 8 (l.map Ms.cells) ∧ ∀ m ∈ l, m.fits := by
  have h8 : Tryd.prog.cellsOf 51 = 8 := by kernel_rfl
  obtain ⟨rows, h1, h2⟩ := open_rows Tryd.underlying41 h8 (by decide) hval hd
  obtain ⟨l, rfl, hl⟩ := rows_map (Q := Ms.fits) (f := Ms.cells) rows (fun r hr => by
    obtain ⟨hlen, n, x, hx⟩ := h2 r hr
    obtain ⟨s, h3, h4⟩ := trod_msg hlen hx
    exact ⟨s, h3, h4⟩)
  exact ⟨l, h1, hl⟩
def pcell (n : Nat) : List Value := [.int .u8 (n : Int)]
set_option maxRecDepth 100000 in
theorem open_picks {H : Type} {enc : TypeId × Value → H} {w : World} {r0 : Reach} {b0 : Nat} {v : Value} {d : DataW H} {ps : List MemPlace}
    (hval : Value.okWide Tryd.prog w r0 b0 42 v) (hd : DataW.Trod enc Tryd.prog w 0 (fun _ => true) true 42 v d ps) : ∃ l : List Nat, ArgRow w v 1 (l.map pcell) ∧ ∀ n ∈ l, n < 256 := by
  have h8 : Tryd.prog.cellsOf 5 = 1 := by kernel_rfl
  obtain ⟨rows, h1, h2⟩ := open_rows Tryd.underlying42 h8 (by decide) hval hd
  obtain ⟨l, rfl, hl⟩ := rows_map (Q := fun n : Nat => n < 256) (f := pcell) rows (fun r hr => by
    obtain ⟨_, n, x, hx⟩ := h2 r hr
    obtain ⟨z, h3, _, h4⟩ := DataW.trod_int Tryd.underlying5 hx
    have hb := bounds_u8 h4
    obtain ⟨k, rfl⟩ := Int.eq_ofNat_of_zero_le hb.1
    exact ⟨k, by omega, h3⟩)
  exact ⟨l, h1, hl⟩
theorem ArgRow.mslice {w : World} {v : Value} {l : List Ms} (h : ArgRow w v 8 (l.map Ms.cells)) : ∃ base cap, v = .slice base l.length cap ∧ l.length ≤ maxLen := by
  obtain ⟨base, cap, hv, hm, _⟩ := h
  simp only [List.length_map] at hv hm
  exact ⟨base, cap, hv, hm⟩
theorem ArgRow.mat {w : World} {v : Value} {l : List Ms} (h : ArgRow w v 8 (l.map Ms.cells)) {k : Nat} {s : Ms} (hk : l[k]? = some s) :
    ∃ b off cap, v = .slice (some ⟨b, off, none⟩) l.length cap ∧ b < w.heap.size ∧ ∀ j x, s.cells[j]? = some x → w.cell? ⟨b, off + k * 8 + j, none⟩ = some x := by
  obtain ⟨base, cap, hv, hm, hr⟩ := h
  obtain ⟨b, off, rfl, h2, h3⟩ := hr k s.cells (by rw [List.getElem?_map, hk]; rfl)
  exact ⟨b, off, cap, by rw [hv, List.length_map], h2, h3⟩
theorem ArgRow.pslice {w : World} {v : Value} {l : List Nat} (h : ArgRow w v 1 (l.map pcell)) : ∃ base cap, v = .slice base l.length cap ∧ l.length ≤ maxLen := by
  obtain ⟨base, cap, hv, hm, _⟩ := h
  simp only [List.length_map] at hv hm
  exact ⟨base, cap, hv, hm⟩
theorem ArgRow.pat {w : World} {v : Value} {l : List Nat} (h : ArgRow w v 1 (l.map pcell)) {k : Nat} {s : Nat} (hk : l[k]? = some s) :
    ∃ b off cap, v = .slice (some ⟨b, off, none⟩) l.length cap ∧ b < w.heap.size ∧ w.cell? ⟨b, off + k, none⟩ = some (.int .u8 (s : Int)) := by
  obtain ⟨base, cap, hv, hm, hr⟩ := h
  obtain ⟨b, off, rfl, h2, h3⟩ := hr k (pcell s) (by rw [List.getElem?_map, hk]; rfl)
  have := h3 0 _ rfl
  rw [Nat.mul_one, Nat.add_zero] at this
  exact ⟨b, off, cap, by rw [hv, List.length_map], h2, this⟩
/-- What is sent for a message. -/
def sealOf (m : Ms) : ByteArray := bstr (sealB (encM m))
def srows (l : List Ms) : List Value := l.map fun m => .string (sealOf m)
theorem len_srows (l : List Ms) : (srows l).length = l.length := by simp [srows]
theorem one_srows (l : List Ms) : ∀ v ∈ srows l, v.oneCell' = true := by
  intro v hv
  obtain ⟨m, _, rfl⟩ := List.mem_map.1 hv
  rfl
theorem srows_app (a b : List Ms) : srows (a ++ b) = srows a ++ srows b := by simp [srows]
/-- The bag with LB in it, the row with LS's texts. -/
structure TM (w0 wr : World) (bb : Nat) (sv : Value) (LB LS : List Ms) : Prop where
  row : wr.ownsRow w0.heap.size 9 1 sv LS.length (srows LS)
  bag : ∃ v, IsBag wr bb v LB ∧ ∀ k, bfp bb v k → w0.heap.size ≤ k ∧ sv.ownBlock ≠ some k
  bel : Below w0.heap.size w0 wr
section
variable {w0 wr w' : World} {bb : Nat} {sv sv' : Value} {LB LB' LS LS' : List Ms}
theorem TM.more (h : TM w0 wr bb sv LB LS) (hb : Below wr.heap.size wr w') : TM w0 w' bb sv LB LS := by
  obtain ⟨v, h1, h2⟩ := h.bag
  exact ⟨ownsRow_keep h.row fun k hk => hb.block k (h.row.lt k hk).2, ⟨v, h1.below hb, h2⟩, h.bel.trans (hb.mono h.bel.size)⟩
theorem TM.turned {v : Value} (h : TM w0 wr bb sv LB LS) (h1 : IsBag wr bb v LB) (h2 : ∀ k, bfp bb v k → w0.heap.size ≤ k ∧ sv.ownBlock ≠ some k) (hT : Turned wr bb v LB' w') : TM w0 w' bb sv LB' LS := by
  obtain ⟨v', t1, t2, t3, t4⟩ := hT
  refine ⟨ownsRow_keep h.row fun k hk => t2.block k (h.row.lt k hk).2 fun hf => (h2 k hf).2 hk, ⟨v', ⟨t1, (t4 1 (by decide)).trans h1.most⟩, fun k hk => ?_⟩, h.bel.trans (t2.below h.bel.size fun k hk => (h2 k hk).1)⟩
  rcases t3 k hk with h3 | h3
  · exact h2 k h3
  · exact ⟨Nat.le_trans h.bel.size h3, fun e => by have := (h.row.lt k e).2; omega⟩
theorem TM.send (h : TM w0 wr bb sv LB LS) (hl : LB.length ≤ 64) (m : Ms) (hm : m.fits) :
    Calls Tryd.prog 18 #[.pointer (some ⟨bb, 0, none⟩), m.val] wr fun e w' => e = .returned (.int .i64 (sendE LB m)) ∧ TM w0 w' bb sv (sendS LB m) LS := by
  obtain ⟨v, h1, h2⟩ := h.bag
  exact (send_any h1 hl m hm).mono fun e w' hh => ⟨hh.1, h.turned h1 h2 hh.2⟩
/-- The same behind what only made blocks: what was made keeps. -/
theorem TM.sendB (h : TM w0 wr bb sv LB LS) (hb : Below wr.heap.size wr w') (hl : LB.length ≤ 64) (m : Ms) (hm : m.fits) :
    Calls Tryd.prog 18 #[.pointer (some ⟨bb, 0, none⟩), m.val] w' fun e w2 => e = .returned (.int .i64 (sendE LB m)) ∧ TM w0 w2 bb sv (sendS LB m) LS ∧ ∀ q, wr.heap.size ≤ q → q < w'.heap.size → w2.heap[q]? = w'.heap[q]? := by
  obtain ⟨v, h1, h2⟩ := h.bag
  refine (send_any (h1.below hb) hl m hm).mono fun e w2 hh => ⟨hh.1, (h.more hb).turned (h1.below hb) h2 hh.2, fun q hq hq2 => ?_⟩
  obtain ⟨v', t1, t2, t3, t4⟩ := hh.2
  exact t2.block q hq2 fun hf => by have := h1.has.lt q hf; omega
theorem IsF.keep {w w' : World} {q : Nat} {e i : Int} (h : IsF w q e i) (hk : w'.heap[q]? = w.heap[q]?) : IsF w' q e i :=
  ⟨(World.cell?_of_block (a := ⟨q, 0, none⟩) hk).trans h.c0, (World.cell?_of_block (a := ⟨q, 1, none⟩) hk).trans h.c1, (World.cell?_of_block (a := ⟨q, 2, none⟩) hk).trans h.c2⟩
theorem TM.take (h : TM w0 wr bb sv LB LS) (hl : LB.length ≤ 64) (i : Int) :
    Calls Tryd.prog 19 #[.pointer (some ⟨bb, 0, none⟩), .int .i64 i] wr fun e w' => e = .returned (.tuple #[(atM LB i).val, .int .i64 (if atB LB i then 0 else 3)]) ∧ TM w0 w' bb sv (if atB LB i then LB.eraseIdx i.toNat else LB) LS := by
  obtain ⟨v, h1, h2⟩ := h.bag
  exact (btake_any h1 hl i).mono fun e w' hh => ⟨hh.1, h.turned h1 h2 hh.2⟩
theorem TM.grown (h : TM w0 wr bb sv LB LS) (hg : wr.grownBy w' sv.ownBlock) (ho : w'.ownsRow w0.heap.size 9 1 sv' LS'.length (srows LS')) (hor : sv'.ownBlock = sv.ownBlock ∨ sv'.ownBlock = some wr.heap.size) : TM w0 w' bb sv' LB LS' := by
  obtain ⟨v, h1, h3⟩ := h.bag
  have h2 := h.bel
  refine ⟨ho, ⟨v, ⟨h1.has.keeps fun k hk => hg.block k (h1.has.lt k hk) fun e => (h3 k hk).2 e.symm, (World.cell?_of_block (a := ⟨bb, 1, none⟩) (hg.block bb (h1.has.lt bb (.inl rfl)) fun e => (h3 bb (.inl rfl)).2 e.symm)).trans h1.most⟩, fun k hk => ⟨(h3 k hk).1, fun e => ?_⟩⟩, ⟨hg.os.trans h2.os, hg.tape.trans h2.tape, hg.output.trans h2.output, Nat.le_trans h2.size hg.size, fun k hk => ?_⟩⟩
  · rcases hor with h5 | h5
    · exact (h3 k hk).2 (h5 ▸ e)
    · rw [h5] at e
      obtain rfl : wr.heap.size = k := by cases e; rfl
      have := h1.has.lt _ hk; omega
  · exact (hg.block k (Nat.lt_of_lt_of_le hk h2.size) fun e => by have := (h.row.lt k e.symm).1; omega).trans (h2.block k hk)
/-- The row is another one, made since. -/
theorem TM.renew (h : TM w0 wr bb sv LB LS) (hb : Below wr.heap.size wr w') (ho : w'.ownsRow wr.heap.size 9 1 sv' LS'.length (srows LS')) : TM w0 w' bb sv' LB LS' := by
  obtain ⟨v, h1, h2⟩ := h.bag
  exact ⟨ownsRow_base ho fun k hk => Nat.le_trans h.bel.size (ho.lt k hk).1, ⟨v, h1.below hb, fun k hk => ⟨(h2 k hk).1, fun e => by have := (ho.lt k e).1; have := h1.has.lt k hk; omega⟩⟩, h.bel.trans (hb.mono h.bel.size)⟩
theorem TM.at (h : TM w0 wr bb sv LB LS) {k : Nat} {m : Ms} (hk : LS[k]? = some m) : ∃ g cap, sv = .slice (some ⟨g, 0, none⟩) LS.length cap ∧ LS.length ≤ cap ∧ wr.cell? ⟨g, k, none⟩ = some (.string (sealOf m)) := by
  obtain ⟨a, cap, h1, h2, _, h3⟩ := ownsRow_slice h.row
  have hlt := (List.getElem?_eq_some_iff.1 hk).1
  obtain ⟨g, rfl⟩ := h3 (by omega)
  subst h1
  have := World.ownsRow.cells h.row (g := g) rfl k (.string (sealOf m)) (by simp [srows, hk])
  rw [Addr.add_mid, Nat.zero_add] at this
  exact ⟨g, cap, rfl, h2, this⟩
end
end Go.Proofs.YtkbncbkmaakpkaaDoor
