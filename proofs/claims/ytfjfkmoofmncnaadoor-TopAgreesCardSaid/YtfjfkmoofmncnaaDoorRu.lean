/- The reference's New, Do (whole), Replay. -/
import Derived.Test.YtfjfkmoofmncnaaDoorRq
import Derived.Test.YtfjfkmoofmncnaaDoorRt
import Derived.Test.YtfjfkmoofmncnaaDoorRp
namespace Go.Proofs.YtfjfkmoofmncnaaDoor
open Go.RowKit
theorem holds_none : holdsOf (fun _ _ => 0) = [] := List.eq_nil_iff_forall_not_mem.2 fun h hm => by
  have h1 := (mem_holds hm).2
  have h2 : (0 : Nat) = h.m := h1.all h.a (Nat.le_refl _) h1.lt
  exact h1.m h2.symm
section
variable {w w' : World} {p : RP} {s : GS}
theorem rdo_any (h : IsRS w p s) (hs : s.Ok) (c : Cm) : Calls Tryd.prog 40 #[.pointer (some ⟨p.b, 0, none⟩), c.val] w (RKPost w p (s.do c)) := by
  by_cases h0 : c.kind < 1 ∨ 8 < c.kind
  · exact rdo0 h hs c h0
  · rcases (by omega : c.kind = 1 ∨ c.kind = 2 ∨ c.kind = 3 ∨ c.kind = 4 ∨ c.kind = 5 ∨ c.kind = 6 ∨ c.kind = 7 ∨ c.kind = 8) with e | e | e | e | e | e | e | e
    · exact rdo1 h hs c e
    · exact rdo2 h hs c e
    · exact rdo3 h hs c e
    · exact rdo4 h hs c e
    · exact rdo5 h hs c e
    · exact rdo6 h hs c e
    · exact rdo7 h hs c e
    · exact rdo8 h hs c e
/-- A service whose last row grows. -/
structure NSI (w W : World) (B b tb kb gt gs gd ct : Nat) (ov : Value) (k : Nat) : Prop where
  c0 : W.cell? ⟨b, 0, none⟩ = some (.pointer (some ⟨tb, 0, none⟩))
  c1 : W.cell? ⟨b, 1, none⟩ = some (.pointer (some ⟨kb, 0, none⟩))
  c2 : W.cell? ⟨b, 2, none⟩ = some (.slice none 0 0)
  c3 : W.cell? ⟨b, 3, none⟩ = some (.int .i64 0)
  c4 : W.cell? ⟨b, 4, none⟩ = some ov
  fb : ∀ o, W.frozen? ⟨b, o, none⟩ = false
  tab : IsRT W tb (.slice none 0 0) []
  book : IsRB W kb gt gs gd ct (fun _ => ⟨-1, 0, false⟩)
  row : W.ownsRow B 3 1 ov k (List.replicate k (.int .i64 (-1)))
  ord : w.heap.size ≤ tb ∧ (∀ q, fpR kb gt gs gd q → tb < q ∧ q < b) ∧ tb < b ∧ b < B ∧ B ≤ W.heap.size
  bl : Below w.heap.size w W
theorem NSI.step {w W w5 : World} {B b tb kb gt gs gd ct k : Nat} {ov v5 : Value} (h : NSI w W B b tb kb gt gs gd ct ov k) (o : Obj) (hg : (W.alloc o).grownBy w5 ov.ownBlock) (hr : w5.ownsRow B 3 1 v5 (k + 1) (List.replicate k (.int .i64 (-1)) ++ [.int .i64 (-1)])) :
    (w5.cell? ⟨b, 4, none⟩ = some ov ∧ w5.frozen? ⟨b, 4, none⟩ = false) ∧ NSI w (w5.setCell ⟨b, 4, none⟩ v5) B b tb kb gt gs gd ct v5 (k + 1) := by
  obtain ⟨o1, o2, o3, o4, o5⟩ := h.ord
  have hk5 : ∀ q, q < B → w5.heap[q]? = W.heap[q]? := fun q hq => (hg.block q (by rw [World.size_alloc]; omega) (fun e => by have := (h.row.lt q e.symm).1; omega)).trans (Below.heap_alloc _ _ _ (by omega))
  have hks : ∀ q, q < B → q ≠ b → (w5.setCell ⟨b, 4, none⟩ v5).heap[q]? = W.heap[q]? := fun q hq hne => (Below.heap_setCell _ _ _ _ hne).trans (hk5 q hq)
  have hb5 := hk5 b o4
  have hc : ∀ j v, W.cell? ⟨b, j, none⟩ = some v → w5.cell? ⟨b, j, none⟩ = some v := fun j v h => (World.cell?_of_block (a := ⟨b, j, none⟩) hb5).trans h
  refine ⟨⟨hc _ _ h.c4, (World.frozen?_of_block (a := ⟨b, 4, none⟩) hb5).trans (h.fb 4)⟩, ?_⟩
  refine ⟨?_, ?_, ?_, ?_, World.cell?_setCell_same _ _ _ (hc _ _ h.c4), fun o => ?_, h.tab.keep fun q hq => hks q ?_ ?_, h.book.keep fun q hq => hks q ?_ ?_, ?_, ⟨o1, o2, o3, o4, ?_⟩, ?_⟩
  · rw [oth_cell _ _ _ (by omega)]; exact hc _ _ h.c0
  · rw [oth_cell _ _ _ (by omega)]; exact hc _ _ h.c1
  · rw [oth_cell _ _ _ (by omega)]; exact hc _ _ h.c2
  · rw [oth_cell _ _ _ (by omega)]; exact hc _ _ h.c3
  · rw [World.frozen?_setCell]; exact (World.frozen?_of_block (a := ⟨b, o, none⟩) hb5).trans (h.fb o)
  · rcases hq with rfl | hq
    · omega
    · cases hq
  · rcases hq with rfl | hq
    · omega
    · cases hq
  · have := o2 q hq; omega
  · have := o2 q hq; omega
  · rw [List.replicate_succ']
    exact ownsRow_setCell hr _ _ fun e => by have := (hr.lt _ e).1; have h3 : B ≤ b := this; omega
  · have := hg.size; rw [World.size_alloc] at this; rw [World.size_setCell]; omega
  · have h1 := h.bl.trans (((Below.refl W.heap.size W).alloc (Nat.le_refl _) o).mono h.bl.size)
    have h2 := ((Moves.of_below (F := fun q => q = b) h1).grown hg (fun q hq => .inr (by have := (h.row.lt q hq).1; omega))).setCell ⟨b, 4, none⟩ v5 (.inl rfl)
    exact h2.below (Nat.le_refl _) fun q hq => by rw [hq]; omega
set_option maxRecDepth 100000 in
set_option maxHeartbeats 4000000 in
theorem rnew_any : Calls Tryd.prog 38 #[] w fun e w' => ∃ p : RP, e = .returned (.pointer (some ⟨p.b, 0, none⟩)) ∧ IsRS w' p GS.new ∧ Below w.heap.size w w' ∧ ∀ k, fpS p k → w.heap.size ≤ k := by
  obtain ⟨i0, hi0, hz0, hz1, hz2⟩ := info_parts Tryd.infoI
  have Hi := Lib.hid hi0
  have Hz := Lib.hid hz0
  have Hz1 := Lib.hid hz1
  have Hz2 := Lib.hid hz2
  clear hi0 hz0 hz1 hz2
  have hnb := rnewbook_any (w := w.alloc (.cells #[.slice none 0 0] 50))
  have hbA : Below w.heap.size w (w.alloc (.cells #[.slice none 0 0] 50)) := (Below.refl _ _).alloc (Nat.le_refl _) _
  have htA : IsRT (w.alloc (.cells #[.slice none 0 0] 50)) w.heap.size (.slice none 0 0) [] := ⟨by rw [World.cell?_alloc_new]; rfl, fun o => World.frozen?_alloc_new _ _ _ _, World.ownsRow_nil _ _ _ _, by simp [Value.ownBlock]⟩
  have HBA := Lib.hid hbA
  have HTA := Lib.hid htA
  clear hbA htA
  go_enter Tryd.func38, Tryd.ntmps38
  go_upto_region 2 with (go_at_call 52
                         refine hnb.mono ?_
                         clear hnb
                         rintro e w1 ⟨kb, gt, gs, gd, ct, rfl, hB, hb1, hge⟩
                         have HB := Lib.hid hB
                         have HB1 := Lib.hid hb1
                         have HGE := Lib.hid hge
                         clear hB hb1 hge)
  obtain ⟨W2, hW2⟩ : ∃ W2, W2 = w1.alloc (.cells #[.pointer (some ⟨w.heap.size, 0, none⟩), .pointer (some ⟨kb, 0, none⟩), .slice none 0 0, .int .i64 0, .slice none 0 0] 55) := ⟨_, rfl⟩
  have hsA : (w.alloc (.cells #[.slice none 0 0] 50)).heap.size = w.heap.size + 1 := by simp
  have hb2 : Below w1.heap.size w1 W2 := by rw [hW2]; exact (Below.refl _ _).alloc (Nat.le_refl _) _
  have hs2 : W2.heap.size = w1.heap.size + 1 := by rw [hW2]; simp
  have hcs := fun j => World.cell?_alloc_new w1 #[.pointer (some ⟨w.heap.size, 0, none⟩), .pointer (some ⟨kb, 0, none⟩), .slice none 0 0, .int .i64 0, .slice none 0 0] 55 j
  have hfs := fun j => World.frozen?_alloc_new w1 #[.pointer (some ⟨w.heap.size, 0, none⟩), .pointer (some ⟨kb, 0, none⟩), .slice none 0 0, .int .i64 0, .slice none 0 0] 55 j
  have hN : NSI w W2 W2.heap.size w1.heap.size w.heap.size kb gt gs gd ct (.slice none 0 0) 0 := by
    refine ⟨?_, ?_, ?_, ?_, ?_, fun o => by rw [hW2]; exact hfs o, ?_, HB.out.below hb2, World.ownsRow_nil _ _ _ _, ?_, ?_⟩
    · rw [hW2]; exact (hcs 0).trans rfl
    · rw [hW2]; exact (hcs 1).trans rfl
    · rw [hW2]; exact (hcs 2).trans rfl
    · rw [hW2]; exact (hcs 3).trans rfl
    · rw [hW2]; exact (hcs 4).trans rfl
    · exact (HTA.out.below HB1.out).below hb2
    · refine ⟨Nat.le_refl _, fun q hq => ⟨by have := HGE.out q hq; omega, HB.out.lt q hq⟩, by have := HB1.out.size; omega, by omega, Nat.le_refl _⟩
    · exact HBA.out.trans ((HB1.out.trans (hb2.mono HB1.out.size)).mono HBA.out.size)
  obtain ⟨B, hB⟩ : ∃ B, B = W2.heap.size := ⟨_, rfl⟩
  rw [← hB] at hN
  have HN := Lib.hid hN
  have HW2 := Lib.hid hW2
  clear hsA hb2 hs2 hcs hfs hN hB hW2 HBA HTA HB HB1 HGE
  go_wp2_with fail
  rw [← HW2.out]
  clear HW2
  obtain ⟨b, hb⟩ : ∃ b, b = w1.heap.size := ⟨_, rfl⟩
  rw [← hb] at HN ⊢
  clear hb
  go_loopw [2] (fun i wr => ∃ (k : Nat) (ov : Value), k ≤ 8 ∧ i = .int .i64 (k : Int) ∧ NSI w wr B b w.heap.size kb gt gs gd ct ov k) (fun i _ => 8 - (intOf i).toNat)
  case atStart => exact ⟨0, _, Nat.zero_le _, rfl, HN.out⟩
  case round =>
    clear HN
    obtain ⟨k, ov, hk, rfl, hN⟩ := hrel
    by_cases hlt : k < 8
    · have e0 : decide ((k : Int) < 8) = true := by simp; omega
      obtain ⟨oa, oc, rfl⟩ := row_lens hN.row
      have c4 := hN.c4
      have hoA := World.ownsRow.alloc hN.row (.cells #[.int .i64 (-1)] 3)
      have hcl : ∀ j u, [Value.int .i64 (-1)][j]? = some u → (wr.alloc (.cells #[.int .i64 (-1)] 3)).cell? ((⟨wr.heap.size, 0, none⟩ : Addr).add j) = some u := fun j u hj => by
        rw [Addr.add_mid, Nat.zero_add, World.cell?_alloc_new]
        simpa using hj
      have hbs : B ≤ (wr.alloc (.cells #[.int .i64 (-1)] 3)).heap.size := by rw [World.size_alloc]; have := hN.ord.2.2.2.2; omega
      have HNN := Lib.hid hN
      have HOA := Lib.hid hoA
      have Hcl := Lib.hid hcl
      have HBS := Lib.hid hbs
      clear hoA hcl hbs hN
      go_wp2_with (refine wpList_append_own_at _ rfl (.tmp 16) (.tmp 17) 53 rfl B 3 i0 _ 1 8 Tryd.underlying53 Hi.out Hz.out Hz1.out Hz2.out rfl (by decide) _ k (List.replicate k (.int .i64 (-1))) rfl HOA.out ⟨wr.heap.size, 0, none⟩ 1 1 [.int .i64 (-1)] rfl rfl Hcl.out (by simp [Value.oneCell']) (by unfold maxLen; omega) (by omega) HBS.out ?_)
      intro v5 w5 hown5 hgrow _ _
      obtain ⟨va5, vc5, rfl⟩ := row_lens hown5
      obtain ⟨⟨c5, f5⟩, hN5⟩ := HNN.out.step _ hgrow hown5
      have HN5 := Lib.hid hN5
      clear hgrow hown5 hN5
      go_wp2_with fail
      go_roundw
      case rel => exact ⟨k + 1, _, by omega, by go_num, HN5.out⟩
      case measure => simp [intOf]; omega
    · have ek : k = 8 := by omega
      have e0 : decide ((k : Int) < 8) = false := by simp; omega
      subst ek
      have HN := Lib.hid hN
      clear hN
      go_wp2_with fail
      go_ret
      obtain ⟨g, cap, h2, -⟩ : ∃ g cap, ov = .slice (some ⟨g, 0, none⟩) 8 cap ∧ True := by
        rcases ownsRow_form HN.out.row with ⟨-, h1⟩ | ⟨g, cap, h1, _⟩
        · have := h1.1; omega
        · exact ⟨g, cap, h1, trivial⟩
      subst h2
      have hN := HN.out
      obtain ⟨o1, o2, o3, o4, o5⟩ := hN.ord
      have hgB : B ≤ g := (hN.row.lt g rfl).1
      refine ⟨⟨b, w.heap.size, kb, gt, gs, gd, ct, g, cap, .slice none 0 0, .slice none 0 0⟩, rfl, ⟨hN.c0, hN.c1, hN.c2, hN.c3, hN.c4, hN.fb, ?_, hN.book, World.ownsRow_nil _ _ _ _, fun c hc => ?_, fun o => World.ownsRow.frozenAt hN.row o, ?_⟩, hN.bl, fun q hq => ?_⟩
      · rw [show GS.new.R = fun _ _ => 0 from rfl, holds_none]; exact hN.tab
      · rw [World.ownsRow.cellAt hN.row c (by omega), List.getElem?_replicate, if_pos hc]
        rfl
      · refine ⟨fun q => if q = b then 0 else if q = w.heap.size then 1 else if q = g then 4 else 2, ?_, ?_, ?_, ?_, ?_, ?_⟩
        · exact if_pos rfl
        · show (if w.heap.size = b then 0 else if w.heap.size = w.heap.size then 1 else _) = 1
          rw [if_neg (by omega), if_pos rfl]
        · intro q hq; cases hq
        · intro q hq
          obtain ⟨h1, h2⟩ := o2 q hq
          show (if q = b then 0 else if q = w.heap.size then 1 else if q = g then 4 else 2) = 2
          rw [if_neg (by omega), if_neg (by omega), if_neg (by omega)]
        · intro q hq; cases hq
        · show (if g = b then 0 else if g = w.heap.size then 1 else if g = g then 4 else 2) = 4
          rw [if_neg (by omega), if_neg (by omega), if_pos rfl]
      · rcases hq with e | e | hq | hq | hq | e
        · have e2 : q = b := e; omega
        · have e2 : q = w.heap.size := e; omega
        · cases hq
        · have := o2 q hq; omega
        · cases hq
        · have e2 : q = g := e; omega
set_option maxRecDepth 100000 in
set_option maxHeartbeats 8000000 in
theorem rreplay_any (l : List Cm) (hl : l.length ≤ 1000) (hf : FitsAll l) {base : Nat} {v : Value} (ho : w.ownsRow base 9 1 v (texts l).length (srows (texts l))) :
    Calls Tryd.prog 12 #[v] w fun e w' => Below w.heap.size w w' ∧ ∃ p : RP, e = .returned (.pointer (some ⟨p.b, 0, none⟩)) ∧ IsRS w' p (GS.run l) := by
  obtain ⟨va, vc, rfl⟩ := row_lens ho
  have hlen : (texts l).length = l.length := List.length_map _
  have hnew := rnew_any (w := w)
  have HO := Lib.hid ho
  have HF := Lib.hid hf
  clear ho hf
  rw [hlen] at HO ⊢
  go_enter Tryd.func12, Tryd.ntmps12
  go_wp2_with (go_at_call 38
               refine hnew.mono ?_
               clear hnew
               rintro e w1 ⟨p, rfl, hS, hb1, hfp⟩
               have HS := Lib.hid hS
               have HB1 := Lib.hid hb1
               have HFP : Hid (∀ q, fpF p q → w.heap.size ≤ q) := Lib.hid fun q hq => hfp q (fpF_S hq)
               clear hS hb1 hfp)
  go_loopw [4, 5, 6] (fun i _ _ wr => ∃ (k : Nat) (tv wv : Value), k ≤ l.length ∧ i = .int .i64 (k : Int) ∧ IsRS wr { p with tv := tv, wv := wv } (GS.run (l.take k)) ∧ Below w.heap.size w wr) (fun i _ _ _ => l.length - (intOf i).toNat)
  case atStart => exact ⟨0, p.tv, p.wv, Nat.zero_le _, rfl, HS.out, HB1.out⟩
  case round =>
    clear HS HB1
    obtain ⟨k, tv, wv, hk, rfl, hS, hb⟩ := hrel
    by_cases hlt : k < l.length
    · obtain ⟨c, hc⟩ : ∃ c, l[k]? = some c := ⟨_, List.getElem?_eq_getElem hlt⟩
      have hfc := HF.out c (List.mem_of_getElem? hc)
      have hrun := GS.run_take l hc
      have hown : wr.ownsRow base 9 1 (.slice va l.length vc) l.length (srows (texts l)) := ownsRow_keep HO.out fun q hq => hb.block q (HO.out.lt q hq).2
      rcases ownsRow_form hown with ⟨h0, h1⟩ | ⟨g, cap, h0, _⟩
      · exfalso; have := h1.1; omega
      injection h0 with h01 h02 h03
      subst h01
      have hcell : wr.cell? ⟨g, k, none⟩ = some (.string (bstr (encC c))) := by
        have h := World.ownsRow.cells hown (g := g) rfl k (.string (bstr (encC c))) (by unfold srows texts; rw [List.getElem?_map, List.getElem?_map, hc]; rfl)
        rwa [Addr.add_mid, Nat.zero_add] at h
      have hde := rdecode_any (w := wr) c hfc
      have e0 : decide ((k : Int) < (l.length : Int)) = true := by simpa using hlt
      have hkz : (k : Int) < (l.length : Int) := by omega
      have hSok := GS.Ok.run (l.take k)
      generalize GS.run (l.take k) = s at hS hrun hSok
      have HS := Lib.hid hS
      have HB := Lib.hid hb
      have HR := Lib.hid hrun
      clear hS hb hrun hown h02 h03 hfc hc
      unfold Cm.val at hde
      go_wp2_with (first
        | (go_at_call 39
           refine hde.mono ?_
           clear hde
           rintro e w2 ⟨hb2, rfl⟩
           have hbA : Below w2.heap.size w2 (w2.alloc (.cells c.cells.toArray 114)) := (Below.refl _ _).alloc (Nat.le_refl _) _
           have hSA := (HS.out.below hb2).below hbA
           have hBA := HB.out.trans ((hb2.trans (hbA.mono hb2.size)).mono HB.out.size)
           have hdo := rdo_any hSA hSok c
           have HBA := Lib.hid hBA
           clear hSA hb2 hbA hBA
           unfold Cm.val Cm.cells at hdo
           unfold Cm.cells at HBA)
        | (go_at_call 40
           refine hdo.mono ?_
           clear hdo
           rintro e w3 ⟨⟨v, rfl, -⟩, tv3, wv3, hS3, hM3, -⟩
           have HS3 := Lib.hid hS3
           have HM3 := Lib.hid (Moves.below (F := fpF p) hM3 HBA.out.size HFP.out)
           clear hS3 hM3))
      go_roundw
      case rel => exact ⟨k + 1, tv3, wv3, by omega, by go_num, by rw [HR.out]; exact HS3.out, HBA.out.trans HM3.out⟩
      case measure => simp [intOf]; omega
    · have ek : k = l.length := by omega
      have e0 : decide ((k : Int) < (l.length : Int)) = false := by simp; omega
      rw [ek, List.take_length] at hS
      have HS := Lib.hid hS
      have HB := Lib.hid hb
      clear hS hb ek
      go_wp2_with fail
      go_ret
      exact ⟨HB.out, { p with tv := tv, wv := wv }, rfl, HS.out⟩
end
end Go.Proofs.YtfjfkmoofmncnaaDoor
