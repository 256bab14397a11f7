/- grant.Replay. -/
import Derived.Test.YtfjfkmoofmncnaaDoorDc
import Derived.Test.YtfjfkmoofmncnaaDoorGh
namespace Go.Proofs.YtfjfkmoofmncnaaDoor
open Go.RowKit
/-- The service behind a log of commands. -/
def GS.run (l : List Cm) : GS := l.foldl GS.do GS.new
theorem GS.Ok.run (l : List Cm) : (GS.run l).Ok := by
  suffices ∀ (l : List Cm) (s : GS), s.Ok → (l.foldl GS.do s).Ok from this l _ GS.Ok.new
  intro l
  induction l with
  | nil => exact fun s h => h
  | cons c l ih => exact fun s h => ih _ (h.do c)
theorem GS.run_take (l : List Cm) {k : Nat} {c : Cm} (h : l[k]? = some c) : GS.run (l.take (k + 1)) = (GS.run (l.take k)).do c := by
  unfold GS.run
  rw [List.take_add_one, h, List.foldl_append]
  rfl
def texts (l : List Cm) : List ByteArray := l.map fun c => bstr (encC c)
def FitsAll (l : List Cm) : Prop := ∀ c ∈ l, c.Fits
section
variable {w w' : World}
set_option maxRecDepth 100000 in
set_option maxHeartbeats 8000000 in
theorem replay_any (hW : Whole w) (hK : Kinds w) (h2 : 2 ≤ w.heap.size) (l : List Cm) (hl : l.length ≤ 1000) (hf : FitsAll l) {base : Nat} {v : Value} (ho : w.ownsRow base 9 1 v (texts l).length (srows (texts l))) :
    Calls Tryd.prog 10 #[v] w fun e w' => Below w.heap.size w w' ∧ ∃ b tb kb mb wv n, e = .returned (.pointer (some ⟨b, 0, none⟩)) ∧ IsSvc w' b tb kb mb wv n (GS.run l) ∧ ∀ k, fps b tb kb mb wv k → w.heap.size ≤ k := by
  obtain ⟨va, vc, rfl⟩ := row_lens ho
  have hlen : (texts l).length = l.length := List.length_map _
  have hnew := gnew_any hW h2
  have HO := Lib.hid ho
  have HK := Lib.hid hK
  have HF := Lib.hid hf
  clear ho hW hK hf
  rw [hlen] at HO ⊢
  go_enter Tryd.func10, Tryd.ntmps10
  go_wp2_with (go_at_call 4
               refine hnew.mono ?_
               clear hnew
               rintro e w1 ⟨b, tb, kb, mb, rfl, hS, hb1, -, hfp⟩
               have HS := Lib.hid hS
               have HB1 := Lib.hid hb1
               have HFP := Lib.hid hfp
               clear hS hb1 hfp)
  go_loopw [5, 6, 7, 11] (fun _ _ _ i wr => ∃ (k : Nat) (wv : Value) (n : Nat), k ≤ l.length ∧ i = .int .i64 (k : Int) ∧ n ≤ k ∧ IsSvc wr b tb kb mb wv n (GS.run (l.take k)) ∧ Below w.heap.size w wr ∧ ∀ q, fps b tb kb mb wv q → w.heap.size ≤ q) (fun _ _ _ i _ => l.length - (intOf i).toNat)
  case atStart => exact ⟨0, _, 0, Nat.zero_le _, rfl, Nat.le_refl _, HS.out, HB1.out, HFP.out⟩
  case round =>
    clear HS HB1 HFP
    obtain ⟨k, wv, n, hk, rfl, hn, hS, hb, hfp⟩ := hrel
    by_cases hlt : k < l.length
    · obtain ⟨c, hc⟩ : ∃ c, l[k]? = some c := ⟨_, List.getElem?_eq_getElem hlt⟩
      have hfc := HF.out c (List.mem_of_getElem? hc)
      have hrun := GS.run_take l hc
      have hown : wr.ownsRow base 9 1 (.slice va l.length vc) l.length (srows (texts l)) := ownsRow_keep HO.out fun q hq => hb.block q (HO.out.lt q hq).2
      rcases ownsRow_form hown with ⟨h0, h1⟩ | ⟨g, cap, h0, _⟩
      · exfalso; have := h1.1; omega
      injection h0 with h01 h02 h03
      subst h01
      have hcell : wr.cell? ⟨g, k, none⟩ = some (.string (bstr (encC c))) := by
        have h := World.ownsRow.cells hown (g := g) rfl k (.string (bstr (encC c))) (by unfold srows texts; rw [List.getElem?_map, List.getElem?_map, hc]; rfl)
        rwa [Addr.add_mid, Nat.zero_add] at h
      have hde := gdecode_any (w := wr) c hfc
      have e0 : decide ((k : Int) < (l.length : Int)) = true := by simpa using hlt
      have hSok := GS.Ok.run (l.take k)
      generalize GS.run (l.take k) = s at hS hrun hSok
      have HS := Lib.hid hS
      have HB := Lib.hid hb
      have HFP := Lib.hid hfp
      have HR := Lib.hid hrun
      have hoth : c.other < 1000 := by have := hfc.other; omega
      clear hS hb hfp hrun hown h02 h03 hfc hc
      unfold Cm.val at hde
      go_wp2_with (first
        | (go_at_call 36
           refine hde.mono ?_
           clear hde
           rintro e w2 ⟨hb2, rfl⟩
           have hbA : Below w2.heap.size w2 (w2.alloc (.cells c.cells.toArray 36)) := (Below.refl _ _).alloc (Nat.le_refl _) _
           have hSA := (HS.out.below hb2).below hbA
           have hBA := HB.out.trans ((hb2.trans (hbA.mono hb2.size)).mono HB.out.size)
           have hdo := do_any hSA hSok (HK.out.keep (hBA.block _ HK.out.lt)) (by omega) c hoth
           have HBA := Lib.hid hBA
           clear hSA hb2 hbA hBA
           unfold Cm.val Cm.cells at hdo
           unfold Cm.cells at HBA)
        | (go_at_call 37
           refine hdo.mono ?_
           clear hdo
           rintro e w3 ⟨⟨v, rfl, -⟩, wv', n', hn', hS3, hM3, ho3⟩
           have HS3 := Lib.hid hS3
           have HM3 := Lib.hid (Moves.below hM3 HBA.out.size HFP.out)
           have HO3 := Lib.hid ho3
           clear hS3 hM3 ho3))
      go_roundw
      case rel =>
        refine ⟨k + 1, wv', n', by omega, by go_num, by omega, by rw [HR.out]; exact HS3.out, HBA.out.trans HM3.out, fun q hq => ?_⟩
        rcases hq with hq | hq | hq | hq | hq
        · exact HFP.out q (.inl hq)
        · exact HFP.out q (.inr (.inl hq))
        · exact HFP.out q (.inr (.inr (.inl hq)))
        · exact HFP.out q (.inr (.inr (.inr (.inl hq))))
        · rcases HO3.out q hq with h1 | h1
          · exact HFP.out q (.inr (.inr (.inr (.inr h1))))
          · exact Nat.le_trans HBA.out.size h1
      case measure => simp [intOf]; omega
    · have ek : k = l.length := by omega
      have e0 : decide ((k : Int) < (l.length : Int)) = false := by simp; omega
      rw [ek, List.take_length] at hS
      have HS := Lib.hid hS
      have HB := Lib.hid hb
      have HFP := Lib.hid hfp
      clear hS hb hfp ek
      go_wp2_with fail
      go_ret
      exact ⟨HB.out, _, _, _, _, _, _, rfl, HS.out, HFP.out⟩
end
end Go.Proofs.YtfjfkmoofmncnaaDoor
