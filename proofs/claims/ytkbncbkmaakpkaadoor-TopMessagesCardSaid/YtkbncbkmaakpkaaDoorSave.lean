/- The acceptor's Save. -/
import Derived.Test.YtkbncbkmaakpkaaDoorAcB
import Derived.Test.YtkbncbkmaakpkaaDoorSeal
namespace Go.Proofs.YtkbncbkmaakpkaaDoor
open Go.RowKit
def encV (v : Vote) : List UInt8 := leN v.slot.toNat 2 ++ (leN v.bal.toNat 8 ++ (leN v.val.size 2 ++ v.val.data.toList))
def accB (p : Nat) (l : List Vote) : List UInt8 := leN p 8 ++ (leN l.length 2 ++ l.flatMap encV)
/-- A vote that can be told. -/
def Vote.ok (v : Vote) : Prop := 0 ≤ v.slot ∧ v.slot < 4096 ∧ 1 ≤ v.bal ∧ v.bal ≤ 1099511627776 ∧ v.val.size ≤ 1024
theorem encV_len (v : Vote) (h : v.ok) : (encV v).length ≤ 1036 := by
  have : v.val.data.toList.length = v.val.size := rfl
  simp only [encV, List.length_append, length_leN, this]
  have := h.2.2.2.2; omega
theorem flat_len (l : List Vote) (h : ∀ v ∈ l, v.ok) : (l.flatMap encV).length ≤ l.length * 1036 := by
  induction l with
  | nil => simp
  | cons x l ih =>
    have h1 := encV_len x (h x (by simp))
    have h2 := ih fun v hv => h v (by simp [hv])
    simp only [List.flatMap_cons, List.length_append, List.length_cons]; omega
theorem accB_len (p : Nat) (l : List Vote) (h : ∀ v ∈ l, v.ok) : (accB p l).length ≤ 10 + l.length * 1036 := by
  have := flat_len l h
  simp only [accB, List.length_append, length_leN]; omega
theorem rowcell {w : World} {base : Nat} {v : Value} {l : List Vote} (h : w.ownsRow base 33 3 v l.length (vrows l)) {k : Nat} {m : Vote} (hk : l[k]? = some m) :
    ∃ g cap, v = .slice (some ⟨g, 0, none⟩) l.length cap ∧ ∀ j x, m.cells[j]? = some x → w.cell? ⟨g, k * 3 + j, none⟩ = some x := by
  have hkl := (List.getElem?_eq_some_iff.1 hk).1
  rcases ownsRow_form h with ⟨h0, h1⟩ | ⟨g, cap, rfl, _⟩
  · have : l.length = 0 := h1.1
    omega
  · refine ⟨g, cap, rfl, fun j x hj => ?_⟩
    have hj3 : j < 3 := (List.getElem?_eq_some_iff.1 hj).1
    rw [World.ownsRow.cellAt h (k * 3 + j) (by omega)]
    exact vrows_at l k m hk j x hj
section
variable {w w' : World} {X : Nat → Prop} {b : Nat} {V : Nat → Option Vt}
set_option maxRecDepth 100000 in
set_option maxHeartbeats 4000000 in
theorem save_any (ht : Tabs w) {p : Nat} (h : Acc w X b (p : Int) V) (hp : p ≤ 1099511627776) {LL : List Vote} (hLL : votesTo V 0 4096 = LL) (hl : LL.length ≤ 800) (hok : ∀ v ∈ LL, v.ok) :
    Calls Tryd.prog 12 #[.pointer (some ⟨b, 0, none⟩)] w fun e w' => e = .returned (.string (bstr (sealB (accB p LL)))) ∧ Below w.heap.size w w' := by
  have hnw := WS.new (wr := w) w (fun _ => False) (Below.refl _ _) (fun _ h => h.elim)
  have H := Lib.hid h
  have HT := Lib.hid ht
  have HLL := Lib.hid hLL
  have Hok := Lib.hid hok
  have Hlen := Lib.hid (accB_len p LL hok)
  clear h ht hLL hok
  go_enter Tryd.func12, Tryd.ntmps12
  go_wp2_with fail
  refine hnw.mono ?_
  rintro e w1 ⟨rfl, hs1, hb1⟩
  have hvo := votes_any (H.out.below hb1)
  rw [HLL.out] at hvo
  have HS1 := Lib.hid hs1
  have HB1 := Lib.hid hb1
  clear hnw hs1 hb1
  go_wp2_with fail
  refine hvo.mono ?_
  rintro e w2 ⟨v, rfl, ho, hb2⟩
  obtain ⟨a, cap, rfl⟩ := row_lens ho
  have hs2 := HS1.out.also (G := fun q => (Value.slice a LL.length cap).ownBlock = some q) hb2 fun q hq => ⟨.inr (ho.lt q hq).1, (ho.lt q hq).2⟩
  have hb02 := HB1.out.trans (hb2.mono HB1.out.size)
  have ha2 := (H.out.below hb02)
  obtain ⟨B, hac, -⟩ := ha2
  have c0 := hac.c0
  have hn1 := hs2.num (by simp) p 8 (by omega) (by omega) (by omega)
  have HO := Lib.hid ho
  clear hvo ho hb2 hs2 hb02 hac HS1 HB1
  go_wp2_with fail
  refine hn1.mono ?_
  rintro e w3 ⟨rfl, hs3, hf3⟩
  have hn2 := hs3.num (by simp [length_leN]) LL.length 2 (by omega) (by omega) (by omega)
  have HF3 := Lib.hid hf3
  clear hn1 hs3 hf3 c0
  go_wp2_with fail
  refine hn2.mono ?_
  rintro e w4 ⟨rfl, hs4, hf4⟩
  have hrow : w4.ownsRow w1.heap.size 33 3 (.slice a LL.length cap) LL.length (vrows LL) := ownsRow_keep HO.out fun k hk => (hf4 k hk).trans (HF3.out k hk)
  have HS4 := Lib.hid hs4
  have HR4 := Lib.hid hrow
  clear hn2 hs4 hf4 HF3 HO hrow
  go_wp2_with fail
  generalize w.heap.size = bw at HS4 ⊢
  go_loopw [6, 22] (fun _ c wr => ∃ k : Nat, k ≤ LL.length ∧ c = .int .i64 (k : Int) ∧ WS w (fun q => (Value.slice a LL.length cap).ownBlock = some q) bw wr ([] ++ leN p 8 ++ leN LL.length 2 ++ (LL.take k).flatMap encV) ∧ wr.ownsRow w1.heap.size 33 3 (.slice a LL.length cap) LL.length (vrows LL)) (fun _ c _ => LL.length - (intOf c).toNat)
  case atStart => exact ⟨0, Nat.zero_le _, rfl, by simpa using HS4.out, HR4.out⟩
  case round =>
    clear HS4 HR4
    obtain ⟨k, hk, rfl, hs, hr⟩ := hrel
    by_cases hlt : k < LL.length
    · obtain ⟨x, hx⟩ : ∃ x, LL[k]? = some x := ⟨_, List.getElem?_eq_getElem hlt⟩
      have hxo := Hok.out x (List.mem_of_getElem? hx)
      obtain ⟨ho0, ho1, ho2, ho3, ho4⟩ := hxo
      obtain ⟨sl, hsl⟩ := Int.eq_ofNat_of_zero_le ho0
      obtain ⟨bl, hbl⟩ := Int.eq_ofNat_of_zero_le (show 0 ≤ x.bal by omega)
      have htk : (LL.take (k + 1)).flatMap encV = (LL.take k).flatMap encV ++ (leN sl 2 ++ (leN bl 8 ++ (leN x.val.size 2 ++ x.val.data.toList))) := by
        rw [List.take_add_one, hx]
        simp [encV, hsl, hbl]
      have hfl : ((LL.take k).flatMap encV).length ≤ 800 * 1036 := by
        have h1 := flat_len (LL.take k) fun v hv => Hok.out v (List.mem_of_mem_take hv)
        have h2 : (LL.take k).length ≤ 800 := by rw [List.length_take]; omega
        omega
      generalize (LL.take k).flatMap encV = P at hs htk hfl ⊢
      have hqe := rowcell hr hx
      obtain ⟨g, cap', hv, hcl⟩ := hqe
      simp only [Value.slice.injEq, true_and] at hv
      obtain ⟨rfl, rfl⟩ := hv
      have q0 := hcl 0 _ rfl
      rw [Nat.add_zero] at q0
      have q1 := hcl 1 _ rfl
      have q2 := hcl 2 _ rfl
      try dsimp only [Vote.cells] at q0 q1 q2
      rw [hsl] at q0
      rw [hbl] at q1
      generalize x.val = t at ho4 htk q2
      have hsl2 : sl < 4096 := by omega
      have hbl2 : bl ≤ 1099511627776 := by omega
      have hbA : Below wr.heap.size wr (wr.alloc (.cells #[.int .i64 (sl : Int), .int .i64 (bl : Int), .string t] 33)) := (Below.refl _ _).alloc (Nat.le_refl _) _
      have hvb : VBox (wr.alloc (.cells #[.int .i64 (sl : Int), .int .i64 (bl : Int), .string t] 33)) wr.heap.size ⟨sl, bl, t⟩ := VBox.made wr ⟨sl, bl, t⟩ _
      have hsA := hs.also (G := fun q => (Value.slice (some ⟨g, 0, none⟩) LL.length cap).ownBlock = some q ∨ q = wr.heap.size) hbA fun q hq => by
        rcases hq with hq | rfl
        · exact ⟨.inl hq, Nat.lt_of_lt_of_le (hs.fl hq) hbA.size⟩
        · exact ⟨.inr (Nat.le_refl _), by simp⟩
      have hrA : (wr.alloc (.cells #[.int .i64 (sl : Int), .int .i64 (bl : Int), .string t] 33)).ownsRow w1.heap.size 33 3 (.slice (some ⟨g, 0, none⟩) LL.length cap) LL.length (vrows LL) := hr.alloc _
      have hnm := hsA.num (by simp [length_leN]; omega) sl 2 (by omega) (by omega) (by omega)
      have HRA := Lib.hid hrA
      have HTK := Lib.hid htk
      have HVB := Lib.hid hvb
      obtain ⟨y0, y1, y2⟩ : (wr.alloc (.cells #[.int .i64 (sl : Int), .int .i64 (bl : Int), .string t] 33)).cell? ⟨wr.heap.size, 0, none⟩ = some (.int .i64 (sl : Int)) ∧ (wr.alloc (.cells #[.int .i64 (sl : Int), .int .i64 (bl : Int), .string t] 33)).cell? ⟨wr.heap.size, 1, none⟩ = some (.int .i64 (bl : Int)) ∧ (wr.alloc (.cells #[.int .i64 (sl : Int), .int .i64 (bl : Int), .string t] 33)).cell? ⟨wr.heap.size, 2, none⟩ = some (.string t) := ⟨hvb 0 _ rfl, hvb 1 _ rfl, hvb 2 _ rfl⟩
      clear hs hr hx hsl hbl hbA hvb hsA hrA hcl htk
      go_wp2_with fail
      generalize (wr.alloc (.cells #[.int .i64 (sl : Int), .int .i64 (bl : Int), .string t] 33)) = W1 at HRA HVB hnm y0 y1 y2 ⊢
      generalize wr.heap.size = u at HVB hnm y0 y1 y2 ⊢
      refine hnm.mono ?_
      rintro e w5 ⟨rfl, hs5, hf5⟩
      have hvb5 := HVB.out.keep (hf5 u (.inr rfl))
      have hr5 := ownsRow_keep HRA.out fun k hk => hf5 k (.inl hk)
      have hn5 := hs5.num (by simp [length_leN]; omega) bl 8 (by omega) (by omega) (by omega)
      have z1 := hvb5 1 _ rfl
      dsimp only at z1
      have HV5 := Lib.hid hvb5
      have HR5 := Lib.hid hr5
      clear hnm hs5 hf5 hvb5 hr5 y0 y1 y2 q0 q1 q2 HVB HRA
      go_wp2_with fail
      refine hn5.mono ?_
      rintro e w6 ⟨rfl, hs6, hf6⟩
      have hvb6 := HV5.out.keep (hf6 u (.inr rfl))
      have hr6 := ownsRow_keep HR5.out fun k hk => hf6 k (.inl hk)
      have hn6 := hs6.text (by simp [length_leN]; omega) t (by omega)
      have z2 := hvb6 2 _ rfl
      dsimp only at z2
      have HR6 := Lib.hid hr6
      clear hn5 hs6 hf6 hvb6 hr6 z1 HV5 HR5
      go_wp2_with fail
      refine hn6.mono ?_
      rintro e w7 ⟨rfl, hs7, hf7⟩
      have hr7 := ownsRow_keep HR6.out fun k hk => hf7 k (.inl hk)
      have hs8 := hs7.also (G := fun q => (Value.slice (some ⟨g, 0, none⟩) LL.length cap).ownBlock = some q) (Below.refl _ _) fun q hq => ⟨.inl (.inl hq), hs7.fl (.inl hq)⟩
      have HR7 := Lib.hid hr7
      have HS8 := Lib.hid hs8
      clear hn6 hs7 hf7 hr7 hs8 z2 HR6
      go_wp2_with fail
      go_roundw
      case rel => exact ⟨k + 1, by omega, by go_num, by rw [HTK.out]; simpa using HS8.out, HR7.out⟩
      case measure => simp [intOf]; omega
    · have et : LL.take k = LL := List.take_of_length_le (by omega)
      rw [et] at hs
      have hby := hs.bytes
      have hse := seal_any (HT.out.below hs.below HT.out.lt) (accB p LL) (by have := Hlen.out; omega)
      have HB := Lib.hid hs.below
      have heq : ([] ++ leN p 8 ++ leN LL.length 2 ++ LL.flatMap encV) = accB p LL := by simp [accB]
      rw [heq] at hby
      change Calls _ _ _ _ (fun e w' => e = .returned (.string (bstr (accB p LL))) ∧ wr = w') at hby
      clear hs hr et heq
      go_wp2_with fail
      refine hby.mono ?_
      rintro e w5 ⟨rfl, rfl⟩
      clear hby
      go_wp2_with fail
      refine hse.mono ?_
      rintro e w6 ⟨rfl, hb6⟩
      have HB6 := Lib.hid (HB.out.trans (hb6.mono HB.out.size))
      clear hse hb6
      go_wp2_with fail
      go_ret
      exact ⟨rfl, HB6.out⟩
end
end Go.Proofs.YtkbncbkmaakpkaaDoor
