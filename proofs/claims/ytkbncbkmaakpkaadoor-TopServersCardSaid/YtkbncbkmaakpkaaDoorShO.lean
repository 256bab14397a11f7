/- shelf.Open. -/
import Derived.Test.YtkbncbkmaakpkaaDoorShPut
import Derived.Test.YtkbncbkmaakpkaaDoorRead
namespace Go.Proofs.YtkbncbkmaakpkaaDoor
open Go.RowKit
/-- What is laid of the first i sectors. -/
def openA (K : Nat → Option Pl) : Nat → Int → Option Pl
  | 0 => fun _ => none
  | i + 1 => match K i with
    | none => openA K i
    | some x => updA (openA K i) x
def openU (K : Nat → Option Pl) : Nat → Int → Bool
  | 0 => fun _ => false
  | i + 1 => match K i with
    | none => openU K i
    | some x => match openA K i x.id with
      | none => updU (openU K i) x.at' true
      | some p => updU (updU (openU K i) p.at' false) x.at' true
/-- What the sectors have: K tells which are records. -/
structure Recs (st : PS) (K : Nat → Option Pl) : Prop where
  none' : ∀ i s, i < st.size → st.is[i]? = some s → K i = none → s[0]? ≠ some 1
  some' : ∀ i s x, i < st.size → st.is[i]? = some s → K i = some x → s = recB x.id x.ver x.d.data.toList 1 ∧ x.id < 256 ∧ 1 ≤ x.ver ∧ x.ver ≤ 1099511627776 ∧ x.d.size ≤ 16 ∧ x.at' = i
  rise : ∀ i x p, K i = some x → openA K i x.id = some p → p.ver < x.ver ∧ p.at' < 1000
section
variable {w : World} {pb : Nat} {pv : Value} {st : PS} {K : Nat → Option Pl}
theorem IsSh.upto {w : World} {b pb am um n m : Nat} {A : Int → Option Pl} {U : Int → Bool} {bad err : Value} (h : IsSh w b pb am um n A U bad err) (hm : n ≤ m) : IsSh w b pb am um m A U bad err :=
  ⟨h.c0, h.c1, h.c2, h.c3, h.c4, h.fro, h.ma.mono hm, h.mu.mono hm, h.ne⟩
set_option maxRecDepth 100000 in
set_option maxHeartbeats 2000000 in
theorem open_any (hp : IsPlate w pb pv st) (hT : Tabs w) (hw : st.wait = []) (hoff : st.off = false) (hR : Recs st K) :
    Calls Tryd.prog 129 #[.pointer (some ⟨pb, 0, none⟩)] w fun e w' => ∃ b am um n, n ≤ 128 ∧ e = .returned (.tuple #[.pointer (some ⟨b, 0, none⟩), .int .i64 0]) ∧ IsSh w' b pb am um n (openA K st.size) (openU K st.size) (.slice none 0 0) .nilIface ∧ Below w.heap.size w w' ∧ ∀ k, shF b am um k → w.heap.size ≤ k := by
  have hd := dead_any hp
  rw [hoff] at hd
  have hs := hp.ok.hi
  have hlen := hp.ok.len
  have hmm := @run_makeMap Tryd.prog
  have HP := Lib.hid hp
  have HT := Lib.hid hT
  have HR := Lib.hid hR
  have HOff := Lib.hid hoff
  clear hT hR hoff hp
  go_enter Tryd.func129, Tryd.ntmps129
  go_wp2_with fail
  refine hd.mono ?_
  rintro e w ⟨rfl, rfl⟩
  clear hd
  go_wp2_with fail
  generalize hWW : ((w.alloc (.map #[] 0)).alloc (.map #[] 0)).alloc (.cells #[.pointer (some ⟨pb, 0, none⟩), .map (some w.heap.size), .map (some (w.heap.size + 1)), .slice none 0 0, .nilIface] 280) = W
  have hbW : Below w.heap.size w W := by rw [← hWW]; exact ((((Below.refl _ _).alloc (Nat.le_refl _) _).alloc (by simp) _).alloc (by simp; omega) _)
  have hI : IsSh W (w.heap.size + 2) pb w.heap.size (w.heap.size + 1) 0 (openA K 0) (openU K 0) (.slice none 0 0) .nilIface := by
    rw [← hWW]
    have e2 : ((w.alloc (.map #[] 0)).alloc (.map #[] 0)).heap.size = w.heap.size + 2 := by simp
    have hc : ∀ o, (((w.alloc (.map #[] 0)).alloc (.map #[] 0)).alloc (.cells #[.pointer (some ⟨pb, 0, none⟩), .map (some w.heap.size), .map (some (w.heap.size + 1)), .slice none 0 0, .nilIface] 280)).cell? ⟨w.heap.size + 2, o, none⟩ = (#[.pointer (some ⟨pb, 0, none⟩), .map (some w.heap.size), .map (some (w.heap.size + 1)), .slice none 0 0, .nilIface] : Array Value)[o]? := fun o => by
      rw [World.cell?_alloc_at _ _ _ _ (by simp)]
    have m1 : IMap Tryd.prog 3 (w.alloc (.map #[] 0)) w.heap.size 0 (fun _ => none) := IMap.made _ _ _
    have m2 : IMap Tryd.prog 3 ((w.alloc (.map #[] 0)).alloc (.map #[] 0)) (w.heap.size + 1) 0 (fun _ => none) := by
      have := IMap.made Tryd.prog 3 (w.alloc (.map #[] 0))
      rw [show (w.alloc (.map #[] 0)).heap.size = w.heap.size + 1 by simp] at this
      exact this
    refine ⟨hc 0, hc 1, hc 2, hc 3, hc 4, fun o => ?_, (m1.alloc _).alloc _, m2.alloc _, by omega⟩
    rw [← e2]; exact World.frozen?_alloc_new _ _ _ _
  have HBW := Lib.hid hbW
  have HI := Lib.hid hI
  have hsz := size_any (HP.out.keeps fun k hk => hbW.block k (HP.out.lt k hk))
  have hamu : ∀ k, shF (w.heap.size + 2) w.heap.size (w.heap.size + 1) k → w.heap.size ≤ k := fun k hk => by
    rcases hk with rfl | rfl | rfl <;> omega
  have HAM := Lib.hid hamu
  clear hWW hbW hI hmm hamu
  go_wp2_with fail
  refine hsz.mono ?_
  rintro e W ⟨rfl, rfl⟩
  clear hsz
  go_wp2_with fail
  go_loopw [19] (fun c wr => ∃ i : Nat, i ≤ st.size ∧ c = .int .i64 (i : Int) ∧ IsSh wr (w.heap.size + 2) pb w.heap.size (w.heap.size + 1) i (openA K i) (openU K i) (.slice none 0 0) .nilIface ∧ Below w.heap.size w wr) (fun c _ => st.size - (intOf c).toNat)
  case atStart => exact ⟨0, Nat.zero_le _, rfl, HI.out, HBW.out⟩
  case round =>
    obtain ⟨i, hi, rfl, hI, hb⟩ := hrel
    by_cases hlt : i < st.size
    · obtain ⟨s, hs2⟩ : ∃ s, st.is[i]? = some s := ⟨_, List.getElem?_eq_getElem (by omega)⟩
      have hp := HP.out.keeps fun k hk => hb.block k (HP.out.lt k hk)
      have hsl : s.length = 32 := hp.ok.sec s (List.mem_of_getElem? hs2)
      have hrd := read_ok hp (by rw [hw]; decide) i (by unfold PS.wrong; rw [HOff.out]; simp; omega)
      rw [hw, show st.is.getD i [] = s by rw [List.getD_eq_getElem?_getD, hs2]; rfl] at hrd
      change Calls _ _ _ _ (fun e w' => e = .returned (.tuple #[.string (bstr s), .int .i64 0]) ∧ Below wr.heap.size wr w') at hrd
      have hT := HT.out.below hb HT.out.lt
      have HI2 := Lib.hid hI
      have HB2 := Lib.hid hb
      have HT2 := Lib.hid hT
      clear hI hb hT hp
      go_wp2_with fail
      refine hrd.mono ?_
      rintro e w3 ⟨rfl, hb3⟩
      have hI3 := HI2.out.below hb3
      have hT3 := HT2.out.below hb3 HT2.out.lt
      have hB3 := HB2.out.trans (hb3.mono HB2.out.size)
      clear hrd hb3
      cases hK : K i with
      | none =>
        have hpr := parse_bad hT3 s hsl (HR.out.none' i s hlt hs2 hK)
        have h0 : s[0]? ≠ some 1 := HR.out.none' i s hlt hs2 hK
        have HN := Lib.hid (show openA K (i + 1) = openA K i ∧ openU K (i + 1) = openU K i by simp [openA, openU, hK])
        have HI3 := Lib.hid hI3
        have HB3 := Lib.hid hB3
        clear hK hI3 hB3 hT3
        unfold blkZ at hpr
        go_wp2_with fail
        refine hpr.mono ?_
        rintro e w4 ⟨rfl, hb4⟩
        have HI4 := Lib.hid (HI3.out.below hb4)
        have HB4 := Lib.hid (HB3.out.trans (hb4.mono HB3.out.size))
        clear hpr hb4
        obtain ⟨x, hx⟩ : ∃ x, s[0]? = some x := ⟨_, List.getElem?_eq_getElem (by omega)⟩
        have hbx : ∀ h, (bstr s)[0]'h = x := fun h => byte_at s _ h x hx
        have hbz : (bstr s).size = 32 := by rw [bstr_size]; exact hsl
        have hx1 : ((x.toNat : Int) == 1) = false := by
          simp only [beq_eq_false_iff_ne, ne_eq]
          intro h
          apply h0
          rw [hx]
          congr 1
          apply UInt8.toNat_inj.1
          show x.toNat = 1
          omega
        generalize bstr s = S at hbx hbz ⊢
        have hb0 : (0 : Int) < (S.size : Int) := by omega
        clear hx h0
        go_wp2_with fail
        go_roundw
        case rel =>
          have hh := HI4.out
          rw [← HN.out.1, ← HN.out.2] at hh
          exact ⟨i + 1, by omega, by go_num, (hh.below ((Below.refl _ _).alloc (Nat.le_refl _) _)).upto (by omega), HB4.out.alloc HB4.out.size _⟩
        case measure => simp [intOf]; omega
      | some x =>
        obtain ⟨hsx, g1, g2, g3, g4, g5⟩ := HR.out.some' i s x hlt hs2 hK
        have hpr := parse_rec hT3 x.id x.ver x.d.data.toList g1 g2 g3 (by exact g4)
        rw [← hsx, bstr_of] at hpr
        unfold blkV at hpr
        have hlay : ∀ W2, Below w3.heap.size w3 W2 → Calls Tryd.prog 156 #[.pointer (some ⟨w.heap.size + 2, 0, none⟩), x.val] W2 fun e w' => e = .returned (.tuple #[]) ∧ IsSh w' (w.heap.size + 2) pb w.heap.size (w.heap.size + 1) (i + 1) (openA K (i + 1)) (openU K (i + 1)) (.slice none 0 0) .nilIface ∧ Below w.heap.size w w' := fun W2 hW2 => by
          have hI4 := hI3.below hW2
          have hB4 := hB3.trans (hW2.mono hB3.size)
          have hfin : ∀ {w'}, Moves (fun k => k = w.heap.size ∨ k = w.heap.size + 1) W2 w' → Below w.heap.size w w' := fun hm => hB4.trans (hm.below hB4.size fun k hk => by omega)
          cases hA : openA K i x.id with
          | none =>
            have e1 : openA K (i + 1) = updA (openA K i) x := by simp [openA, hK]
            have e2 : openU K (i + 1) = updU (openU K i) x.at' true := by simp [openU, hK, hA]
            rw [e1, e2]
            exact (lay_new hI4 (by omega) x (by omega) (by omega) hA).mono fun e w' h => ⟨h.1, h.2.1, hfin h.2.2⟩
          | some p =>
            have e1 : openA K (i + 1) = updA (openA K i) x := by simp [openA, hK]
            have e2 : openU K (i + 1) = updU (updU (openU K i) p.at' false) x.at' true := by simp [openU, hK, hA]
            obtain ⟨r1, r2⟩ := HR.out.rise i x p hK hA
            rw [e1, e2]
            exact (lay_over hI4 (by omega) x p (by omega) (by omega) (by omega) hA r1).mono fun e w' h => ⟨h.1, h.2.1, hfin h.2.2⟩
        have hxa : (x.at' : Int) = (i : Int) := by rw [g5]
        unfold Pl.val at hlay
        rw [hxa] at hlay
        have HLAY := Lib.hid hlay
        clear hI3 hT3 hB3 hlay hsx hK
        go_wp2_with fail
        refine hpr.mono ?_
        rintro e w4 ⟨rfl, hb4⟩
        have hl2 := HLAY.out _ (hb4.alloc hb4.size (.cells #[.int .i64 (x.id : Int), .int .i64 (x.ver : Int), .string x.d] 107))
        clear hpr hb4
        go_wp2_with fail
        refine hl2.mono ?_
        rintro e w5 ⟨rfl, hI5, hB5⟩
        have HI5 := Lib.hid hI5
        have HB5 := Lib.hid hB5
        clear hl2 hI5 hB5
        go_wp2_with fail
        go_roundw
        case rel => exact ⟨i + 1, by omega, by go_num, HI5.out, HB5.out⟩
        case measure => simp [intOf]; omega
    · have ei : i = st.size := by omega
      have HI2 := Lib.hid hI
      have HB2 := Lib.hid hb
      rw [ei] at HI2
      clear hI hb
      go_wp2_with fail
      go_ret2
      exact ⟨_, _, _, st.size, hs, rfl, HI2.out, HB2.out, HAM.out⟩
end
end Go.Proofs.YtkbncbkmaakpkaaDoor
