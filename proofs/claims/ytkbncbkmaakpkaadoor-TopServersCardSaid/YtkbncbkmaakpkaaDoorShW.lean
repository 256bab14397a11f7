/- shelf.write: a sector is written and synced. -/
import Derived.Test.YtkbncbkmaakpkaaDoorLay
import Derived.Test.YtkbncbkmaakpkaaDoorWrite
namespace Go.Proofs.YtkbncbkmaakpkaaDoor
open Go.RowKit
/-- A shelf and its plate; F: blocks of a caller's own. -/
def ShP (F : Nat → Prop) (w : World) (b pb am um n : Nat) (A : Int → Option Pl) (U : Int → Bool) (bad err : Value) (st : PS) : Prop :=
  ∃ pv, IsSh w b pb am um n A U bad err ∧ IsPlate w pb pv st ∧ (∀ k, shF b am um k → ¬ pfp pb pv k) ∧ ∀ k, F k → k < w.heap.size ∧ ¬ pfp pb pv k ∧ ¬ shF b am um k
def NotF (F : Nat → Prop) (k : Nat) : Prop := ¬ F k
/-- A sector is written, and synced: the error; the plate. -/
def wrE (st : PS) (i : Int) (t : List UInt8) : Int := if st.writeE i t = 0 then (st.writeS i t).syncE else st.writeE i t
def wrS (st : PS) (i : Int) (t : List UInt8) : PS := if st.writeE i t = 0 then (st.writeS i t).syncS else st.writeS i t
def errV (e : Int) (err : Value) : Value := if e = 0 then err else .iface 25 (.int .i64 e)
section
variable {F : Nat → Prop} {w w' : World} {b pb am um n : Nat} {A : Int → Option Pl} {U : Int → Bool} {bad err : Value} {st st' : PS}
theorem Moves.block' (h : Moves (NotF F) w w') {k : Nat} (hk : k < w.heap.size) (hF : F k) : w'.heap[k]? = w.heap[k]? := h.block k hk fun h => h hF
theorem ShP.below (h : ShP F w b pb am um n A U bad err st) (hb : Below w.heap.size w w') : ShP F w' b pb am um n A U bad err st := by
  obtain ⟨pv, h1, h2, h3, h4⟩ := h
  exact ⟨pv, h1.below hb, h2.keeps fun k hk => hb.block k (h2.lt k hk), h3, fun k hk => ⟨Nat.lt_of_lt_of_le (h4 k hk).1 hb.size, (h4 k hk).2⟩⟩
theorem ShP.mono {G : Nat → Prop} (h : ShP F w b pb am um n A U bad err st) (hG : ∀ k, G k → F k) : ShP G w b pb am um n A U bad err st := by
  obtain ⟨pv, h1, h2, h3, h4⟩ := h
  exact ⟨pv, h1, h2, h3, fun k hk => h4 k (hG k hk)⟩
/-- New blocks, too, are a caller's own. -/
theorem ShP.also {G : Nat → Prop} (h : ShP F w b pb am um n A U bad err st) (hb : Below w.heap.size w w') (hG : ∀ k, G k → F k ∨ w.heap.size ≤ k ∧ k < w'.heap.size) : ShP G w' b pb am um n A U bad err st := by
  obtain ⟨pv, h1, h2, h3, h4⟩ := h.below hb
  obtain ⟨pv0, g1, g2, g3, g4⟩ := h
  have hb0 := hb.block pb (g2.lt pb (.inl rfl))
  have e : pv0 = pv := by
    have q1 := (World.cell?_of_block (a := ⟨pb, 4097, none⟩) hb0).trans g2.wv
    exact Option.some.inj (q1.symm.trans h2.wv)
  subst e
  refine ⟨pv0, h1, h2, h3, fun k hk => ?_⟩
  rcases hG k hk with hF | ⟨h5, h6⟩
  · exact ⟨(h4 k hF).1, (g4 k hF).2⟩
  · exact ⟨h6, fun hp => by have := g2.lt k hp; omega, fun hs => by have := g1.lt hs; omega⟩
/-- The plate has turned. -/
theorem ShP.plate {pv : Value} (h1 : IsSh w b pb am um n A U bad err) (h3 : ∀ k, shF b am um k → ¬ pfp pb pv k) (h4 : ∀ k, F k → k < w.heap.size ∧ ¬ pfp pb pv k ∧ ¬ shF b am um k) (ht : ToPlate w pb pv st' w') : ShP F w' b pb am um n A U bad err st' ∧ Moves (NotF F) w w' := by
  obtain ⟨v', g1, g2, g3⟩ := ht
  refine ⟨⟨v', h1.moves g2 h3, g1, fun k hk hp => ?_, fun k hk => ⟨Nat.lt_of_lt_of_le (h4 k hk).1 g2.size, fun hp => ?_, (h4 k hk).2.2⟩⟩, g2.mono fun k _ hk hF => (h4 k hF).2.1 hk⟩
  · rcases g3 k hp with hp | hp
    · exact h3 k hk hp
    · have := h1.lt hk; omega
  · rcases g3 k hp with hp | hp
    · exact (h4 k hk).2.1 hp
    · have := (h4 k hk).1; omega
theorem ShP.setErr (h : ShP F w b pb am um n A U bad err st) (e : Value) : ShP F (w.setCell ⟨b, 4, none⟩ e) b pb am um n A U bad e st ∧ Moves (NotF F) w (w.setCell ⟨b, 4, none⟩ e) := by
  obtain ⟨pv, h1, h2, h3, h4⟩ := h
  have hm : Moves (fun k => k = b) w (w.setCell ⟨b, 4, none⟩ e) := (Moves.refl _ _).setCell _ _ (.inl rfl)
  exact ⟨⟨pv, h1.setErr e, h2.moves hm fun k hk hb => by subst hb; exact h3 _ (.inl rfl) hk, h3, fun k hk => ⟨by simpa using (h4 k hk).1, (h4 k hk).2⟩⟩, hm.mono fun k _ hk hF => by subst hk; exact (h4 _ hF).2.2 (.inl rfl)⟩
theorem ShP.lt (h : ShP F w b pb am um n A U bad err st) {k : Nat} (hk : F k) : k < w.heap.size := by
  obtain ⟨pv, _, _, _, h4⟩ := h
  exact (h4 k hk).1
theorem Tryd.zStr (w : World) : (zeroValue 9).run Tryd.prog w = .ok (.string ⟨#[]⟩) w := by kernel_rfl
theorem look_text {lm : Nat} {g : Int → Option Value} (h : IMap Tryd.prog 3 w lm 1 g) (i : Int) (hi : (Lit.int .i64 i).wf = true) : (Instr.lookup 162 (.map (some lm)) (.int .i64 i) true).run Tryd.prog w = .ok (.tuple #[(g i).getD (.string ⟨#[]⟩), .bool (g i).isSome]) w := by
  obtain ⟨f, h1, h2⟩ := h
  have := h1.look (Maps.int_keyed Tryd.underlying3) Tryd.underlying162 (Tryd.zStr w) (Maps.keyOf_int_mk Tryd.underlying3 hi)
  rw [this, h2]
theorem PS.size_crash (st : PS) (k : Nat) : (st.crash k).size = st.size := by unfold PS.crash; split <;> rfl
theorem PS.size_lastS (st : PS) : st.lastS.size = st.size := by
  unfold PS.lastS; split
  · rfl
  · split
    · rw [PS.size_crash]; rfl
    · rfl
theorem PS.size_writeS (st : PS) (i : Int) (s : List UInt8) : (st.writeS i s).size = st.size := by
  unfold PS.writeS; split
  · rw [PS.size_lastS]; rfl
  · rfl
theorem PS.size_syncS (st : PS) : st.syncS.size = st.size := by
  unfold PS.syncS; split
  · rfl
  · split
    · exact PS.size_lastS _
    · exact PS.size_lastS _
set_option maxRecDepth 100000 in
set_option maxHeartbeats 2000000 in
theorem shwrite_any (h : ShP F w b pb am um n A U bad err st) (lm : Nat) (hl : F lm) (i : Nat) (t : List UInt8) (ht : t.length ≤ 32) (hi : i < st.size) (hs : st.size ≤ 128)
    (hm : IMap Tryd.prog 3 w lm 1 fun k => if k = (i : Int) then some (.string (bstr t)) else none) (hc : st.calls < 100000) (hw : st.wait.length < 100000) :
    Calls Tryd.prog 172 #[.pointer (some ⟨b, 0, none⟩), .map (some lm)] w fun e w' => e = .returned (.int .i64 (wrE st i t)) ∧ ShP F w' b pb am um n A U bad (errV (wrE st i t) err) (wrS st i t) ∧ Moves (NotF F) w w' := by
  have H := Lib.hid h
  have HM := Lib.hid hm
  clear h hm
  go_enter Tryd.func172, Tryd.ntmps172
  go_wp2_with fail
  go_loopw [5, 6] (fun e c wr => ∃ k : Nat, k ≤ st.size ∧ c = .int .i64 (k : Int) ∧ Moves (NotF F) w wr ∧ (if k ≤ i then e = .int .i64 0 ∧ ShP F wr b pb am um n A U bad err st else e = .int .i64 (st.writeE i t) ∧ ShP F wr b pb am um n A U bad err (st.writeS i t))) (fun _ c _ => st.size - (intOf c).toNat)
  case atStart => exact ⟨0, Nat.zero_le _, rfl, Moves.refl _ _, by rw [if_pos (Nat.zero_le _)]; exact ⟨rfl, H.out⟩⟩
  case round =>
    obtain ⟨k, hk, rfl, hmv, hr⟩ := hrel
    by_cases hki : k ≤ i
    · rw [if_pos hki] at hr
      obtain ⟨rfl, hr⟩ := hr
      obtain ⟨pv, h1, h2, h3, h4⟩ := hr
      have c0 := h1.c0
      have hsz := size_any h2
      have hks : k < st.size := Nat.lt_of_le_of_lt hki hi
      have hlm := look_text (HM.out.keep (hmv.block' (H.out.lt hl) hl)) (k : Int) (WalkArith.wf_i64 (by omega))
      by_cases hlt : k < i
      · rw [if_neg (by omega)] at hlm
        simp only [Option.getD_none, Option.isSome_none] at hlm
        have HR := Lib.hid (show ShP F wr b pb am um n A U bad err st from ⟨pv, h1, h2, h3, h4⟩)
        have HMV := Lib.hid hmv
        clear h1 h2 h3 h4 hmv
        go_wp2_with fail
        refine hsz.mono ?_
        rintro e w1 ⟨rfl, rfl⟩
        clear hsz
        go_wp2_with fail
        go_roundw
        case rel => exact ⟨k + 1, by omega, by go_num, HMV.out, by rw [if_pos (by omega)]; exact ⟨rfl, HR.out⟩⟩
        case measure => simp [intOf]; omega
      · have ek : k = i := by omega
        subst ek
        rw [if_pos rfl] at hlm
        simp only [Option.getD_some, Option.isSome_some] at hlm
        have hwt := write_any h2 (by omega) (by omega) (k : Int) (bstr t) (by rw [bstr_size]; unfold maxLen; omega)
        rw [bstr_list] at hwt
        have H1 := Lib.hid h1
        have H3 := Lib.hid h3
        have H4 := Lib.hid h4
        have HMV := Lib.hid hmv
        clear h1 h2 h3 h4 hmv
        go_wp2_with fail
        refine hsz.mono ?_
        rintro e w1 ⟨rfl, rfl⟩
        clear hsz
        go_wp2_with fail
        refine hwt.mono ?_
        rintro e w2 ⟨rfl, hto⟩
        obtain ⟨q1, q2⟩ := ShP.plate H1.out H3.out H4.out hto
        have Q1 := Lib.hid q1
        have Q2 := Lib.hid (HMV.out.trans q2 fun i hi => .inl hi)
        clear hto q1 q2 hwt
        go_wp2_with fail
        go_roundw
        case rel => exact ⟨k + 1, by omega, by go_num, Q2.out, by rw [if_neg (by omega)]; exact ⟨rfl, Q1.out⟩⟩
        case measure => simp [intOf]; omega
    · rw [if_neg hki] at hr
      obtain ⟨rfl, hr⟩ := hr
      obtain ⟨pv, h1, h2, h3, h4⟩ := hr
      have c0 := h1.c0
      have hsz := size_any h2
      have esz : (st.writeS (i : Int) t).size = st.size := PS.size_writeS _ _ _
      rw [esz] at hsz
      by_cases he : st.writeE i t = 0
      · have eE : wrE st i t = (st.writeS i t).syncE := by unfold wrE; rw [if_pos he]
        have eS : wrS st i t = (st.writeS i t).syncS := by unfold wrS; rw [if_pos he]
        rw [he]
        by_cases hlt : k < st.size
        · have hlm := look_text (HM.out.keep (hmv.block' (H.out.lt hl) hl)) (k : Int) (WalkArith.wf_i64 (by omega))
          rw [if_neg (by omega)] at hlm
          simp only [Option.getD_none, Option.isSome_none] at hlm
          have HR := Lib.hid (show ShP F wr b pb am um n A U bad err (st.writeS i t) from ⟨pv, h1, h2, h3, h4⟩)
          have HMV := Lib.hid hmv
          have HE := Lib.hid he
          clear h1 h2 h3 h4 hmv he eE eS
          go_wp2_with fail
          refine hsz.mono ?_
          rintro e w1 ⟨rfl, rfl⟩
          clear hsz
          go_wp2_with fail
          go_roundw
          case rel => exact ⟨k + 1, by omega, by go_num, HMV.out, by rw [if_neg (by omega)]; exact ⟨rfl, HR.out⟩⟩
          case measure => simp [intOf]; omega
        · have ek : k = st.size := by omega
          have hsy := sync_any h2 (by have := PS.calls_writeS st i t; omega) (by have := PS.wait_writeS st i t; omega)
          have H1 := Lib.hid h1
          have H3 := Lib.hid h3
          have H4 := Lib.hid h4
          have HMV := Lib.hid hmv
          have EE := Lib.hid eE
          have ES := Lib.hid eS
          clear h1 h2 h3 h4 hmv he eE eS
          go_wp2_with fail
          refine hsz.mono ?_
          rintro e w1 ⟨rfl, rfl⟩
          clear hsz
          go_wp2_with fail
          refine hsy.mono ?_
          rintro e w2 ⟨rfl, hto⟩
          obtain ⟨q1, q2⟩ := ShP.plate H1.out H3.out H4.out hto
          rw [← ES.out] at q1
          rw [← EE.out]
          have hm2 := HMV.out.trans q2 fun i hi => .inl hi
          have q3 := q1.setErr (.iface 25 (.int .i64 (wrE st i t)))
          obtain ⟨pv2, g1, -⟩ := id q1
          have c02 := g1.c4
          have f02 := g1.fro 4
          have Q1 := Lib.hid q1
          have Q3 := Lib.hid q3
          have Q2 := Lib.hid hm2
          clear hto q1 q2 hsy hm2 q3 g1 EE ES
          generalize hE : wrE st i t = er at Q3 ⊢
          have HE := Lib.hid hE
          clear hE
          by_cases her : er = 0
          · subst her
            go_wp2_with fail
            go_ret
            exact ⟨by rw [HE.out]; rfl, by rw [HE.out]; exact Q1.out, Q2.out⟩
          · have hne : (er != 0) = true := by simpa using her
            have HEV := Lib.hid (show errV (wrE st i t) err = .iface 25 (.int .i64 er) by unfold errV; rw [HE.out, if_neg her])
            clear her
            go_wp2_with fail
            go_ret
            exact ⟨by rw [HE.out]; rfl, by rw [HEV.out]; exact Q3.out.1, Q2.out.trans Q3.out.2 fun i hi => .inl hi⟩
      · have eE : wrE st i t = st.writeE i t := by unfold wrE; rw [if_neg he]
        have eS : wrS st i t = st.writeS i t := by unfold wrS; rw [if_neg he]
        have q1 : ShP F wr b pb am um n A U bad err (wrS st i t) := by rw [eS]; exact ⟨pv, h1, h2, h3, h4⟩
        rw [← eE]
        have q3 := q1.setErr (.iface 25 (.int .i64 (wrE st i t)))
        have c4 := h1.c4
        have f4 := h1.fro 4
        have hne0 : wrE st i t ≠ 0 := by rw [eE]; exact he
        have Q3 := Lib.hid q3
        have Q2 := Lib.hid hmv
        have hev : errV (wrE st i t) err = .iface 25 (.int .i64 (wrE st i t)) := by unfold errV; rw [if_neg hne0]
        generalize hE : wrE st i t = er at Q3 hne0 ⊢
        rw [hE] at hev
        have HE := Lib.hid hE
        have HEV := Lib.hid hev
        clear h1 h2 h3 h4 hmv q1 q3 eE eS he hE hev
        have hne : (er != 0) = true := by simpa using hne0
        have heq : (er == 0) = false := by simpa using hne0
        go_wp2_with fail
        refine hsz.mono ?_
        rintro e w1 ⟨rfl, rfl⟩
        clear hsz
        go_wp2_with fail
        all_goals
          go_ret
          exact ⟨by rw [HE.out]; rfl, by rw [HE.out, HEV.out]; exact Q3.out.1, Q2.out.trans Q3.out.2 fun i hi => .inl hi⟩
end
end Go.Proofs.YtkbncbkmaakpkaaDoor
