/- wire.steps: the closures that read a message. -/
import Derived.Test.YtkbncbkmaakpkaaDoorEnc
import Derived.Test.YtkbncbkmaakpkaaDoorFr
namespace Go.Proofs.YtkbncbkmaakpkaaDoor
open Go.RowKit
def clo1 (rv c : Nat) : Value := .func (.func 103) #[] #[.pointer (some ⟨rv, 0, none⟩), .pointer (some ⟨c, 0, none⟩)]
def clo3 (b rv mv : Nat) : List Value := [.func (.func 104) #[] #[.pointer (some ⟨rv, 0, none⟩), .pointer (some ⟨mv, 0, none⟩)], .func (.func 98) #[.pointer (some ⟨b, 0, none⟩)] #[], .func (.func 105) #[] #[.pointer (some ⟨mv, 0, none⟩)]]
/-- What a closure of a column captures. -/
structure IsC (w : World) (u i c : Nat) : Prop where
  c0 : w.cell? ⟨c, 0, none⟩ = some (.pointer (some ⟨u, i, none⟩))
  c1 : ∃ d, (cols u)[i * 2 + 1]? = some d ∧ w.cell? ⟨c, 1, none⟩ = some d
theorem IsC.keep {w w' : World} {u i c : Nat} (h : IsC w u i c) (hk : w'.heap[c]? = w.heap[c]?) : IsC w' u i c := by
  obtain ⟨d, h1, h2⟩ := h.c1
  exact ⟨(World.cell?_of_block (a := ⟨c, 0, none⟩) hk).trans h.c0, d, h1, (World.cell?_of_block (a := ⟨c, 1, none⟩) hk).trans h2⟩
structure SL (B : Nat) (w : World) (u rv : Nat) (v : Value) (fl : List Value) : Prop where
  row : w.ownsRow B 151 1 v fl.length fl
  fs : ∀ i f, fl[i]? = some f → ∃ c, f = clo1 rv c ∧ IsC w u i c ∧ B ≤ c ∧ v.ownBlock ≠ some c
  one : ∀ x ∈ fl, x.oneCell' = true
theorem Tryd.infoFn : (Tryd.prog.info? 151).map (fun i => (i.zero, i.size, i.bytes)) = some (some .nilFunc, 1, 8) := by kernel_rfl
theorem SL.push {B u rv k : Nat} {wr wA w5 : World} {v v5 : Value} {fl : List Value} (h : SL B wr u rv v fl) (hlen : fl.length = k) (hbA : Below wr.heap.size wr wA) (hBw : B ≤ wr.heap.size) (hcA : IsC wA u k wr.heap.size) (hs : wr.heap.size < wA.heap.size)
    (ho : w5.ownsRow B 151 1 v5 (fl.length + 1) (fl ++ [clo1 rv wr.heap.size])) (hg : wA.grownBy w5 v.ownBlock) (hor : v5.ownBlock = v.ownBlock ∨ ∀ q, v5.ownBlock = some q → wr.heap.size < q) : SL B w5 u rv v5 (fl ++ [clo1 rv wr.heap.size]) := by
  refine ⟨by rw [List.length_append]; exact ho, fun i f hi => ?_, fun x hx => ?_⟩
  · rcases Nat.lt_or_ge i fl.length with hlt | hge
    · rw [List.getElem?_append_left hlt] at hi
      obtain ⟨c, h1, h2, h3, h4⟩ := h.fs i f hi
      have hcl := World.block_lt_of_cell? wr _ h2.c0
      have hsz := hbA.size
      have hcl2 : c < wr.heap.size := hcl
      refine ⟨c, h1, h2.keep ((hg.block c (by omega) (fun e => h4 e.symm)).trans (hbA.block c hcl2)), h3, ?_⟩
      rcases hor with e | e
      · rw [e]; exact h4
      · intro e2; have := e _ e2; omega
    · rw [List.getElem?_append_right hge] at hi
      have hi0 : i - fl.length = 0 := by
        rcases Nat.eq_zero_or_pos (i - fl.length) with e | e
        · exact e
        · rw [List.getElem?_eq_none (by simp; omega)] at hi; cases hi
      rw [hi0] at hi
      have hik : i = k := by omega
      have hv : v.ownBlock ≠ some wr.heap.size := fun e => by have := h.row.lt _ e; omega
      refine ⟨wr.heap.size, by simpa using hi.symm, ?_, hBw, ?_⟩
      · rw [hik]; exact hcA.keep (hg.block _ hs (fun e => hv e.symm))
      · rcases hor with e | e
        · rw [e]; exact hv
        · intro e2; have := e _ e2; omega
  · rcases List.mem_append.1 hx with hx | hx
    · exact h.one x hx
    · simp at hx; subst hx; rfl
section
variable {w : World}
set_option maxRecDepth 100000 in
set_option maxHeartbeats 4000000 in
theorem steps_any (b u : Nat) : Calls Tryd.prog 59 #[.pointer (some ⟨b, 0, none⟩), .pointer (some ⟨u, 0, none⟩)] w fun e w' => ∃ g cap rv mv fl, e = .returned (.slice (some ⟨g, 0, none⟩) 10 cap) ∧ fl.length = 7 ∧
    (∀ i f, fl[i]? = some f → ∃ c, f = clo1 rv c ∧ IsC w' u i c ∧ w.heap.size ≤ c ∧ c ≠ g) ∧ (∀ i f, (fl ++ clo3 b rv mv)[i]? = some f → w'.cell? ⟨g, i, none⟩ = some f) ∧ w'.cell? ⟨rv, 0, none⟩ = some (.pointer (some ⟨b, 0, none⟩)) ∧ w'.cell? ⟨mv, 0, none⟩ = some (.pointer (some ⟨u, 0, none⟩)) ∧
    w.heap.size ≤ rv ∧ w.heap.size ≤ mv ∧ w.heap.size ≤ g ∧ Below w.heap.size w w' := by
  obtain ⟨i0, hi0, hz0, hz1, hz2⟩ := info_parts Tryd.infoFn
  have Hi := Lib.hid hi0
  have Hz := Lib.hid hz0
  have Hz1 := Lib.hid hz1
  have Hz2 := Lib.hid hz2
  clear hi0 hz0 hz1 hz2
  go_enter Tryd.func59, Tryd.ntmps59
  go_wp2_with fail
  generalize hW : (w.alloc (.cells #[.pointer (some ⟨b, 0, none⟩)] 122)).alloc (.cells #[.pointer (some ⟨u, 0, none⟩)] 141) = W
  have hbW : Below w.heap.size w W := by rw [← hW]; exact ((Below.refl _ _).alloc (Nat.le_refl _) _).alloc (by simp) _
  have hszW : W.heap.size = w.heap.size + 2 := by rw [← hW]; simp
  have hr0 : W.cell? ⟨w.heap.size, 0, none⟩ = some (.pointer (some ⟨b, 0, none⟩)) := by rw [← hW]; simp
  have hm0 : W.cell? ⟨w.heap.size + 1, 0, none⟩ = some (.pointer (some ⟨u, 0, none⟩)) := by rw [← hW, World.cell?_alloc_at _ _ _ _ (by simp)]; rfl
  have HBW := Lib.hid hbW
  have HSZ := Lib.hid hszW
  have HR0 := Lib.hid hr0
  have HM0 := Lib.hid hm0
  clear hW hbW hszW hr0 hm0
  have hcl := columns_any (w := W) u
  refine hcl.mono ?_
  rintro e w1 ⟨g, rfl, hg, hb1, hgl⟩
  have hb01 : Below w.heap.size w w1 := HBW.out.trans (hb1.mono (by have := HSZ.out; omega))
  have hs1 := hb1.size
  have HG := Lib.hid hg
  have HB1 := Lib.hid hb1
  have HB01 := Lib.hid hb01
  have HG0 := Lib.hid (World.block_lt_of_cell? w1 _ (hg 0 _ rfl))
  have HS1 := Lib.hid (show w.heap.size + 2 ≤ w1.heap.size by have := HSZ.out; omega)
  clear hcl hg hb1 hb01 hs1 hgl
  go_wp2_with fail
  go_loopw [5, 7, 11] (fun l _ c wr => ∃ (k : Nat) (fl : List Value), k ≤ 7 ∧ c = .int .i64 (k : Int) ∧ fl.length = k ∧ SL w1.heap.size wr u w.heap.size l fl ∧ Below w1.heap.size w1 wr) (fun _ _ c _ => 7 - (intOf c).toNat)
  case atStart => exact ⟨0, [], by omega, rfl, rfl, ⟨World.ownsRow_nil _ _ _ _, fun i f h => by simp at h, fun x hx => by simp at hx⟩, Below.refl _ _⟩
  case round =>
    obtain ⟨k, fl, hk, rfl, hlen, hsl, hbr⟩ := hrel
    obtain ⟨a, cap, rfl⟩ := row_lens hsl.row
    by_cases hlt : k < 7
    · have hcw : ∀ j, wr.cell? ⟨g, j, none⟩ = w1.cell? ⟨g, j, none⟩ := fun j => World.cell?_of_block (a := ⟨g, j, none⟩) (hbr.block g HG0.out)
      obtain ⟨dv, hdv⟩ : ∃ d : Int, (cols u)[k * 2 + 1]? = some (.int .i64 d) ∧ (cols u)[k * 2]? = some (.pointer (some ⟨u, k, none⟩)) := by
        match k, hlt with
        | 0, _ => exact ⟨_, rfl, rfl⟩
        | 1, _ => exact ⟨_, rfl, rfl⟩
        | 2, _ => exact ⟨_, rfl, rfl⟩
        | 3, _ => exact ⟨_, rfl, rfl⟩
        | 4, _ => exact ⟨_, rfl, rfl⟩
        | 5, _ => exact ⟨_, rfl, rfl⟩
        | 6, _ => exact ⟨_, rfl, rfl⟩
      have q0 : wr.cell? ⟨g, k * 2, none⟩ = some (.pointer (some ⟨u, k, none⟩)) := (hcw _).trans (HG.out _ _ hdv.2)
      have q1 : wr.cell? ⟨g, k * 2 + 1, none⟩ = some (.int .i64 dv) := (hcw _).trans (HG.out _ _ hdv.1)
      have HDV := Lib.hid hdv.1
      have HBR := Lib.hid hbr
      have HSL := Lib.hid hsl
      have HLen := Lib.hid hlen
      have hl7 : fl.length ≤ 7 := by omega
      have hml : fl.length + 1 ≤ maxLen := by unfold maxLen; omega
      have hbA : Below wr.heap.size wr ((wr.alloc (.cells #[.pointer (some ⟨u, k, none⟩), .int .i64 dv] 144)).alloc (.cells #[clo1 w.heap.size wr.heap.size] 151)) := ((Below.refl _ _).alloc (Nat.le_refl _) _).alloc (by simp) _
      have hcA : IsC ((wr.alloc (.cells #[.pointer (some ⟨u, k, none⟩), .int .i64 dv] 144)).alloc (.cells #[clo1 w.heap.size wr.heap.size] 151)) u k wr.heap.size := by
        refine ⟨?_, _, hdv.1, ?_⟩ <;> (rw [World.cell?_alloc_lt _ _ _ (by simp), World.cell?_alloc_new]; rfl)
      have hoA := World.ownsRow.alloc (World.ownsRow.alloc hsl.row (.cells #[.pointer (some ⟨u, k, none⟩), .int .i64 dv] 144)) (.cells #[clo1 w.heap.size wr.heap.size] 151)
      have hclA : ∀ j x, [clo1 w.heap.size wr.heap.size][j]? = some x → ((wr.alloc (.cells #[.pointer (some ⟨u, k, none⟩), .int .i64 dv] 144)).alloc (.cells #[clo1 w.heap.size wr.heap.size] 151)).cell? ((⟨wr.heap.size + 1, 0, none⟩ : Addr).add j) = some x := fun j x hj => by
        rw [Addr.add_mid, Nat.zero_add, World.cell?_alloc_at _ _ _ _ (by simp)]
        simpa using hj
      have O1 : ∀ x ∈ [clo1 w.heap.size wr.heap.size], x.oneCell' = true := fun x hx => by simp at hx; subst hx; rfl
      have HBA := Lib.hid hbA
      have HCA := Lib.hid hcA
      have HOA := Lib.hid hoA
      have HCL := Lib.hid hclA
      clear hdv hcw hbr hsl hlen hbA hcA hoA hclA
      go_wp2_with (refine wpList_append_own_at _ rfl (.tmp 15) (.tmp 17) 149 rfl w1.heap.size 151 i0 _ 1 8 Tryd.underlying149 Hi.out Hz.out Hz1.out Hz2.out rfl (by decide) _ fl.length fl rfl HOA.out ⟨wr.heap.size + 1, 0, none⟩ 1 1 [clo1 w.heap.size wr.heap.size] rfl rfl HCL.out O1 hml (by omega) (by have := HBR.out.size; simp; omega) ?_)
      intro v5 w5 hown5 hgrow hnn hor
      have hm5 : Moves (fun q => (Value.slice a fl.length cap).ownBlock = some q) wr w5 := (Moves.of_below HBA.out).grown hgrow fun q hq => .inl hq
      have hb5 : Below w1.heap.size w1 w5 := HBR.out.trans (hm5.below HBR.out.size fun q hq => (HSL.out.row.lt q hq).1)
      have hs5 := SL.push HSL.out HLen.out HBA.out HBR.out.size HCA.out (by simp; omega) hown5 hgrow (hor.imp id fun h q hq => by rw [h] at hq; cases hq; omega)
      have HB5 := Lib.hid hb5
      have HS5 := Lib.hid hs5
      clear hown5 hgrow hnn hor hm5 hb5 hs5 q0 q1
      go_wp2_with fail
      go_roundw
      case rel => exact ⟨k + 1, _, by omega, by go_num, by rw [List.length_append, HLen.out]; rfl, HS5.out, HB5.out⟩
      case measure => simp [intOf]; omega
    · have ek : k = 7 := by omega
      have e7 : fl.length = 7 := by omega
      have p0 : wr.cell? ⟨w.heap.size, 0, none⟩ = some (.pointer (some ⟨b, 0, none⟩)) := (World.cell?_of_block (a := ⟨w.heap.size, 0, none⟩) (hbr.block _ (by have := HS1.out; simp; omega))).trans ((World.cell?_of_block (a := ⟨w.heap.size, 0, none⟩) (HB1.out.block _ (by have := HSZ.out; simp; omega))).trans HR0.out)
      have p1 : wr.cell? ⟨w.heap.size + 1, 0, none⟩ = some (.pointer (some ⟨u, 0, none⟩)) := (World.cell?_of_block (a := ⟨w.heap.size + 1, 0, none⟩) (hbr.block _ (by have := HS1.out; simp; omega))).trans ((World.cell?_of_block (a := ⟨w.heap.size + 1, 0, none⟩) (HB1.out.block _ (by have := HSZ.out; simp; omega))).trans HM0.out)
      have hoA := World.ownsRow.alloc hsl.row (.cells (clo3 b w.heap.size (w.heap.size + 1)).toArray 151)
      have hclA := news_last wr (clo3 b w.heap.size (w.heap.size + 1)) 151
      have hbA : Below wr.heap.size wr (wr.alloc (.cells (clo3 b w.heap.size (w.heap.size + 1)).toArray 151)) := (Below.refl _ _).alloc (Nat.le_refl _) _
      have O3 : ∀ x ∈ clo3 b w.heap.size (w.heap.size + 1), x.oneCell' = true := fun x hx => by
        simp only [clo3, List.mem_cons, List.not_mem_nil, or_false] at hx
        rcases hx with rfl | rfl | rfl <;> rfl
      have hl7 : fl.length ≤ 7 := by omega
      have hml : fl.length + 3 ≤ maxLen := by unfold maxLen; omega
      have HBR := Lib.hid hbr
      have HSL := Lib.hid hsl
      have HOA := Lib.hid hoA
      have HCL := Lib.hid hclA
      have HBA := Lib.hid hbA
      have P0 := Lib.hid p0
      have P1 := Lib.hid p1
      have E7 := Lib.hid e7
      clear hbr hsl hoA hclA hbA ek hk hlen
      go_wp2_with (refine wpList_append_own_at _ rfl (.tmp 20) (.tmp 25) 149 rfl w1.heap.size 151 i0 _ 1 8 Tryd.underlying149 Hi.out Hz.out Hz1.out Hz2.out rfl (by decide) _ fl.length fl rfl HOA.out ⟨wr.heap.size, 0, none⟩ 3 3 (clo3 b w.heap.size (w.heap.size + 1)) rfl rfl HCL.out O3 hml (by omega) (by have := HBR.out.size; simp; omega) ?_)
      intro v5 w5 hown5 hgrow hnn hor
      obtain ⟨g5, cap5, rfl, -, -, hg5⟩ := ownsRow_slice hown5
      obtain ⟨g5, rfl⟩ := hg5 (by omega)
      have HOWN := Lib.hid hown5
      have HGROW := Lib.hid hgrow
      have HOR := Lib.hid hor
      clear hown5 hgrow hnn hor hg5 p0 p1
      go_wp2_with fail
      go_ret
      have hr3 : w5.ownsRow w1.heap.size 151 1 (.slice (some ⟨g5, 0, none⟩) 10 cap5) 10 (fl ++ clo3 b w.heap.size (w.heap.size + 1)) := HOWN.out
      have hg5l := (hr3.lt g5 rfl).1
      have hm5 : Moves (fun q => (Value.slice a 7 cap).ownBlock = some q) wr w5 := (Moves.of_below HBA.out).grown HGROW.out fun q hq => .inl hq
      have hb5 : Below w1.heap.size wr w5 := hm5.below HBR.out.size fun q hq => (HSL.out.row.lt q ((show (Value.slice a fl.length cap).ownBlock = some q by rw [E7.out]; exact hq))).1
      have hob : (Value.slice a fl.length cap).ownBlock = (Value.slice a 7 cap).ownBlock := by rw [E7.out]
      have hs1 := HS1.out
      refine ⟨g5, cap5, w.heap.size, w.heap.size + 1, fl, rfl, E7.out, fun i f hi => ?_, fun i f hi => by have := World.ownsRow.cells hr3 (g := g5) rfl i f hi; rwa [Addr.add_mid, Nat.zero_add] at this, ?_, ?_, Nat.le_refl _, by omega, by omega, HB01.out.trans ((HBR.out.trans hb5).mono (by omega))⟩
      · obtain ⟨c, h1, h2, h3, h4⟩ := HSL.out.fs i f hi
        have hcl := World.block_lt_of_cell? wr _ h2.c0
        have hcl2 : c < wr.heap.size := hcl
        refine ⟨c, h1, h2.keep (hm5.block c hcl2 (by rw [← hob]; exact h4)), by omega, fun e => ?_⟩
        subst e
        rcases HOR.out with h | h
        · exact h4 (by rw [hob, ← h]; rfl)
        · have h' : some c = some (wr.heap.size + 1) := h
          injection h' with h2; omega
      · exact (World.cell?_of_block (a := ⟨w.heap.size, 0, none⟩) (hb5.block _ (by simp; omega))).trans P0.out
      · exact (World.cell?_of_block (a := ⟨w.heap.size + 1, 0, none⟩) (hb5.block _ (by simp; omega))).trans P1.out
end
end Go.Proofs.YtkbncbkmaakpkaaDoor
