/- The reference's Take, Drop, Late, Cut. -/
import Derived.Test.YtibpkdaiaoccjaaBagH
import Derived.Test.YtibpkdaiaoccjaaCntPlain
namespace Go.Proofs.Ytibpkdaiaoccjaa
open Go.RowKit
section
variable {w : World} {b : Nat} {v : Value} {l : List Ms}
set_option maxRecDepth 100000 in
set_option maxHeartbeats 2000000 in
theorem rtake_any (h : Has w b v l) (hl : l.length ≤ 64) (i : Int) :
    Calls Try.prog 35 #[.pointer (some ⟨b, 0, none⟩), .int .i64 i] w fun e w' => e = .returned (.tuple #[(atM l i).val, .int .i64 (if atB l i then 0 else 3)]) ∧ Turned w b v (takeL l i) w' := by
  have hA := h.alloc (.cells Ms.zero.cells.toArray 23)
  have hbA : Below w.heap.size w (w.alloc (.cells Ms.zero.cells.toArray 23)) := (Below.refl _ _).alloc (Nat.le_refl _) _
  have hh := rhas_any hA i
  have hz := Boxed.made w Ms.zero 23
  have hzF : ∀ o, (w.alloc (.cells Ms.zero.cells.toArray 23)).frozen? ⟨w.heap.size, o, none⟩ = false := fun o => World.frozen?_alloc_new _ _ _ _
  cases hB : atB l i
  · have e1 : takeL l i = l := by simp [takeL, hB]
    have e2 : atM l i = Ms.zero := atM_none hB
    rw [hB] at hh
    rw [e1, e2]
    simp only [Bool.false_eq_true, if_false]
    clear e1 e2 hB
    go_enter Try.func35, Try.ntmps35
    go_wp2_with fail
    refine hh.mono ?_
    rintro e X ⟨rfl, hX⟩
    rw [hX] at hA hbA hz hzF
    have HA := Lib.hid hA
    have HbA := Lib.hid hbA
    clear hh hX hA hbA
    obtain ⟨y0, y1, y2, y3, y4, y5, y6, y7⟩ := hz.all
    have g0 := hzF 0
    have g1 := hzF 1
    have g2 := hzF 2
    have g3 := hzF 3
    have g4 := hzF 4
    have g5 := hzF 5
    have g6 := hzF 6
    have g7 := hzF 7
    clear hz hzF
    go_wp2_with fail
    refine bodyPost_ret (v := .tuple #[.agg #[.int .i64 0, .int .i64 0, .int .i64 0, .int .i64 0, .int .i64 0, .int .i64 0, .int .i64 0, .string ⟨#[]⟩], .int .i64 3]) (by simp [results, Try.results35, go_sem, y0, y1, y2, y3, y4, y5, y6, y7]) rfl ?_
    refine ⟨rfl, ?_⟩
    refine Turned.aside (r := w.heap.size) h HbA.out (Turned.refl HA.out) ?_ (Nat.le_refl _) (World.block_lt_of_cell? X _ y0)
    iterate 8 refine Moves.setCell ?_ _ _ (.inl rfl)
    exact Moves.refl _ _
  · obtain ⟨hmem, hlen⟩ := atM_mem hB
    obtain ⟨h0, hm⟩ := atB_some hB
    obtain ⟨n, rfl⟩ := Int.eq_ofNat_of_zero_le h0
    rw [Int.toNat_natCast] at hm
    have hn := (List.getElem?_eq_some_iff.1 hm).1
    have e1 : takeL l (n : Int) = l.eraseIdx n := by simp [takeL, hB]
    have hMf := h.fits _ hmem
    rw [hB] at hh
    rw [e1]
    simp only [if_true]
    generalize atM l (n : Int) = M at hm hMf ⊢
    clear e1 hB hmem h0
    unfold Ms.val
    go_enter Try.func35, Try.ntmps35
    go_wp2_with fail
    refine hh.mono ?_
    rintro e X ⟨rfl, hX⟩
    rw [hX] at hA hbA hz hzF
    have hsX : X.heap.size = w.heap.size + 1 := by rw [← hX]; simp
    obtain ⟨g, cap, rfl, hg, hc⟩ := hA.at hm
    have c0 := hA.c0
    have q0 := hc 0 _ rfl
    have q1 := hc 1 _ rfl
    have q2 := hc 2 _ rfl
    have q3 := hc 3 _ rfl
    have q4 := hc 4 _ rfl
    have q5 := hc 5 _ rfl
    have q6 := hc 6 _ rfl
    have q7 := hc 7 _ rfl
    rw [Nat.add_zero] at q0
    have hwo := without_any (hA.alloc (.cells M.cells.toArray 23)) (by omega) n hn
    have hbB : Below w.heap.size w (X.alloc (.cells M.cells.toArray 23)) := hbA.alloc hbA.size _
    have hzB : Boxed (X.alloc (.cells M.cells.toArray 23)) w.heap.size Ms.zero := hz.below ((Below.refl _ _).alloc (Nat.le_refl _) _)
    have hmB : Boxed (X.alloc (.cells M.cells.toArray 23)) X.heap.size M := Boxed.made _ _ _
    have hfB : ∀ o, (X.alloc (.cells M.cells.toArray 23)).frozen? ⟨w.heap.size, o, none⟩ = false := fun o => (World.frozen?_of_block (a := ⟨w.heap.size, o, none⟩) (Below.heap_alloc _ _ _ (by show w.heap.size < X.heap.size; omega))).trans (hzF o)
    have HbB := Lib.hid hbB
    have HzB := Lib.hid hzB
    have HmB := Lib.hid hmB
    have HfB := Lib.hid hfB
    have hsB : (X.alloc (.cells M.cells.toArray 23)).heap.size = X.heap.size + 1 := by simp
    have HsB := Lib.hid hsB
    have HsX := Lib.hid hsX
    clear hh hX hA hbA hz hzF hc hm hbB hzB hmB hfB hsB hsX
    go_wp2_with fail
    refine hwo.mono ?_
    rintro e w2 ⟨v2, rfl, ho2, hb2⟩
    obtain ⟨a2, cap2, rfl⟩ := row_len ho2
    have hs2 := hb2.size
    have hT : Turned (X.alloc (.cells M.cells.toArray 23)) b (.slice (some ⟨g, 0, none⟩) l.length cap) (l.eraseIdx n) (w2.setCell ⟨b, 0, none⟩ (.slice a2 (l.eraseIdx n).length cap2)) :=
      (h.below HbB.out).anew hb2 (ownsRow_base ho2 fun k hk => Nat.zero_le _) (fun k hk => (ho2.lt k hk).1) (fun x hx => h.fits x (List.mem_of_mem_eraseIdx hx))
    have hbl := h.lt b (.inl rfl)
    have hk2 : ∀ q, w.heap.size ≤ q → q < X.heap.size + 1 → (w2.setCell ⟨b, 0, none⟩ (.slice a2 (l.eraseIdx n).length cap2)).heap[q]? = (X.alloc (.cells M.cells.toArray 23)).heap[q]? := fun q h1 h2 =>
      (Below.heap_setCell _ _ _ _ (by simp; omega)).trans (hb2.block q (by rw [HsB.out]; exact h2))
    have hss : X.heap.size + 1 ≤ (w2.setCell ⟨b, 0, none⟩ (.slice a2 (l.eraseIdx n).length cap2)).heap.size := by simp; rw [HsB.out] at hs2; exact hs2
    have hzC : Boxed (w2.setCell ⟨b, 0, none⟩ (.slice a2 (l.eraseIdx n).length cap2)) w.heap.size Ms.zero := HzB.out.keep (hk2 _ (Nat.le_refl _) (by have := HsX.out; omega)) (by rw [HsB.out]; exact hss)
    have hmC : Boxed (w2.setCell ⟨b, 0, none⟩ (.slice a2 (l.eraseIdx n).length cap2)) X.heap.size M := HmB.out.keep (hk2 X.heap.size (by have := HsX.out; omega) (by omega)) (by rw [HsB.out]; exact hss)
    have hfC : ∀ o, (w2.setCell ⟨b, 0, none⟩ (.slice a2 (l.eraseIdx n).length cap2)).frozen? ⟨w.heap.size, o, none⟩ = false := fun o => (World.frozen?_of_block (a := ⟨w.heap.size, o, none⟩) (hk2 w.heap.size (Nat.le_refl _) (by have := HsX.out; omega))).trans (HfB.out o)
    have h2 := (h.below HbB.out).below hb2
    have c2 := h2.c0
    have f2 := h2.fro 0
    have hrz : w.heap.size < (w2.setCell ⟨b, 0, none⟩ (.slice a2 (l.eraseIdx n).length cap2)).heap.size := hzC.1
    obtain ⟨y0, y1, y2, y3, y4, y5, y6, y7⟩ := hzC.all
    obtain ⟨x0, x1, x2, x3, x4, x5, x6, x7⟩ := hmC.all
    have g0 := hfC 0
    have g1 := hfC 1
    have g2 := hfC 2
    have g3 := hfC 3
    have g4 := hfC 4
    have g5 := hfC 5
    have g6 := hfC 6
    have g7 := hfC 7
    have HT := Lib.hid hT
    have hsw : w.heap.size ≤ w2.heap.size := by have := HbB.out.size; omega
    clear hwo ho2 hb2 hs2 hk2 hss hzC hmC hfC hT h2 q0 q1 q2 q3 q4 q5 q6 q7 c0
    go_wp2_with fail
    refine bodyPost_ret (v := .tuple #[.agg #[.int .i64 M.kind, .int .i64 M.src, .int .i64 M.dst, .int .i64 M.epoch, .int .i64 M.seq, .int .i64 M.off, .int .i64 M.len, .string M.data], .int .i64 0]) (by simp [results, Try.results35, go_sem, y0, y1, y2, y3, y4, y5, y6, y7]) rfl ?_
    refine ⟨rfl, ?_⟩
    refine Turned.aside (r := w.heap.size) h HbB.out HT.out ?_ (Nat.le_refl _) HzB.out.1
    iterate 8 refine Moves.setCell ?_ _ _ (.inl rfl)
    exact Moves.refl _ _
set_option maxRecDepth 100000 in
set_option maxHeartbeats 1000000 in
theorem rdrop_any (h : Has w b v l) (hl : l.length ≤ 64) (i : Int) :
    Calls Try.prog 36 #[.pointer (some ⟨b, 0, none⟩), .int .i64 i] w fun e w' => e = .returned (.int .i64 (if atB l i then 0 else 3)) ∧ Turned w b v (takeL l i) w' := by
  have hd := rtake_any h hl i
  generalize takeL l i = l2 at hd ⊢
  generalize (if atB l i = true then (0 : Int) else 3) = ee at hd ⊢
  generalize atM l i = M at hd
  unfold Ms.val at hd
  go_enter Try.func36, Try.ntmps36
  go_wp2_with fail
  refine hd.mono ?_
  rintro e w1 ⟨rfl, hT⟩
  clear hd
  have HT := Lib.hid hT
  clear hT
  go_wp2_with fail
  go_ret
  exact ⟨rfl, HT.out.more ((Below.refl _ _).alloc (Nat.le_refl _) _)⟩
theorem Has.turned {w1 : World} {l' : List Ms} (hT : Turned w b v l' w1) : ∃ v1, Has w1 b v1 l' ∧ ∀ l2 w2, Turned w1 b v1 l2 w2 → Turned w b v l2 w2 := by
  obtain ⟨v', hh, m, hf, ho⟩ := hT
  exact ⟨v', hh, fun l2 w2 h2 => Turned.trans m hf ho h2⟩
set_option maxRecDepth 100000 in
set_option maxHeartbeats 1000000 in
theorem rlate_any (h : Has w b v l) (hl : l.length ≤ 64) (hck : ∀ m ∈ l, m.check = 0) (i : Int) :
    Calls Try.prog 37 #[.pointer (some ⟨b, 0, none⟩), .int .i64 i] w fun e w' => e = .returned (.int .i64 (if atB l i then 0 else 3)) ∧ Turned w b v (lateL l i) w' := by
  have hd := rtake_any h hl i
  cases hB : atB l i
  · have e1 : lateL l i = l := by rw [lateL, hB]; rfl
    have e2 : takeL l i = l := by rw [takeL, hB]; rfl
    rw [hB, e2] at hd
    rw [e1]
    generalize atM l i = M at hd
    unfold Ms.val at hd
    simp only [Bool.false_eq_true, if_false] at hd ⊢
    clear e1 hB e2
    go_enter Try.func37, Try.ntmps37
    go_wp2_with fail
    refine hd.mono ?_
    rintro e w1 ⟨rfl, hT⟩
    have HT := Lib.hid hT
    clear hd hT
    go_wp2_with fail
    go_ret
    exact ⟨rfl, HT.out.more ((Below.refl _ _).alloc (Nat.le_refl _) _)⟩
  · obtain ⟨hmem, hlen⟩ := atM_mem hB
    have e1 : lateL l i = l.eraseIdx i.toNat ++ [atM l i] := by rw [lateL, hB]; rfl
    have e2 : takeL l i = l.eraseIdx i.toNat := by rw [takeL, hB]; rfl
    have hMf := h.fits _ hmem
    have hMc := hck _ hmem
    rw [hB, e2] at hd
    rw [e1]
    generalize atM l i = M at hd hMf hMc ⊢
    unfold Ms.val at hd
    simp only [if_true] at hd ⊢
    clear e1 hB hmem e2
    go_enter Try.func37, Try.ntmps37
    go_wp2_with fail
    refine hd.mono ?_
    rintro e w1 ⟨rfl, hT⟩
    have hbA : Below w1.heap.size w1 (w1.alloc (.cells M.cells.toArray 23)) := (Below.refl _ _).alloc (Nat.le_refl _) _
    obtain ⟨v1, hb1, hgo⟩ := Has.turned (hT.more hbA)
    have hsd := rsend_any hb1 (by omega) M hMf
    have e3 : sendS (l.eraseIdx i.toNat) M = l.eraseIdx i.toNat ++ [M] := by rw [sendS, if_pos ⟨hMc, by omega⟩]
    rw [e3] at hsd
    generalize sendE (l.eraseIdx i.toNat) M = ee at hsd
    unfold Ms.val at hsd
    have Hgo := Lib.hid hgo
    clear hd hT hbA hgo hlen hMc e3
    go_wp2_with fail
    refine hsd.mono ?_
    rintro e w2 ⟨rfl, hT⟩
    have HT := Lib.hid (Hgo.out _ _ hT)
    clear hsd hT
    go_wp2_with fail
    go_ret
    exact ⟨rfl, HT.out⟩
set_option maxRecDepth 100000 in
set_option maxHeartbeats 4000000 in
theorem rcut_any (h : Has w b v l) (hl : l.length ≤ 64) (z : Int) :
    Calls Try.prog 38 #[.pointer (some ⟨b, 0, none⟩), .int .i64 z] w fun e w' => e = .returned (.int .i64 ((l.length : Int) - ((keepL (wishOf z) 0 l).length : Int))) ∧ Turned w b v (keepL (wishOf z) 0 l) w' := by
  obtain ⟨i0, hi0, hz0, hz1, hz2⟩ := info_parts Try.infoMsg
  have Hi := Lib.hid hi0
  have Hz := Lib.hid hz0
  have Hz1 := Lib.hid hz1
  have Hz2 := Lib.hid hz2
  have Hh := Lib.hid h
  have hown0 : (w.alloc (.cells #[] 23)).ownsRow w.heap.size 23 8 (.slice (some ⟨w.heap.size, 0, none⟩) 0 0) 0 [] := World.ownsRow_lit (base := w.heap.size) (size := 8) (e := 23) w #[] 0 (Nat.le_refl _) (by unfold maxLen; omega) rfl
  have HO := Lib.hid hown0
  obtain ⟨a, cap, rfl⟩ := h.lens
  clear hi0 hz0 hz1 hz2 h hown0
  go_enter Try.func38, Try.ntmps38
  go_wp2_with fail
  go_loopw [5, 6] (fun v5 i wr => ∃ k : Nat, k ≤ l.length ∧ i = .int .i64 (k : Int) ∧ Below w.heap.size w wr ∧ wr.ownsRow w.heap.size 23 8 v5 (keepL (wishOf z) 0 (l.take k)).length (mrows (keepL (wishOf z) 0 (l.take k))))
    (fun _ i _ => l.length - (intOf i).toNat)
  case atStart => exact ⟨0, Nat.zero_le _, rfl, (Below.refl _ _).alloc (Nat.le_refl _) _, HO.out⟩
  case round =>
    obtain ⟨k, hk, rfl, hb, hown⟩ := hrel
    have hh2 := Hh.out.below hb
    have c0 := hh2.c0
    by_cases hlt : k < l.length
    · obtain ⟨m, hm⟩ : ∃ m, l[k]? = some m := ⟨_, List.getElem?_eq_getElem hlt⟩
      obtain ⟨g, cap2, hv, hg, hc⟩ := hh2.at hm
      simp only [Value.slice.injEq] at hv
      obtain ⟨rfl, -, -⟩ := hv
      have q1 := hc 1 _ rfl
      have q2 := hc 2 _ rfl
      have hsn : keepL (wishOf z) 0 (l.take (k + 1)) = keepL (wishOf z) 0 (l.take k) ++ (if wishOf z k m then [] else [m]) := by
        have e : l.take (k + 1) = l.take k ++ [m] := by rw [List.take_add_one, hm]; rfl
        rw [e, keepL_snoc, show 0 + (l.take k).length = k by simp; omega]
      have hkl2 : (keepL (wishOf z) 0 (l.take k)).length ≤ k := by have := keepL_len (wishOf z) (l.take k) 0; rw [List.length_take] at this; omega
      by_cases hz : wishOf z k m = true
      · rw [if_pos hz, List.append_nil] at hsn
        have hown4 : wr.ownsRow w.heap.size 23 8 u5 (keepL (wishOf z) 0 (l.take (k + 1))).length (mrows (keepL (wishOf z) 0 (l.take (k + 1)))) := by rw [hsn]; exact hown
        have H4 := Lib.hid hown4
        have HA := Lib.hid hb
        by_cases h1 : m.dst = z
        · have e1 : (m.dst != z) = false := by simpa using h1
          clear hm hc hsn hown hz hb hg hown4 hh2 h1
          go_wp2_with fail
          go_roundw
          case rel => exact ⟨k + 1, by omega, by go_num, HA.out, H4.out⟩
          case measure => simp [intOf]; omega
        · have e1 : (m.dst != z) = true := by simpa using h1
          have e2 : (m.src != z) = false := by
            have e3 : (m.dst == z) = false := by simpa using h1
            rw [wishOf, e3, Bool.false_or] at hz
            simpa using hz
          clear hm hc hsn hown hz hb hg hown4 hh2 h1
          go_wp2_with fail
          go_roundw
          case rel => exact ⟨k + 1, by omega, by go_num, HA.out, H4.out⟩
          case measure => simp [intOf]; omega
      · rw [if_neg hz] at hsn
        have hzf : wishOf z k m = false := by simpa using hz
        rw [wishOf, Bool.or_eq_false_iff] at hzf
        have e1 : (m.dst != z) = true := by have := hzf.1; simpa using this
        have e2 : (m.src != z) = true := by have := hzf.2; simpa using this
        have q0 := hc 0 _ rfl
        have q3 := hc 3 _ rfl
        have q4 := hc 4 _ rfl
        have q5 := hc 5 _ rfl
        have q6 := hc 6 _ rfl
        have q7 := hc 7 _ rfl
        rw [Nat.add_zero] at q0
        have Hsn := Lib.hid hsn
        have hownB := hown.alloc (.cells m.cells.toArray 23)
        have hnl := news_last wr m.cells 23
        have hml : (keepL (wishOf z) 0 (l.take k)).length + 1 ≤ maxLen := by unfold maxLen; omega
        have hbs : w.heap.size ≤ (wr.alloc (.cells m.cells.toArray 23)).heap.size := by have := hb.size; simp; omega
        have h1c := one_mcells m
        have HB := Lib.hid hownB
        have HN := Lib.hid hnl
        have HBW := Lib.hid hb
        clear hm hc hsn hownB hnl hown hz hb hg hh2 hzf
        go_wp2_with (refine wpList_append_lies _ rfl (.tmp 40) (.tmp 48) 27 rfl w.heap.size 23 i0 _ 8 72 Try.underlying27 Hi.out Hz.out Hz1.out Hz2.out rfl (by decide) u5 (keepL (wishOf z) 0 (l.take k)).length (mrows (keepL (wishOf z) 0 (l.take k))) rfl HB.out ⟨wr.heap.size, 0, none⟩ 1 1 m.cells rfl rfl HN.out h1c (by decide) hml (by omega) hbs _ rfl ?_)
        intro g2 capn w3 hown hgrow hat hlt3
        have hb3 : Below w.heap.size w w3 := HBW.out.trans ⟨hgrow.os, hgrow.tape, hgrow.output, by have := hgrow.size; simp at this; omega, fun q hq => (hgrow.block q (by have := HBW.out.size; simp; omega) (fun e => by have := (HB.out.lt q e.symm).1; omega)).trans (Below.heap_alloc _ _ _ (by have := HBW.out.size; omega))⟩
        have hown4 : w3.ownsRow w.heap.size 23 8 (.slice (some ⟨g2, 0, none⟩) ((keepL (wishOf z) 0 (l.take k)).length + 1) capn) (keepL (wishOf z) 0 (l.take (k + 1))).length (mrows (keepL (wishOf z) 0 (l.take (k + 1)))) := by
          rw [Hsn.out]
          rw [List.length_append, mrows_snoc]
          exact hown
        have H4 := Lib.hid hown4
        clear hown hgrow hat hown4 h1c q0 q1 q2 q3 q4 q5 q6 q7 c0
        go_wp2_with fail
        go_roundw
        case rel => exact ⟨k + 1, by omega, by go_num, hb3, H4.out⟩
        case measure => simp [intOf]; omega
    · have ek : l.take k = l := List.take_of_length_le (by omega)
      rw [ek] at hown
      have hkl := keepL_len (wishOf z) l 0
      have hT := Hh.out.anew hb (ownsRow_base hown fun _ _ => Nat.zero_le _) (fun q hq => (hown.lt q hq).1) (fun x hx => Hh.out.fits x (keepL_mem (wishOf z) l 0 x hx))
      obtain ⟨R, hR⟩ : ∃ R, keepL (wishOf z) 0 l = R := ⟨_, rfl⟩
      rw [hR] at hown hkl hT
      have HR := Lib.hid hR
      obtain ⟨a5, cap5, rfl⟩ := row_len hown
      have HT := Lib.hid hT
      have f0 := hh2.fro 0
      clear hown ek hb hh2 hT hR
      go_wp2_with fail
      go_ret
      rw [HR.out]
      exact ⟨rfl, HT.out⟩
end
end Go.Proofs.Ytibpkdaiaoccjaa
