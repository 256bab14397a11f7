/- The reference's For. -/
import Derived.Test.YtibpkdaiaoccjaaBagF
namespace Go.Proofs.Ytibpkdaiaoccjaa
open Go.RowKit
section
variable {w : World} {b : Nat} {v : Value} {l : List Ms}
set_option maxRecDepth 100000 in
set_option maxHeartbeats 4000000 in
theorem rfor_any (h : Has w b v l) (hl : l.length ≤ 1000) (z : Int) :
    Calls Try.prog 25 #[.pointer (some ⟨b, 0, none⟩), .int .i64 z] w fun e w' => ∃ v', e = .returned v' ∧ w'.ownsRow w.heap.size 3 1 v' (forI z 0 l).length (icells (forI z 0 l)) ∧ Below w.heap.size w w' := by
  obtain ⟨i0, hi0, hz0, hz1, hz2⟩ := info_parts Try.infoInt
  have Hi := Lib.hid hi0
  have Hz := Lib.hid hz0
  have Hz1 := Lib.hid hz1
  have Hz2 := Lib.hid hz2
  have Hh := Lib.hid h
  have hown0 : (w.alloc (.cells #[] 3)).ownsRow w.heap.size 3 1 (.slice (some ⟨w.heap.size, 0, none⟩) 0 0) 0 [] := World.ownsRow_lit (base := w.heap.size) (size := 1) (e := 3) w #[] 0 (Nat.le_refl _) (by unfold maxLen; omega) rfl
  have HO := Lib.hid hown0
  obtain ⟨a, cap, rfl⟩ := h.lens
  clear hi0 hz0 hz1 hz2 h hown0
  go_enter Try.func25, Try.ntmps25
  go_wp2_with fail
  go_loopw [5, 6] (fun v5 i wr => ∃ k : Nat, k ≤ l.length ∧ i = .int .i64 (k : Int) ∧ Below w.heap.size w wr ∧ wr.ownsRow w.heap.size 3 1 v5 (forI z 0 (l.take k)).length (icells (forI z 0 (l.take k))))
    (fun _ i _ => l.length - (intOf i).toNat)
  case atStart => exact ⟨0, Nat.zero_le _, rfl, (Below.refl _ _).alloc (Nat.le_refl _) _, HO.out⟩
  case round =>
    obtain ⟨k, hk, rfl, hb, hown⟩ := hrel
    have hh2 := Hh.out.below hb
    have c0 := hh2.c0
    by_cases hlt : k < l.length
    · obtain ⟨m, hm⟩ : ∃ m, l[k]? = some m := ⟨_, List.getElem?_eq_getElem hlt⟩
      obtain ⟨g, cap2, hv, hg, hc⟩ := hh2.at hm
      simp only [Value.slice.injEq] at hv
      obtain ⟨rfl, -, -⟩ := hv
      have q2 := hc 2 _ rfl
      have hsn : forI z 0 (l.take (k + 1)) = forI z 0 (l.take k) ++ (if m.dst = z then [k] else []) := by
        have e : l.take (k + 1) = l.take k ++ [m] := by rw [List.take_add_one, hm]; rfl
        rw [e, forI_snoc, show 0 + (l.take k).length = k by simp; omega]
      have hkl2 : (forI z 0 (l.take k)).length ≤ k := by have := forI_len z (l.take k) 0; rw [List.length_take] at this; omega
      by_cases hz : m.dst = z
      · have hzb : (m.dst == z) = true := by simpa using hz
        rw [if_pos hz] at hsn
        have Hsn := Lib.hid hsn
        have hownB := hown.alloc (.cells #[.int .i64 (k : Int)] 3)
        have hnl := news_last wr [.int .i64 (k : Int)] 3
        have hml : (forI z 0 (l.take k)).length + 1 ≤ maxLen := by unfold maxLen; omega
        have hbs : w.heap.size ≤ (wr.alloc (.cells #[.int .i64 (k : Int)] 3)).heap.size := by have := hb.size; simp; omega
        have h1c : ∀ q ∈ [Value.int .i64 (k : Int)], q.oneCell' = true := by
          intro q hq
          simp only [List.mem_cons, List.not_mem_nil, or_false] at hq
          rw [hq]; rfl
        have HB := Lib.hid hownB
        have HN := Lib.hid hnl
        have HBW := Lib.hid hb
        clear hm hc hsn hownB hnl hown hz hb hg hh2
        go_wp2_with (refine wpList_append_lies _ rfl (.tmp 27) (.tmp 29) 42 rfl w.heap.size 3 i0 _ 1 8 Try.underlying42 Hi.out Hz.out Hz1.out Hz2.out rfl (by decide) u5 (forI z 0 (l.take k)).length (icells (forI z 0 (l.take k))) rfl HB.out ⟨wr.heap.size, 0, none⟩ 1 1 [.int .i64 (k : Int)] rfl rfl HN.out h1c (by decide) hml (by omega) hbs _ rfl ?_)
        intro g2 capn w3 hown hgrow hat hlt3
        have hb3 : Below w.heap.size w w3 := HBW.out.trans ⟨hgrow.os, hgrow.tape, hgrow.output, by have := hgrow.size; simp at this; omega, fun q hq => (hgrow.block q (by have := HBW.out.size; simp; omega) (fun e => by have := (HB.out.lt q e.symm).1; omega)).trans (Below.heap_alloc _ _ _ (by have := HBW.out.size; omega))⟩
        have hown4 : w3.ownsRow w.heap.size 3 1 (.slice (some ⟨g2, 0, none⟩) ((forI z 0 (l.take k)).length + 1) capn) (forI z 0 (l.take (k + 1))).length (icells (forI z 0 (l.take (k + 1)))) := by
          rw [Hsn.out, List.length_append, icells_snoc]
          exact hown
        have H4 := Lib.hid hown4
        clear hown hgrow hat hown4 h1c q2 c0
        go_wp2_with fail
        go_roundw
        case rel => exact ⟨k + 1, by omega, by go_num, hb3, H4.out⟩
        case measure => simp [intOf]; omega
      · have hzb : (m.dst == z) = false := by simpa using hz
        rw [if_neg hz, List.append_nil] at hsn
        have hown4 : wr.ownsRow w.heap.size 3 1 u5 (forI z 0 (l.take (k + 1))).length (icells (forI z 0 (l.take (k + 1)))) := by rw [hsn]; exact hown
        have H4 := Lib.hid hown4
        have HA := Lib.hid hb
        clear hm hc hsn hown hz hb hg hown4 hh2
        go_wp2_with fail
        go_roundw
        case rel => exact ⟨k + 1, by omega, by go_num, HA.out, H4.out⟩
        case measure => simp [intOf]; omega
    · have ek : l.take k = l := List.take_of_length_le (by omega)
      rw [ek] at hown
      have H4 := Lib.hid hown
      have HA := Lib.hid hb
      clear hown ek hb hh2
      go_wp2_with fail
      go_ret
      exact ⟨_, rfl, H4.out, HA.out⟩
end
end Go.Proofs.Ytibpkdaiaoccjaa
