/- wire.steps: each closure's own walk. -/
import Derived.Test.YtkbncbkmaakpkaaDoorStp
import Derived.Test.YtkbncbkmaakpkaaDoorLoad
namespace Go.Proofs.YtkbncbkmaakpkaaDoor
open Go.RowKit
theorem rnumd {w : World} {b i : Nat} {L : List UInt8} (h : IsR w b L i) (hl : L.length ≤ 1000000) {d n : Nat} (hd : d = 1 ∨ d = 2 ∨ d = 8) (hi : i + d ≤ L.length) (hv : leV ((L.drop i).take d) = n) (hn : n < 9223372036854775808) :
    Calls Tryd.prog 96 #[.pointer (some ⟨b, 0, none⟩), .int .i64 (d : Int)] w fun e w' => e = .returned (.tuple #[.int .i64 (n : Int), .nilIface]) ∧ IsR w' b L (i + d) ∧ Moves (fun q => q = b) w w' := by
  subst hv
  rcases hd with rfl | rfl | rfl
  · exact rnum1 h hl hi hn
  · exact rnum2 h hl hi hn
  · exact rnum8 h hl hi hn
section
variable {w : World} {b j u rv : Nat} {L : List UInt8}
set_option maxRecDepth 100000 in
set_option maxHeartbeats 2000000 in
theorem st1_any (h : IsR w b L j) (hl : L.length ≤ 1000000) {c i d n : Nat} (hr : w.cell? ⟨rv, 0, none⟩ = some (.pointer (some ⟨b, 0, none⟩))) (c0 : w.cell? ⟨c, 0, none⟩ = some (.pointer (some ⟨u, i, none⟩))) (c1 : w.cell? ⟨c, 1, none⟩ = some (.int .i64 (d : Int)))
    (hd : d = 1 ∨ d = 2 ∨ d = 8) (hi : j + d ≤ L.length) (hv : leV ((L.drop j).take d) = n) (hn : n < 9223372036854775808) {old : Value} (hu : w.cell? ⟨u, i, none⟩ = some old) (hf : w.frozen? ⟨u, i, none⟩ = false) (hub : u ≠ b) (hcb : c ≠ b) :
    Calls Tryd.prog 103 #[.pointer (some ⟨rv, 0, none⟩), .pointer (some ⟨c, 0, none⟩)] w fun e w' => e = .returned .nilIface ∧ ∃ w1, IsR w1 b L (j + d) ∧ Moves (fun q => q = b) w w1 ∧ w' = w1.setCell ⟨u, i, none⟩ (.int .i64 (n : Int)) := by
  have hp := rnumd (h.below (Below.refl _ _).drew) hl hd hi hv hn
  have hul := World.block_lt_of_cell? w _ hu
  have c0' : w.drew.cell? ⟨c, 0, none⟩ = some (.pointer (some ⟨u, i, none⟩)) := c0
  have c1' : w.drew.cell? ⟨c, 1, none⟩ = some (.int .i64 (d : Int)) := c1
  have hr' : w.drew.cell? ⟨rv, 0, none⟩ = some (.pointer (some ⟨b, 0, none⟩)) := hr
  have HM : Hid (∀ w1, Moves (fun q => q = b) w.drew w1 → Moves (fun q => q = b) w w1 ∧ w1.cell? ⟨u, i, none⟩ = some old ∧ w1.frozen? ⟨u, i, none⟩ = false ∧ w1.cell? ⟨c, 0, none⟩ = some (.pointer (some ⟨u, i, none⟩))) := Lib.hid fun w1 hm =>
    ⟨⟨hm.os, hm.tape, hm.output, hm.size, hm.block⟩, (World.cell?_of_block (a := ⟨u, i, none⟩) (hm.block u hul hub)).trans hu, (World.frozen?_of_block (a := ⟨u, i, none⟩) (hm.block u hul hub)).trans hf, (World.cell?_of_block (a := ⟨c, 0, none⟩) (hm.block c (World.block_lt_of_cell? w _ c0) hcb)).trans c0⟩
  clear h hd hi hv hn hu hf hul hl
  go_enter Tryd.func103, Tryd.ntmps103
  go_wp2_with fail
  go_region_law (first
    | (go_simp
       go_at_call 96
       refine hp.mono ?_
       rintro e w1 ⟨rfl, hr1, hm1⟩
       obtain ⟨hm2, q0, q1, q2⟩ := HM.out _ hm1
       have HR1 := Lib.hid hr1
       have HM1 := Lib.hid hm2
       clear hr1 hm1 hm2))
  all_goals
    clear hp
    go_wp2_with fail
    go_ret
    exact ⟨rfl, _, HR1.out, HM1.out, rfl⟩
set_option maxRecDepth 100000 in
set_option maxHeartbeats 2000000 in
theorem st2_any (h : IsR w b L j) (hl : L.length ≤ 1000000) {mv n : Nat} (hr : w.cell? ⟨rv, 0, none⟩ = some (.pointer (some ⟨b, 0, none⟩))) (c0 : w.cell? ⟨mv, 0, none⟩ = some (.pointer (some ⟨u, 0, none⟩)))
    (hi : j + 2 ≤ L.length) (hn : leV ((L.drop j).take 2) = n) (hn1 : n ≤ 1024) (hn2 : j + 2 + n ≤ L.length) {s : ByteArray} (hs : bstr ((L.drop (j + 2)).take n) = s) {old : Value} (hu : w.cell? ⟨u, 7, none⟩ = some old) (hf : w.frozen? ⟨u, 7, none⟩ = false) (hub : u ≠ b) (hcb : mv ≠ b) :
    Calls Tryd.prog 104 #[.pointer (some ⟨rv, 0, none⟩), .pointer (some ⟨mv, 0, none⟩)] w fun e w' => e = .returned .nilIface ∧ ∃ w1, IsR w1 b L (j + 2 + n) ∧ Moves (fun q => q = b) w w1 ∧ w' = w1.setCell ⟨u, 7, none⟩ (.string s) := by
  have hp := rtext (h.below (Below.refl _ _).drew) hl hi n hn hn1 hn2
  rw [hs] at hp
  have hul := World.block_lt_of_cell? w _ hu
  have c0' : w.drew.cell? ⟨mv, 0, none⟩ = some (.pointer (some ⟨u, 0, none⟩)) := c0
  have hr' : w.drew.cell? ⟨rv, 0, none⟩ = some (.pointer (some ⟨b, 0, none⟩)) := hr
  have HM : Hid (∀ w1, Moves (fun q => q = b) w.drew w1 → Moves (fun q => q = b) w w1 ∧ w1.cell? ⟨u, 7, none⟩ = some old ∧ w1.frozen? ⟨u, 7, none⟩ = false ∧ w1.cell? ⟨mv, 0, none⟩ = some (.pointer (some ⟨u, 0, none⟩))) := Lib.hid fun w1 hm =>
    ⟨⟨hm.os, hm.tape, hm.output, hm.size, hm.block⟩, (World.cell?_of_block (a := ⟨u, 7, none⟩) (hm.block u hul hub)).trans hu, (World.frozen?_of_block (a := ⟨u, 7, none⟩) (hm.block u hul hub)).trans hf, (World.cell?_of_block (a := ⟨mv, 0, none⟩) (hm.block mv (World.block_lt_of_cell? w _ c0) hcb)).trans c0⟩
  clear h hi hn hu hf hul hl hs hn1 hn2
  go_enter Tryd.func104, Tryd.ntmps104
  go_wp2_with fail
  go_region_law (first
    | (go_simp
       go_at_call 97
       refine hp.mono ?_
       rintro e w1 ⟨rfl, hr1, hm1⟩
       obtain ⟨hm2, q0, q1, q2⟩ := HM.out _ hm1
       have HR1 := Lib.hid hr1
       have HM1 := Lib.hid hm2
       clear hr1 hm1 hm2))
  all_goals
    clear hp
    go_wp2_with fail
    go_ret
    exact ⟨rfl, _, HR1.out, HM1.out, rfl⟩
set_option maxRecDepth 100000 in
set_option maxHeartbeats 2000000 in
theorem st3_any {mv : Nat} {m : Ms} (hb : Boxed w u m) (c0 : w.cell? ⟨mv, 0, none⟩ = some (.pointer (some ⟨u, 0, none⟩))) (hf : m.fits) (hc : m.check = 0) :
    Calls Tryd.prog 105 #[.pointer (some ⟨mv, 0, none⟩)] w fun e w' => e = .returned .nilIface ∧ Below w.heap.size w w' := by
  have hck := check_any m hf (w := w)
  rw [hc] at hck
  obtain ⟨q0, q1, q2, q3, q4, q5, q6, q7⟩ := hb.all
  clear hb hc
  unfold Ms.val at hck
  go_enter Tryd.func105, Tryd.ntmps105
  go_wp2_with fail
  refine hck.mono ?_
  rintro e w1 ⟨rfl, hb1⟩
  have HB := Lib.hid hb1
  clear hck hb1
  go_wp2_with fail
  go_ret
  exact ⟨rfl, HB.out⟩
end
end Go.Proofs.YtkbncbkmaakpkaaDoor
