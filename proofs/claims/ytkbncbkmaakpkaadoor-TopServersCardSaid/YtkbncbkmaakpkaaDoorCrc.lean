/- The program's check: take, each, Sum, last, Seal, Open. -/
import Derived.Test.YtkbncbkmaakpkaaDoorCrcPlain
import Derived.StillTailTactics
namespace Go.Proofs.YtkbncbkmaakpkaaDoor
open Go.RowKit
/-- The table of the sums lies at its place. -/
def Tabs (w : World) : Prop := ∀ i, i < 16 → w.cell? ⟨3, i, none⟩ = some (.int .u32 (tabAt i : Int))
theorem Tabs.below {w w' : World} {B : Nat} (h : Tabs w) (hb : Below B w w') (hB : 3 < B) : Tabs w' := fun i hi => (World.cell?_of_block (a := ⟨3, i, none⟩) (hb.block 3 hB)).trans (h i hi)
theorem Tabs.lt {w : World} (h : Tabs w) : 3 < w.heap.size := World.block_lt_of_cell? w _ (h 0 (by omega))
def nibs (d : Nat) : Nat → Nat
  | 0 => d
  | j + 1 => nib (nibs d j)
theorem nibs_lt {d : Nat} (h : d < 2 ^ 32) : ∀ j, nibs d j < 2 ^ 32
  | 0 => h
  | j + 1 => nib_lt (nibs_lt h j)
section
variable {w : World}
set_option maxRecDepth 100000 in
set_option maxHeartbeats 2000000 in
theorem take_any (ht : Tabs w) (b c : Nat) (hc : c < 4294967296) (h0 : w.cell? ⟨b, 0, none⟩ = some (.int .u32 (c : Int))) (hf : w.frozen? ⟨b, 0, none⟩ = false) (hb3 : b ≠ 3) (x : UInt8) :
    Calls Tryd.prog 160 #[.pointer (some ⟨b, 0, none⟩), .int .u8 (x.toNat : Int)] w fun e w' => e = .returned (.tuple #[]) ∧ w'.cell? ⟨b, 0, none⟩ = some (.int .u32 (eat c x : Int)) ∧ w'.frozen? ⟨b, 0, none⟩ = false ∧ Moves (fun q => q = b) w w' := by
  have hx := x.toNat_lt
  have hxr := bits_u32 c x.toNat hc (by omega)
  have hd0 : c ^^^ x.toNat < 2 ^ 32 := Nat.xor_lt_two_pow hc (by omega)
  rw [show eat c x = nibs (c ^^^ x.toNat) 2 from rfl]
  generalize c ^^^ x.toNat = d at hd0 hxr ⊢
  have hm0 : Moves (fun q => q = b) w (w.setCell ⟨b, 0, none⟩ (.int .u32 (d : Int))) := (Moves.refl _ _).setCell _ _ (.inl rfl)
  have hc0 : (w.setCell ⟨b, 0, none⟩ (.int .u32 (d : Int))).cell? ⟨b, 0, none⟩ = some (.int .u32 (d : Int)) := World.cell?_setCell_same _ _ _ h0
  have hf0 : (w.setCell ⟨b, 0, none⟩ (.int .u32 (d : Int))).frozen? ⟨b, 0, none⟩ = false := by rw [World.frozen?_setCell]; exact hf
  have HT := Lib.hid ht
  have HM0 := Lib.hid hm0
  have HC0 := Lib.hid hc0
  have HF0 := Lib.hid hf0
  have Hxr := Lib.hid hxr
  clear hm0 hc0 hf0 hxr ht
  go_enter Tryd.func160, Tryd.ntmps160
  go_wp2_with fail
  rw [Hxr.out]
  clear Hxr h0 hf
  generalize w.setCell ⟨b, 0, none⟩ (.int .u32 (d : Int)) = W0 at HM0 HC0 HF0
  go_loopw [11] (fun i wr => ∃ j : Nat, j ≤ 2 ∧ i = .int .i64 (j : Int) ∧ wr.cell? ⟨b, 0, none⟩ = some (.int .u32 (nibs d j : Int)) ∧ wr.frozen? ⟨b, 0, none⟩ = false ∧ Moves (fun q => q = b) w wr) (fun i _ => 2 - (intOf i).toNat)
  case atStart => exact ⟨0, by omega, rfl, HC0.out, HF0.out, HM0.out⟩
  case round =>
    clear HC0 HM0 HF0
    obtain ⟨j, hj, rfl, h1, f1, hm⟩ := hrel
    by_cases hlt : j < 2
    · have e1 : decide ((j : Int) < 2) = true := by simp; omega
      have hnl := nibs_lt hd0 j
      have hns : nibs d (j + 1) = (nibs d j / 16) ^^^ tabAt (nibs d j % 16) := rfl
      generalize nibs d j = c1 at h1 hnl hns
      have hand := and15_u32 c1 hnl
      have hmod : c1 % 16 < 16 := Nat.mod_lt _ (by omega)
      have htb := (World.cell?_of_block (a := ⟨3, c1 % 16, none⟩) (hm.block 3 HT.out.lt (fun e => hb3 e.symm))).trans (HT.out _ hmod)
      have hxr := bits_u32 (c1 / 16) (tabAt (c1 % 16)) (by omega) (tab_lt _ hmod)
      rw [show ((c1 / 16 : Nat) : Int) = (c1 : Int) / 16 by omega] at hxr
      generalize c1 % 16 = m at hand hmod htb hxr hns
      have hmi : (m : Int) < 16 := by omega
      have HM := Lib.hid hm
      have HNS := Lib.hid hns
      clear hm hns
      go_wp2_with fail
      refine wp_region_still_tail 13 (by kernel_rfl) (by kernel_rfl) ?_
      simp only [List.take_succ_cons, List.take_zero, List.drop_succ_cons, List.drop_zero]
      iterate 13 still_step
      refine wpStill_nil ?_
      rw [← HNS.out]
      have hcn : (wr.drew.setCell ⟨b, 0, none⟩ (.int .u32 (nibs d (j + 1) : Int))).cell? ⟨b, 0, none⟩ = some (.int .u32 (nibs d (j + 1) : Int)) := World.cell?_setCell_same _ _ _ h1
      have hfn : (wr.drew.setCell ⟨b, 0, none⟩ (.int .u32 (nibs d (j + 1) : Int))).frozen? ⟨b, 0, none⟩ = false := by rw [World.frozen?_setCell]; exact f1
      have HCN := Lib.hid hcn
      have HFN := Lib.hid hfn
      have HMN := Lib.hid (HM.out.drew.setCell ⟨b, 0, none⟩ (.int .u32 (nibs d (j + 1) : Int)) (.inl rfl))
      clear hxr HNS hcn hfn hand htb
      go_wp2_with fail
      go_roundw
      case rel => exact ⟨j + 1, by omega, by go_num, HCN.out, HFN.out, HMN.out⟩
      case measure => simp [intOf]; omega
    · have e1 : decide ((j : Int) < 2) = false := by simp; omega
      have ej : j = 2 := by omega
      subst ej
      have HC := Lib.hid h1
      have HM := Lib.hid hm
      have HF := Lib.hid f1
      clear h1 hm f1
      go_wp2_with fail
      go_end0
      exact ⟨rfl, HC.out, HF.out, HM.out⟩
theorem take_snoc (s : ByteArray) (k : Nat) (h : k < s.size) : s.data.toList.take (k + 1) = s.data.toList.take k ++ [s[k]] := by
  rw [List.take_succ_eq_append_getElem (by simpa using h)]; rfl
set_option maxRecDepth 100000 in
set_option maxHeartbeats 2000000 in
theorem each_any (ht : Tabs w) (b c : Nat) (hc : c < 2 ^ 32) (h0 : w.cell? ⟨b, 0, none⟩ = some (.int .u32 (c : Int))) (hf : w.frozen? ⟨b, 0, none⟩ = false) (hb3 : b ≠ 3) (s : ByteArray) (hs : s.size ≤ maxLen) :
    Calls Tryd.prog 159 #[.string s, .func (.func 160) #[.pointer (some ⟨b, 0, none⟩)] #[]] w fun e w' => e = .returned (.tuple #[]) ∧ w'.cell? ⟨b, 0, none⟩ = some (.int .u32 (eats c s.data.toList : Int)) ∧ Moves (fun q => q = b) w w' := by
  unfold maxLen at hs
  have HT := Lib.hid ht
  have H0 := Lib.hid h0
  have HF := Lib.hid hf
  clear ht h0 hf
  go_enter Tryd.func159, Tryd.ntmps159
  go_wp2_with fail
  go_loopw [4, 7] (fun _ i wr => ∃ k : Nat, k ≤ s.size ∧ i = .int .i64 (k : Int) ∧ wr.cell? ⟨b, 0, none⟩ = some (.int .u32 (eats c (s.data.toList.take k) : Int)) ∧ wr.frozen? ⟨b, 0, none⟩ = false ∧ Moves (fun q => q = b) w wr) (fun _ i _ => s.size - (intOf i).toNat)
  case atStart => exact ⟨0, Nat.zero_le _, rfl, by rw [List.take_zero]; exact H0.out, HF.out, Moves.refl _ _⟩
  case round =>
    clear H0 HF
    obtain ⟨k, hk, rfl, h1, f1, hm⟩ := hrel
    by_cases hlt : k < s.size
    · have hel := eats_lt hc (s.data.toList.take k)
      have hsn : eats c (s.data.toList.take (k + 1)) = eat (eats c (s.data.toList.take k)) s[k] := by rw [take_snoc s k hlt, eats_snoc]
      generalize eats c (s.data.toList.take k) = d at h1 hel hsn
      have htb : Tabs wr := fun i hi => (World.cell?_of_block (a := ⟨3, i, none⟩) (hm.block 3 HT.out.lt (fun e => hb3 e.symm))).trans (HT.out i hi)
      have htk := take_any htb b d hel h1 f1 hb3 s[k]
      have HSN := Lib.hid hsn
      have HM := Lib.hid hm
      clear hsn hm htb h1
      go_wp2_with fail
      refine htk.mono ?_
      rintro e w2 ⟨rfl, h2, f2, hm2⟩
      have H2 := Lib.hid h2
      have HF2 := Lib.hid f2
      have HM2 := Lib.hid (HM.out.trans hm2 fun q hq => .inl hq)
      clear htk h2 f2 hm2
      go_wp2_with fail
      go_roundw
      case rel => exact ⟨k + 1, by omega, by go_num, by rw [HSN.out]; exact H2.out, HF2.out, HM2.out⟩
      case measure => simp [intOf]; omega
    · have et : s.data.toList.take k = s.data.toList := List.take_of_length_le (by simp; omega)
      rw [et] at h1
      have HC := Lib.hid h1
      have HM := Lib.hid hm
      clear h1 hm et
      go_wp2_with fail
      go_end0
      exact ⟨rfl, HC.out, HM.out⟩
set_option maxRecDepth 100000 in
set_option maxHeartbeats 2000000 in
theorem sum_any (ht : Tabs w) (s : ByteArray) (hs : s.size ≤ maxLen) :
    Calls Tryd.prog 135 #[.string s] w fun e w' => e = .returned (.int .u32 (sumB s.data.toList : Int)) ∧ Below w.heap.size w w' := by
  have h3 := ht.lt
  have hbA : Below w.heap.size w (w.alloc (.cells #[.int .u32 4294967295] 323)) := (Below.refl _ _).alloc (Nat.le_refl _) _
  have hea := each_any (ht.below hbA h3) w.heap.size 4294967295 (by decide) (by rw [World.cell?_alloc_new]; rfl) (World.frozen?_alloc_new _ _ _ _) (by omega) s hs
  have hlt := eats_lt (c := 4294967295) (by decide) s.data.toList
  have hsu : sumB s.data.toList = eats 4294967295 s.data.toList ^^^ 4294967295 := rfl
  rw [hsu]
  generalize eats 4294967295 s.data.toList = d at hea hlt ⊢
  have hxr := bits_u32 4294967295 d (by decide) hlt
  rw [Nat.xor_comm] at hxr
  have HX := Lib.hid hxr
  have HB := Lib.hid hbA
  have hmf : ∀ (fn : Fn) (first cap : Array Value) (w : World), (Instr.makeFunc fn first cap).run Tryd.prog w = .ok (.func fn first cap) w := fun _ _ _ _ => rfl
  clear hsu hxr ht hbA hs
  go_enter Tryd.func135, Tryd.ntmps135
  go_wp2_with fail
  refine hea.mono ?_
  rintro e w2 ⟨rfl, h2, hm2⟩
  have HB2 := Lib.hid (show Below w.heap.size w w2 from HB.out.trans (hm2.below HB.out.size fun k hk => by omega))
  clear hea hm2
  go_wp2_with fail
  go_ret
  rw [show IntKind.u32.max = ((4294967295 : Nat) : Int) from rfl, HX.out]
  exact ⟨rfl, HB2.out⟩
/-- In the midst of last: j of its bytes are told. -/
structure LB (w : World) (d : Nat) (W : World) (j : Nat) : Prop where
  is : ∀ i, i < j → W.cell? ⟨w.heap.size, i, none⟩ = some (.int .u8 ((UInt8.ofNat (d / 256 ^ i)).toNat : Int))
  no : ∀ i, j ≤ i → i < 4 → W.cell? ⟨w.heap.size, i, none⟩ = some (.int .u8 0)
  fro : ∀ i, W.frozen? ⟨w.heap.size, i, none⟩ = false
  b : Below w.heap.size w W
theorem LB.step {d : Nat} {W : World} {j : Nat} (h : LB w d W j) (hj : j < 4) {x : Int} (hx : x = ((UInt8.ofNat (d / 256 ^ j)).toNat : Int)) : LB w d (W.setCell ⟨w.heap.size, j, none⟩ (.int .u8 x)) (j + 1) := by
  subst hx
  refine ⟨fun i hi => ?_, fun i h1 h2 => ?_, fun i => by rw [World.frozen?_setCell]; exact h.fro i, h.b.setCell (Nat.le_refl _) _⟩
  · by_cases hij : i = j
    · subst hij; exact World.cell?_setCell_same _ _ _ (h.no i (Nat.le_refl _) hj)
    · rw [World.cell?_setCell_other _ _ _ _ (by intro e; cases e; exact hij rfl)]; exact h.is i (by omega)
  · rw [World.cell?_setCell_other _ _ _ _ (by intro e; cases e; omega)]; exact h.no i (by omega) h2
set_option maxRecDepth 100000 in
set_option maxHeartbeats 2000000 in
theorem last_any (ht : Tabs w) (s : ByteArray) (hs : s.size ≤ maxLen) :
    Calls Tryd.prog 94 #[.string s] w fun e w' => e = .returned (.string ⟨(lastB s.data.toList).toArray⟩) ∧ Below w.heap.size w w' := by
  have h3 := ht.lt
  have hbA : Below w.heap.size w (w.alloc (.cells #[.int .u8 0, .int .u8 0, .int .u8 0, .int .u8 0] 281)) := (Below.refl _ _).alloc (Nat.le_refl _) _
  have hcA : ∀ i, i < 4 → (w.alloc (.cells #[.int .u8 0, .int .u8 0, .int .u8 0, .int .u8 0] 281)).cell? ⟨w.heap.size, i, none⟩ = some (.int .u8 0) := fun i hi => by
    rw [World.cell?_alloc_new]
    match i, hi with
    | 0, _ => rfl
    | 1, _ => rfl
    | 2, _ => rfl
    | 3, _ => rfl
  have hfA : ∀ i, (w.alloc (.cells #[.int .u8 0, .int .u8 0, .int .u8 0, .int .u8 0] 281)).frozen? ⟨w.heap.size, i, none⟩ = false := fun i => World.frozen?_alloc_new _ _ _ _
  have hsu := sum_any (ht.below hbA h3) s hs
  have hlt := sum_lt s.data.toList
  have hla : lastB s.data.toList = leN (sumB s.data.toList) 4 := rfl
  rw [hla]
  generalize sumB s.data.toList = d at hsu hlt ⊢
  have HB := Lib.hid hbA
  have HC := Lib.hid hcA
  have HF := Lib.hid hfA
  have hul : w.heap.size < (w.alloc (.cells #[.int .u8 0, .int .u8 0, .int .u8 0, .int .u8 0] 281)).heap.size := by simp
  clear ht hbA hs hla hcA hfA
  go_enter Tryd.func94, Tryd.ntmps94
  go_wp2_with fail
  refine hsu.mono ?_
  rintro e w2 ⟨rfl, hb2⟩
  have hkb := hb2.block w.heap.size hul
  have HB2 := Lib.hid (HB.out.trans (hb2.mono HB.out.size))
  have HC2 := Lib.hid (fun i (hi : i < 4) => (World.cell?_of_block (a := ⟨w.heap.size, i, none⟩) hkb).trans (HC.out i hi))
  have HF2 := Lib.hid (fun i => (World.frozen?_of_block (a := ⟨w.heap.size, i, none⟩) hkb).trans (HF.out i))
  clear hsu hb2 hkb HB HC HF
  go_wp2_with fail
  go_loopw [5, 8] (fun _ i wr => ∃ j : Nat, j ≤ 4 ∧ i = .int .i64 (j : Int) ∧ LB w d wr j) (fun _ i _ => 4 - (intOf i).toNat)
  case atStart => exact ⟨0, by omega, rfl, fun i hi => by omega, fun i _ hi => HC2.out i hi, HF2.out, HB2.out⟩
  case round =>
    clear HC2 HF2 HB2
    obtain ⟨j, hj, rfl, hp⟩ := hrel
    by_cases hlt : j < 4
    · have hjj : j = 0 ∨ j = 1 ∨ j = 2 ∨ j = 3 := by omega
      rcases hjj with rfl | rfl | rfl | rfl
      · have z0 := hp.no 0 (by omega) (by omega)
        have f0 := hp.fro 0
        have HP := Lib.hid hp
        clear hp
        go_wp2_with fail
        exact ⟨⟨1, by omega, rfl, HP.out.step (by omega) (by simp <;> omega)⟩, by simp [intOf]⟩
      · have z0 := hp.no 1 (by omega) (by omega)
        have f0 := hp.fro 1
        have HP := Lib.hid hp
        clear hp
        go_wp2_with fail
        exact ⟨⟨2, by omega, rfl, HP.out.step (by omega) (by simp <;> omega)⟩, by simp [intOf]⟩
      · have z0 := hp.no 2 (by omega) (by omega)
        have f0 := hp.fro 2
        have HP := Lib.hid hp
        clear hp
        go_wp2_with fail
        exact ⟨⟨3, by omega, rfl, HP.out.step (by omega) (by simp <;> omega)⟩, by simp [intOf]⟩
      · have z0 := hp.no 3 (by omega) (by omega)
        have f0 := hp.fro 3
        have HP := Lib.hid hp
        clear hp
        go_wp2_with fail
        exact ⟨⟨4, by omega, rfl, HP.out.step (by omega) (by simp <;> omega)⟩, by simp [intOf]⟩
    · have ej : j = 4 := by omega
      subst ej
      have hconv := run_convert_bytes_back (P := Tryd.prog) wr 42 9 5 ⟨w.heap.size, 0, none⟩ 4 (leN d 4) Tryd.underlying42 Tryd.underlying5 Tryd.underlying9
        (fun j hj => by
          rw [Addr.add_mid, Nat.zero_add, hp.is j (by rwa [length_leN] at hj)]
          simp [leN])
      rw [length_leN] at hconv
      have HB := Lib.hid hp.b
      clear hp
      go_wp2_with fail
      go_ret
      exact ⟨rfl, HB.out⟩
end
end Go.Proofs.YtkbncbkmaakpkaaDoor
