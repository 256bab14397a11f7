/- TopServers answers true. -/
import Derived.Test.YtkbncbkmaakpkaaDoorSrvY
namespace Go.Proofs.YtkbncbkmaakpkaaDoor
open Go.RowKit
section
variable {w : World}
theorem val_old (w : World) : Calls Tryd.prog 34 #[.int .i64 1, .string ⟨#[111, 108, 100]⟩] w fun e w' => e = .returned (.tuple #[.string (bstr (encB 1 dOld)), .int .i64 0]) ∧ Below w.heap.size w w' := value_any 1 dOld (by omega) (by decide)
theorem val_new (w : World) : Calls Tryd.prog 34 #[.int .i64 2, .string ⟨#[110, 101, 119]⟩] w fun e w' => e = .returned (.tuple #[.string (bstr (encB 2 dNew)), .int .i64 0]) ∧ Below w.heap.size w w' := value_any 2 dNew (by omega) (by decide)
theorem val_time (w : World) : Calls Tryd.prog 34 #[.int .i64 100, .string ⟨#[]⟩] w fun e w' => e = .returned (.tuple #[.string (bstr (encB 100 ⟨#[]⟩)), .int .i64 0]) ∧ Below w.heap.size w w' := value_any 100 ⟨#[]⟩ (by omega) (by decide)
/-- The blocks that were there. -/
def Old (B k : Nat) : Prop := k < B
set_option maxRecDepth 100000 in
set_option maxHeartbeats 4000000 in
theorem servers_any (hT : Tabs w) (n a l s keep : Nat) (hn : n < 256) (ha : a < 256) (hl : l < 256) (hs : s < 256) (hk : keep < 18446744073709551616) :
    Calls Tryd.prog 6 #[.int .u8 (n : Int), .int .u8 (a : Int), .int .u64 (keep : Int), .int .u8 (l : Int), .int .u8 (s : Int)] w fun e w' => e = .returned (.bool true) ∧ Below w.heap.size w w' := by
  have hnew := snew_any (F := Old w.heap.size) hT fun k hk => hk
  have h3 : Old w.heap.size 3 := hT.lt
  have wn : IntKind.i64.wrap (n : Int) = (n : Int) := by rw [IntKind.wrap_i64]; omega
  have wa : IntKind.i64.wrap (a : Int) = (a : Int) := by rw [IntKind.wrap_i64]; omega
  have wl : IntKind.i64.wrap (l : Int) = (l : Int) := by rw [IntKind.wrap_i64]; omega
  have ws : IntKind.i64.wrap (s : Int) = (s : Int) := by rw [IntKind.wrap_i64]; omega
  have wd : IntKind.i64.wrap ((l : Int) - (s : Int)) = (l : Int) - (s : Int) := by rw [IntKind.wrap_i64]; omega
  have HT0 := Lib.hid hT
  clear hT
  go_enter Tryd.func6, Tryd.ntmps6
  go_wp2_with fail
  refine hnew.mono ?_
  rintro e w1 ⟨⟨sb, pb, b, am, um, tm, km, m, rfl, hm, hS⟩, hM⟩
  have HT1 := Lib.hid (HT0.out.keep (hM.block' HT0.out.lt h3))
  have HS1 := Lib.hid hS
  have HM1 := Lib.hid hM
  clear hnew hS hM
  go_wp2_with fail
  refine (val_old w1).mono ?_
  rintro e w2 ⟨rfl, hb2⟩
  go_wp2_with fail
  refine (val_new w2).mono ?_
  rintro e w3 ⟨rfl, hb3⟩
  go_wp2_with fail
  refine (val_time w3).mono ?_
  rintro e w4 ⟨rfl, hb4⟩
  have hb14 : Below w1.heap.size w1 w4 := hb2.trans ((hb3.mono hb2.size).trans (hb4.mono (Nat.le_trans hb2.size hb3.size)))
  have HS4 := Lib.hid (HS1.out.below hb14)
  have HT4 := Lib.hid (HT1.out.below hb14 HT1.out.lt)
  have HM4 := Lib.hid (HM1.out.trans (Moves.of_below (F := NotF (Old w.heap.size)) hb14) fun i hi => .inl hi)
  clear hb2 hb3 hb4 hb14 HS1 HT1 HM1
  go_wp2_with fail
  refine (handle_time HS4.out HT4.out rfl (by omega)).mono ?_
  rintro e w5 ⟨rfl, hS, hM⟩
  have hbA : Below w5.heap.size w5 (w5.alloc (.cells #[.int .i64 131, .int .i64 3, .int .i64 0, .int .i64 0, .int .i64 0, .int .i64 2, .int .i64 0, .string ⟨#[]⟩] 51)) := (Below.refl _ _).alloc (Nat.le_refl _) _
  have hT5 := HT4.out.keep (hM.block' HT4.out.lt h3)
  have HS5 := Lib.hid (hS.below hbA)
  have HT5 := Lib.hid (hT5.below hbA hT5.lt)
  have HM5 := Lib.hid ((HM4.out.trans hM fun i hi => .inl hi).trans (Moves.of_below (F := NotF (Old w.heap.size)) hbA) fun i hi => .inl hi)
  clear HS4 HT4 HM4 hT5 hM hS
  go_wp2_with fail
  refine (handle_put1 HS5.out HT5.out h3 (by omega) (by omega) n hn).mono ?_
  rintro e w6 ⟨rfl, hS, hM⟩
  have hbB : Below w6.heap.size w6 (w6.alloc (.cells #[.int .i64 130, .int .i64 3, .int .i64 2, .int .i64 0, .int .i64 1, .int .i64 (n : Int), .int .i64 0, .string ⟨#[]⟩] 51)) := (Below.refl _ _).alloc (Nat.le_refl _) _
  have hT6 := HT5.out.keep (hM.block' HT5.out.lt h3)
  have HS6 := Lib.hid (hS.below hbB)
  have HT6 := Lib.hid (hT6.below hbB hT6.lt)
  have HM6 := Lib.hid ((HM5.out.trans hM fun i hi => .inl hi).trans (Moves.of_below (F := NotF (Old w.heap.size)) hbB) fun i hi => .inl hi)
  have c0 := hS.c0
  have hsl := hS.bl
  have hne : ¬ sb = w6.heap.size := by omega
  clear HS5 HT5 HM5 hT6 hM hS hbA
  go_wp2_with fail
  have hcut : (still 9 (is1 n) false 0 0 4).cut (1 + (a : Int) % 6) keep = still 9 (is1 n) false (1 + a % 6) keep 4 := by
    have : (1 + (a : Int) % 6).toNat = 1 + a % 6 := by omega
    unfold PS.cut still
    rw [this]
  have hcu := scut_any HS6.out (1 + (a : Int) % 6) (by omega) keep hk
  rw [hcut] at hcu
  refine hcu.mono ?_
  rintro e w7 ⟨rfl, hS, hM⟩
  have HS7 := Lib.hid hS
  have HT7 := Lib.hid (HT6.out.keep (hM.block' HT6.out.lt h3))
  have HM7 := Lib.hid (HM6.out.trans hM fun i hi => .inl hi)
  clear HS6 HT6 HM6 hcut hcu hS hM hbB c0 hsl hne
  go_wp2_with fail
  refine (handle_put2 n HS7.out HT7.out h3 (by omega) (by omega) hn (by omega) (by omega)).mono ?_
  rintro e w8 ⟨ok, x, cc, b, am, um, tm, km, m', nt, A, U, err, st, T, Kn, rfl, hS, hwt, hcr, hx, hok, hM⟩
  have HT8 := Lib.hid (HT7.out.keep (hM.block' HT7.out.lt h3))
  have HM8 := Lib.hid (HM7.out.trans hM fun i hi => .inl hi)
  have HX := Lib.hid hx
  have HOK := Lib.hid hok
  have HCR := Lib.hid hcr
  have HWT := Lib.hid hwt
  clear HS7 HT7 HM7 hM hx hok hcr hwt
  have c0 := hS.c0
  have hsl := hS.bl
  have hne : ¬ sb = w8.heap.size := by omega
  have HS8 := Lib.hid hS
  clear hS
  cases ok with
  | false =>
    unfold zMsg
    go_wp2_with fail
    generalize hWm : w8.alloc (.cells #[.int .i64 0, .int .i64 0, .int .i64 0, .int .i64 0, .int .i64 0, .int .i64 0, .int .i64 0, .string ⟨#[]⟩] 51) = Wm
    have hbC : Below w8.heap.size w8 Wm := by rw [← hWm]; exact (Below.refl _ _).alloc (Nat.le_refl _) _
    have hsz : Wm.heap.size = w8.heap.size + 1 := by rw [← hWm]; simp
    have x6 : Wm.cell? ⟨w8.heap.size, 6, none⟩ = some (.int .i64 0) := by rw [← hWm]; simp
    have hS := HS8.out.also (G := fun k => Old w.heap.size k ∨ k = w8.heap.size) hbC (fun k hk => hk.imp id fun e => by omega)
    have hcu := scrash_any hS (by rw [HWT.out]; decide) keep hk
    rw [HCR.out] at hcu
    have hTm := HT8.out.below hbC HT8.out.lt
    have HMm := Lib.hid (HM8.out.trans (Moves.of_below (F := NotF (Old w.heap.size)) hbC) fun i hi => .inl hi)
    clear hWm hbC hS HS8 HT8 HM8 HWT HCR c0 hsl hne
    refine hcu.mono ?_
    rintro e w9 ⟨rfl, hS, hM⟩
    have hT9 := hTm.keep (hM.block' hTm.lt (.inl h3))
    have y6 := (World.cell?_of_block (a := ⟨w8.heap.size, 6, none⟩) (hM.block' (by show w8.heap.size < _; omega) (.inr rfl))).trans x6
    have hl9 : w8.heap.size < w9.heap.size := Nat.lt_of_lt_of_le (by omega) hM.size
    obtain ⟨y, hy, hpw⟩ := power_get n hn x HX.out hS hT9 (.inl h3)
    have HM9 := Lib.hid (HMm.out.trans hM fun i hi => .inl fun h => hi (.inl h))
    clear hcu hS hM hTm HMm x6 hT9 hsz
    go_wp2_with fail
    refine hpw.mono ?_
    rintro e w10 ⟨rfl, hM, hget⟩
    have z6 := (World.cell?_of_block (a := ⟨w8.heap.size, 6, none⟩) (hM.block' hl9 (.inr rfl))).trans y6
    have hl10 : w8.heap.size < w10.heap.size := Nat.lt_of_lt_of_le hl9 hM.size
    have HM10 := Lib.hid (HM9.out.trans hM fun i hi => .inl fun h => hi (.inl h))
    clear hM y6 hpw HM9
    go_wp2_with fail
    refine (hget w10 (Below.refl _ _)).mono ?_
    rintro e w11 ⟨rfl, hb11⟩
    have u6 := (World.cell?_of_block (a := ⟨w8.heap.size, 6, none⟩) (hb11.block _ hl10)).trans z6
    have hl11 : w8.heap.size < w11.heap.size := Nat.lt_of_lt_of_le hl10 hb11.size
    have hne : ¬ w8.heap.size = w11.heap.size := by omega
    have HM11 := Lib.hid (HM10.out.trans (Moves.of_below (F := NotF (Old w.heap.size)) hb11) fun i hi => .inl hi)
    clear hb11 hget z6 HM10
    cases y with
    | false =>
      unfold dOld
      go_wp2_with fail
      refine (margin_any l s hl hs).mono ?_
      rintro e w12 ⟨rfl, rfl⟩
      go_wp2_with fail
      go_ret
      exact ⟨rfl, (HM11.out.below (Nat.le_refl _) fun k hk => Nat.le_of_not_lt hk).alloc HM11.out.size _⟩
    | true =>
      unfold dNew
      go_wp2_with fail
      refine (margin_any l s hl hs).mono ?_
      rintro e w12 ⟨rfl, rfl⟩
      go_wp2_with fail
      go_ret
      exact ⟨rfl, (HM11.out.below (Nat.le_refl _) fun k hk => Nat.le_of_not_lt hk).alloc HM11.out.size _⟩
  | true =>
    go_wp2_with fail
    generalize hWm : w8.alloc (.cells #[.int .i64 130, .int .i64 3, .int .i64 2, .int .i64 0, .int .i64 2, .int .i64 (n : Int), .int .i64 0, .string ⟨#[]⟩] 51) = Wm
    have hbC : Below w8.heap.size w8 Wm := by rw [← hWm]; exact (Below.refl _ _).alloc (Nat.le_refl _) _
    have hsz : Wm.heap.size = w8.heap.size + 1 := by rw [← hWm]; simp
    have x6 : Wm.cell? ⟨w8.heap.size, 6, none⟩ = some (.int .i64 0) := by rw [← hWm]; simp
    have hS := HS8.out.also (G := fun k => Old w.heap.size k ∨ k = w8.heap.size) hbC (fun k hk => hk.imp id fun e => by omega)
    have hcu := scrash_any hS (by rw [HWT.out]; decide) keep hk
    rw [HCR.out] at hcu
    have hTm := HT8.out.below hbC HT8.out.lt
    have HMm := Lib.hid (HM8.out.trans (Moves.of_below (F := NotF (Old w.heap.size)) hbC) fun i hi => .inl hi)
    clear hWm hbC hS HS8 HT8 HM8 HWT HCR c0 hsl hne
    refine hcu.mono ?_
    rintro e w9 ⟨rfl, hS, hM⟩
    have hT9 := hTm.keep (hM.block' hTm.lt (.inl h3))
    have y6 := (World.cell?_of_block (a := ⟨w8.heap.size, 6, none⟩) (hM.block' (by show w8.heap.size < _; omega) (.inr rfl))).trans x6
    have hl9 : w8.heap.size < w9.heap.size := Nat.lt_of_lt_of_le (by omega) hM.size
    obtain ⟨y, hy, hpw⟩ := power_get n hn x HX.out hS hT9 (.inl h3)
    have HM9 := Lib.hid (HMm.out.trans hM fun i hi => .inl fun h => hi (.inl h))
    clear hcu hS hM hTm HMm x6 hT9 hsz
    go_wp2_with fail
    refine hpw.mono ?_
    rintro e w10 ⟨rfl, hM, hget⟩
    have z6 := (World.cell?_of_block (a := ⟨w8.heap.size, 6, none⟩) (hM.block' hl9 (.inr rfl))).trans y6
    have hl10 : w8.heap.size < w10.heap.size := Nat.lt_of_lt_of_le hl9 hM.size
    have HM10 := Lib.hid (HM9.out.trans hM fun i hi => .inl fun h => hi (.inl h))
    clear hM y6 hpw HM9
    go_wp2_with fail
    refine (hget w10 (Below.refl _ _)).mono ?_
    rintro e w11 ⟨rfl, hb11⟩
    have u6 := (World.cell?_of_block (a := ⟨w8.heap.size, 6, none⟩) (hb11.block _ hl10)).trans z6
    have hl11 : w8.heap.size < w11.heap.size := Nat.lt_of_lt_of_le hl10 hb11.size
    have hne : ¬ w8.heap.size = w11.heap.size := by omega
    have HM11 := Lib.hid (HM10.out.trans (Moves.of_below (F := NotF (Old w.heap.size)) hb11) fun i hi => .inl hi)
    clear hb11 hget z6 HM10
    cases y with
    | false =>
      exact absurd (hy (HOK.out trivial)) (by decide)
    | true =>
      unfold dNew
      go_wp2_with fail
      refine (margin_any l s hl hs).mono ?_
      rintro e w12 ⟨rfl, rfl⟩
      go_wp2_with fail
      go_ret
      exact ⟨rfl, (HM11.out.below (Nat.le_refl _) fun k hk => Nat.le_of_not_lt hk).alloc HM11.out.size _⟩
end
end Go.Proofs.YtkbncbkmaakpkaaDoor
