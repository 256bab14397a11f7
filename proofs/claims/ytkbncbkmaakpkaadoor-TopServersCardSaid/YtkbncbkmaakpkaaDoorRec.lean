/- shelf.wrong and shelf.Record: the bytes of a block's record. -/
import Derived.Test.YtkbncbkmaakpkaaDoorZap
import Derived.Test.YtkbncbkmaakpkaaDoorEIs
import Derived.Test.YtkbncbkmaakpkaaDoorSeal
namespace Go.Proofs.YtkbncbkmaakpkaaDoor
open Go.RowKit
/-- What is sealed of a record; the record. -/
def recT (id ver : Nat) (d : List UInt8) : List UInt8 := UInt8.ofNat id :: (leN ver 8 ++ [UInt8.ofNat d.length, 0] ++ d ++ List.replicate (16 - d.length) 0)
def recB (id ver : Nat) (d : List UInt8) (mark : Nat) : List UInt8 := UInt8.ofNat mark :: sealB (recT id ver d)
theorem length_recT (id ver : Nat) (d : List UInt8) (hd : d.length ≤ 16) : (recT id ver d).length = 27 := by simp [recT, length_leN]; omega
theorem length_recB (id ver : Nat) (d : List UInt8) (mark : Nat) (hd : d.length ≤ 16) : (recB id ver d mark).length = 32 := by simp [recB, length_seal, length_recT id ver d hd]
/-- A block as it lies in a slot. -/
def blkV (id ver : Nat) (d : ByteArray) : Value := .agg #[.int .i64 (id : Int), .int .i64 (ver : Int), .string d]
section
variable {w : World}
set_option maxRecDepth 100000 in
set_option maxHeartbeats 1000000 in
theorem wrong_ok (id ver : Nat) (d : ByteArray) (mark : Nat) (hi : id < 256) (hv0 : 1 ≤ ver) (hv : ver ≤ 1099511627776) (hd : d.size ≤ 16) (hm : mark < 2) :
    Calls Tryd.prog 173 #[blkV id ver d, .int .i64 (mark : Int)] w fun e w' => e = .returned .nilIface ∧ Below w.heap.size w w' := by
  have hj := join_none (w.alloc (.cells #[.int .i64 (id : Int), .int .i64 (ver : Int), .string d] 107))
  have e1 : decide ((id : Int) < 0) = false := by simp
  have e2 : decide ((256 : Int) ≤ (id : Int)) = false := by simp; omega
  have e3 : decide ((ver : Int) < 1) = false := by simp; omega
  have e4 : decide ((1099511627776 : Int) < (ver : Int)) = false := by simp; omega
  have e5 : decide ((16 : Int) < (d.size : Int)) = false := by simp; omega
  have hbits : bits .andNot .i64 (mark : Int) 1 = 0 := by
    have : mark = 0 ∨ mark = 1 := by omega
    rcases this with rfl | rfl <;> decide
  have HB := Lib.hid ((Below.refl _ w).alloc (Nat.le_refl _) (.cells #[.int .i64 (id : Int), .int .i64 (ver : Int), .string d] 107))
  go_enter Tryd.func173, Tryd.ntmps173
  unfold blkV
  go_wp2_with fail
  refine hj.mono ?_
  rintro e w1 ⟨rfl, rfl⟩
  clear hj
  go_wp2_with fail
  go_ret
  exact ⟨rfl, HB.out⟩
set_option maxRecDepth 100000 in
set_option maxHeartbeats 1000000 in
theorem wrong_zero (id : Nat) (d : ByteArray) (mark : Nat) (hi : id < 256) (hd : d.size ≤ 16) :
    Calls Tryd.prog 173 #[blkV id 0 d, .int .i64 (mark : Int)] w fun e w' => ∃ q h c, e = .returned (.iface 351 (.pointer (some ⟨q, 0, none⟩))) ∧ w'.cell? ⟨q, 0, none⟩ = some (.slice (some ⟨h, 0, none⟩) 1 c) ∧ w'.cell? ⟨h, 0, none⟩ = some (.iface 25 (.int .i64 1)) ∧ Below w.heap.size w w' := by
  have e1 : decide ((id : Int) < 0) = false := by simp
  have e2 : decide ((256 : Int) ≤ (id : Int)) = false := by simp; omega
  have e5 : decide ((16 : Int) < (d.size : Int)) = false := by simp; omega
  have HB := Lib.hid ((Below.refl _ w).alloc (Nat.le_refl _) (.cells #[.int .i64 (id : Int), .int .i64 (0 : Int), .string d] 107))
  go_enter Tryd.func173, Tryd.ntmps173
  unfold blkV
  go_wp2_with fail
  generalize hZ : (#[Value.iface 25 (Value.int IntKind.i64 1)] ++ Builtin.zeroCells #[Value.nilIface] ((Question.appendCap 1 0 45).cut (w.tape w.drawn (Question.appendCap 1 0 45)) - 1) : Array Value) = Z
  have hz0 : Z[0]? = some (.iface 25 (.int .i64 1)) := by rw [← hZ]; rw [Array.getElem?_append_left (by simp)]; rfl
  clear hZ
  generalize (Question.appendCap 1 0 45).cut (w.tape w.drawn (Question.appendCap 1 0 45)) = cap
  generalize hW4 : (((w.alloc (.cells #[.int .i64 (id : Int), .int .i64 0, .string d] 107)).alloc (.cells #[.iface 25 (.int .i64 1)] 45)).alloc (.cells Z 45)).drew = W4
  have hb4 : Below w.heap.size w W4 := by rw [← hW4]; exact ((((Below.refl _ _).alloc (Nat.le_refl _) _).alloc (by simp) _).alloc (by simp; omega) _).drew
  have hg4 : W4.cell? ⟨w.heap.size + 1 + 1, 0, none⟩ = some (.iface 25 (.int .i64 1)) := by
    rw [← hW4]
    show (((w.alloc (.cells #[.int .i64 (id : Int), .int .i64 0, .string d] 107)).alloc (.cells #[.iface 25 (.int .i64 1)] 45)).alloc (.cells Z 45)).cell? ⟨w.heap.size + 1 + 1, 0, none⟩ = _
    rw [World.cell?_alloc_at _ _ _ _ (by simp)]
    exact hz0
  have HB4 := Lib.hid hb4
  have hjo := join_one _ cap 1 W4 hg4
  clear hW4 hb4 hg4 hz0 HB
  refine hjo.mono ?_
  rintro e w5 ⟨q, g, c, rfl, h1, h2, h3⟩
  have H1 := Lib.hid h1
  have H2 := Lib.hid h2
  have H3 := Lib.hid (HB4.out.trans (h3.mono HB4.out.size))
  clear hjo h1 h2 h3
  go_wp2_with fail
  go_ret
  exact ⟨q, g, c, rfl, H1.out, H2.out, H3.out⟩
set_option maxRecDepth 100000 in
set_option maxHeartbeats 1000000 in
/-- Record refuses a block of no version. -/
theorem record_zero (id : Nat) (d : ByteArray) (mark : Nat) (hi : id < 256) (hd : d.size ≤ 16) :
    Calls Tryd.prog 169 #[blkV id 0 d, .int .i64 (mark : Int)] w fun e w' => e = .returned (.tuple #[.string ⟨#[]⟩, .int .i64 1]) ∧ Below w.heap.size w w' := by
  have hw := wrong_zero (w := w.alloc (.cells #[.int .i64 (id : Int), .int .i64 ((0 : Nat) : Int), .string d] 107)) id d mark hi hd
  have HB := Lib.hid ((Below.refl _ w).alloc (Nat.le_refl _) (.cells #[.int .i64 (id : Int), .int .i64 ((0 : Nat) : Int), .string d] 107))
  go_enter Tryd.func169, Tryd.ntmps169
  unfold blkV at hw ⊢
  go_wp2_with fail
  refine hw.mono ?_
  rintro e w1 ⟨q, g, c, rfl, h1, h2, h3⟩
  have hb1 := HB.out.trans (h3.mono HB.out.size)
  have hq := World.block_lt_of_cell? w1 _ h1
  have hg := World.block_lt_of_cell? w1 _ h2
  dsimp only at hq hg
  clear hw h3
  go_wp2_with fail
  refine wp_loop_rounds 1 ?_
  rw [rounds_succ]
  go_wp2_with fail
  refine (is_join q g c 1 _ ?_ ?_).mono ?_
  · rw [World.cell?_alloc_lt _ _ ⟨q, 0, none⟩ hq]; exact h1
  · rw [World.cell?_alloc_lt _ _ ⟨g, 0, none⟩ hg]; exact h2
  rintro e w2 ⟨rfl, rfl⟩
  have HB2 := Lib.hid (hb1.alloc hb1.size (.cells #[.int .i64 1, .int .i64 11] 25))
  clear h1 h2 hb1 HB
  go_wp2_with fail
  go_ret2
  exact ⟨rfl, HB2.out⟩
theorem rec_cells (id ver : Nat) (d : ByteArray) : bcells (UInt8.ofNat id :: (leN ver 8 ++ UInt8.ofNat d.size :: 0 :: d.data.toList)) ++ zbytes (16 - d.size) = bcells (recT id ver d.data.toList) := by
  have h : d.data.toList.length = d.size := rfl
  unfold recT
  rw [h]
  generalize d.size = n
  simp [bcells, zbytes, List.append_assoc]
theorem vbyte_at (ver j : Nat) : [Value.int .u8 ((ver : Int) / 2 ^ (8 * j) % 256)] = bcells [UInt8.ofNat (ver / 256 ^ j)] := by
  have h : (2 : Int) ^ (8 * j) = ((256 ^ j : Nat) : Int) := by
    rw [Int.pow_mul]; simp
  simp only [bcells, List.map_cons, List.map_nil, UInt8.toNat_ofNat']
  rw [h]
  simp
set_option maxRecDepth 100000 in
set_option maxHeartbeats 1000000 in
/-- The record of a block that may be. -/
theorem record_ok (hT : Tabs w) (id ver : Nat) (d : ByteArray) (mark : Nat) (hi : id < 256) (hv0 : 1 ≤ ver) (hv : ver ≤ 1099511627776) (hd : d.size ≤ 16) (hm : mark < 2) :
    Calls Tryd.prog 169 #[blkV id ver d, .int .i64 (mark : Int)] w fun e w' => e = .returned (.tuple #[.string (bstr (recB id ver d.data.toList mark)), .int .i64 0]) ∧ Below w.heap.size w w' := by
  obtain ⟨i0, hi0, hz0, hz1, hz2⟩ := info_parts Tryd.infoU8
  have Hi := Lib.hid hi0
  have Hz := Lib.hid hz0
  have Hz1 := Lib.hid hz1
  have Hz2 := Lib.hid hz2
  clear hi0 hz0 hz1 hz2
  have hw := wrong_ok (w := w.alloc (.cells #[.int .i64 (id : Int), .int .i64 (ver : Int), .string d] 107)) id ver d mark hi hv0 hv hd hm
  have hbl := hT.lt
  have HT := Lib.hid hT
  clear hT
  go_enter Tryd.func169, Tryd.ntmps169
  unfold blkV at hw ⊢
  go_wp2_with fail
  refine hw.mono ?_
  rintro e w1 ⟨rfl, h3⟩
  have HB := Lib.hid (((Below.refl _ w).alloc (Nat.le_refl _) (.cells #[.int .i64 (id : Int), .int .i64 (ver : Int), .string d] 107)).trans (h3.mono (by simp)))
  obtain ⟨x0, x1, x2⟩ : w1.cell? ⟨w.heap.size, 0, none⟩ = some (.int .i64 (id : Int)) ∧ w1.cell? ⟨w.heap.size, 1, none⟩ = some (.int .i64 (ver : Int)) ∧ w1.cell? ⟨w.heap.size, 2, none⟩ = some (.string d) := by
    have hx : ∀ o, w1.cell? ⟨w.heap.size, o, none⟩ = (w.alloc (.cells #[.int .i64 (id : Int), .int .i64 (ver : Int), .string d] 107)).cell? ⟨w.heap.size, o, none⟩ := fun o => World.cell?_of_block (a := ⟨w.heap.size, o, none⟩) (h3.block _ (by simp))
    exact ⟨(hx 0).trans (by simp), (hx 1).trans (by simp), (hx 2).trans (by simp)⟩
  have hbx : w.heap.size < w1.heap.size := World.block_lt_of_cell? w1 _ x0
  clear hw h3
  go_wp2_with fail
  refine wp_loop_rounds 3 ?_
  rw [rounds_succ]
  go_wp2_with fail
  refine (is_nil 1 _).mono ?_
  rintro e w2 ⟨rfl, rfl⟩
  go_wp2_with fail
  rw [rounds_succ]
  go_wp2_with fail
  refine (is_nil 11 _).mono ?_
  rintro e w2 ⟨rfl, rfl⟩
  go_wp2_with fail
  rw [rounds_succ]
  go_wp2_with fail
  have hbt0 : [Value.int .u8 (id : Int)] = bcells [UInt8.ofNat id] := by simp [bcells]; omega
  have hW : Below w1.heap.size w1 ((w1.alloc (.cells #[.int .i64 1, .int .i64 11] 25)).alloc (.cells #[.int .u8 (id : Int)] 5)) := ((Below.refl _ _).alloc (Nat.le_refl _) _).alloc (by simp) _
  have hO : ((w1.alloc (.cells #[.int .i64 1, .int .i64 11] 25)).alloc (.cells #[.int .u8 (id : Int)] 5)).ownsRow w1.heap.size 5 1 (.slice (some ⟨w1.heap.size + 1, 0, none⟩) 1 1) 1 (bcells (UInt8.ofNat id :: leN ver 0)) := by
    have h := World.ownsRow_lit (base := w1.heap.size) (size := 1) (e := 5) (w1.alloc (.cells #[.int .i64 1, .int .i64 11] 25)) #[.int .u8 (id : Int)] 1 (by simp) (by unfold maxLen; omega) rfl
    rw [show (w1.alloc (.cells #[.int .i64 1, .int .i64 11] 25)).heap.size = w1.heap.size + 1 by simp] at h
    rw [show bcells (UInt8.ofNat id :: leN ver 0) = [Value.int .u8 (id : Int)] by rw [hbt0]; rfl]
    exact h
  have HW := Lib.hid hW
  have HO := Lib.hid hO
  obtain ⟨X0, X1, X2⟩ : Hid (w1.cell? ⟨w.heap.size, 0, none⟩ = some (.int .i64 (id : Int))) ∧ Hid (w1.cell? ⟨w.heap.size, 1, none⟩ = some (.int .i64 (ver : Int))) ∧ Hid (w1.cell? ⟨w.heap.size, 2, none⟩ = some (.string d)) := ⟨x0, x1, x2⟩
  clear hbt0 hW hO x0 x1 x2
  go_loopw [9, 30] (fun v i wr => ∃ j : Nat, j ≤ 8 ∧ i = .int .i64 (j : Int) ∧ wr.ownsRow w1.heap.size 5 1 v (1 + j) (bcells (UInt8.ofNat id :: leN ver j)) ∧ Below w1.heap.size w1 wr) (fun _ i _ => 8 - (intOf i).toNat)
  case atStart => exact ⟨0, Nat.zero_le _, rfl, HO.out, HW.out⟩
  case round =>
    obtain ⟨j, hj, rfl, ho, hb⟩ := hrel
    have x1 := (World.cell?_of_block (a := ⟨w.heap.size, 1, none⟩) (hb.block _ hbx)).trans X1.out
    have x2 := (World.cell?_of_block (a := ⟨w.heap.size, 2, none⟩) (hb.block _ hbx)).trans X2.out
    have hbxr : w.heap.size < wr.heap.size := Nat.lt_of_lt_of_le hbx hb.size
    by_cases hlt : j < 8
    · have hbt := vbyte_at ver j
      have hoA := World.ownsRow.alloc ho (.cells #[.int .u8 ((ver : Int) / 2 ^ (8 * j) % 256)] 5)
      have hcl : ∀ q u, [Value.int .u8 ((ver : Int) / 2 ^ (8 * j) % 256)][q]? = some u → (wr.alloc (.cells #[.int .u8 ((ver : Int) / 2 ^ (8 * j) % 256)] 5)).cell? ((⟨wr.heap.size, 0, none⟩ : Addr).add q) = some u := fun q u hq => by
        rw [Addr.add_mid, Nat.zero_add, World.cell?_alloc_new]
        simpa using hq
      have O1 : ∀ v ∈ [Value.int .u8 ((ver : Int) / 2 ^ (8 * j) % 256)], v.oneCell' = true := fun v hv => by simp at hv; subst hv; rfl
      have hml : 1 + j + 1 ≤ maxLen := by unfold maxLen; omega
      have hws : w1.heap.size ≤ (wr.alloc (.cells #[.int .u8 ((ver : Int) / 2 ^ (8 * j) % 256)] 5)).heap.size := by have := hb.size; simp; omega
      have hbA := hb.alloc hb.size (.cells #[.int .u8 ((ver : Int) / 2 ^ (8 * j) % 256)] 5)
      obtain ⟨a9, cap9, rfl⟩ := row_lens ho
      have HO2 := Lib.hid ho
      have HOA := Lib.hid hoA
      have HCL := Lib.hid hcl
      have HBT := Lib.hid hbt
      have HBA := Lib.hid hbA
      have HWS := Lib.hid hws
      clear ho hoA hcl hbt hbA hb hws
      go_wp2_with (refine wpList_append_own_at _ rfl (.tmp 33) (.tmp 40) 42 rfl w1.heap.size 5 i0 _ 1 1 Tryd.underlying42 Hi.out Hz.out Hz1.out Hz2.out rfl (by decide) _ (1 + j) _ rfl HOA.out ⟨wr.heap.size, 0, none⟩ 1 1 [.int .u8 ((ver : Int) / 2 ^ (8 * j) % 256)] rfl rfl HCL.out O1 hml (by omega) HWS.out ?_)
      intro v5 w5 hown5 hgrow hnn hor
      rw [HBT.out, ← bcells_app] at hown5
      have hb5 : Below w1.heap.size w1 w5 := (Moves.of_below (F := fun _ => False) (HBA.out)).below (Nat.le_refl _) (fun _ h => h.elim) |>.trans ((Moves.refl _ _).grown hgrow (F := fun q => w1.heap.size ≤ q) (fun q hq => .inl ((HO2.out.lt q hq).1)) |>.below HWS.out fun _ h => h)
      have HO5 := Lib.hid hown5
      have HB5 := Lib.hid hb5
      clear hown5 hgrow hnn hor hb5
      go_wp2_with fail
      go_roundw
      case rel => exact ⟨j + 1, by omega, by go_num, by rw [leN_succ]; simpa [Nat.add_assoc] using HO5.out, HB5.out⟩
      case measure => simp [intOf]; omega
    · have ej : j = 8 := by omega
      subst ej
      have hws : w1.heap.size ≤ (wr.alloc (.cells #[.int .u8 (d.size : Int), .int .u8 0] 5)).heap.size := by have := hb.size; simp; omega
      have hbA := hb.alloc hb.size (.cells #[.int .u8 (d.size : Int), .int .u8 0] 5)
      have hoA := World.ownsRow.alloc ho (.cells #[.int .u8 (d.size : Int), .int .u8 0] 5)
      have hcl : ∀ q u, [Value.int .u8 (d.size : Int), .int .u8 0][q]? = some u → (wr.alloc (.cells #[.int .u8 (d.size : Int), .int .u8 0] 5)).cell? ((⟨wr.heap.size, 0, none⟩ : Addr).add q) = some u := fun q u hq => by
        rw [Addr.add_mid, Nat.zero_add, World.cell?_alloc_new]
        simpa using hq
      have O1 : ∀ v ∈ [Value.int .u8 (d.size : Int), .int .u8 0], v.oneCell' = true := fun v hv => by simp at hv; rcases hv with rfl | rfl <;> rfl
      have hbt : [Value.int .u8 (d.size : Int), .int .u8 0] = bcells [UInt8.ofNat d.size, 0] := by simp [bcells]; omega
      have hml : 1 + 8 + 2 ≤ maxLen := by unfold maxLen; omega
      obtain ⟨a9, cap9, rfl⟩ := row_lens ho
      have HO2 := Lib.hid ho
      have HOA := Lib.hid hoA
      have HCL := Lib.hid hcl
      have HBT := Lib.hid hbt
      have HBA := Lib.hid hbA
      have HWS := Lib.hid hws
      clear ho hoA hcl hbt hbA hb hws x1
      go_wp2_with (refine wpList_append_own_at _ rfl (.tmp 43) (.tmp 48) 42 rfl w1.heap.size 5 i0 _ 1 1 Tryd.underlying42 Hi.out Hz.out Hz1.out Hz2.out rfl (by decide) _ (1 + 8) _ rfl HOA.out ⟨wr.heap.size, 0, none⟩ 2 2 [.int .u8 (d.size : Int), .int .u8 0] rfl rfl HCL.out O1 hml (by omega) HWS.out ?_)
      intro v5 w5 hown5 hgrow hnn hor
      rw [HBT.out, ← bcells_app] at hown5
      have hb5 : Below w1.heap.size w1 w5 := HBA.out.trans ((Moves.refl _ _).grown hgrow (F := fun q => w1.heap.size ≤ q) (fun q hq => .inl ((HO2.out.lt q hq).1)) |>.below HWS.out fun _ h => h)
      have x25 := (World.cell?_of_block (a := ⟨w.heap.size, 2, none⟩) (hb5.block _ hbx)).trans X2.out
      have hws5 : w1.heap.size ≤ w5.heap.size := hb5.size
      obtain ⟨a5, cap5, rfl⟩ := row_lens hown5
      have HO5 := Lib.hid hown5
      have HB5 := Lib.hid hb5
      have hml5 : 1 + 8 + 2 + d.size ≤ maxLen := by unfold maxLen; omega
      clear hown5 hgrow hnn hor hb5 x2
      go_wp2_with (refine wpList_append_string_at rfl (.tmp 50) (.tmp 52) 42 9 rfl w1.heap.size 5 i0 Tryd.underlying42 Tryd.underlying9 Hi.out Hz.out Hz1.out Hz2.out _ (1 + 8 + 2) _ rfl HO5.out d rfl hml5 (by omega) hws5 ?_)
      intro v6 w6 hown6 hgrow hor
      rw [strCells_eq, ← bcells_app] at hown6
      have hb6 : Below w1.heap.size w1 w6 := HB5.out.trans ((Moves.refl _ _).grown hgrow (F := fun q => w1.heap.size ≤ q) (fun q hq => .inl ((HO5.out.lt q hq).1)) |>.below hws5 fun _ h => h)
      have x26 := (World.cell?_of_block (a := ⟨w.heap.size, 2, none⟩) (hb6.block _ hbx)).trans X2.out
      have hws6 : w1.heap.size ≤ w6.heap.size := hb6.size
      obtain ⟨a6, cap6, rfl⟩ := row_lens hown6
      have HO6 := Lib.hid hown6
      have HB6 := Lib.hid hb6
      have hsub : (16 : Int) - (d.size : Int) = ((16 - d.size : Nat) : Int) := by omega
      clear hown6 hgrow hor hb6 x25 hws5
      go_wp2_with (refine wpList_append_zeros_at rfl (.tmp 54) (.tmp 58) 42 3 rfl w1.heap.size 5 i0 Tryd.underlying42 Tryd.underlying3 Hi.out Hz.out Hz1.out Hz2.out _ (1 + 8 + 2 + d.size) _ rfl HO6.out (by omega) (16 - d.size) rfl (by omega) hws6 ?_)
      intro v7 w7 hown7 hgrow hor
      have hb7 : Below w1.heap.size w1 w7 := HB6.out.trans ((Moves.refl _ _).grown hgrow (F := fun q => w1.heap.size ≤ q) (fun q hq => .inl ((HO6.out.lt q hq).1)) |>.below hws6 fun _ h => h)
      rw [rec_cells, show 11 + d.size + (16 - d.size) = 27 by omega] at hown7
      obtain ⟨a7, cap7, rfl⟩ := row_lens hown7
      have HO7 := Lib.hid hown7
      have HB7 := Lib.hid hb7
      clear hown7 hgrow hor hb7 x26 hws6
      have hlr := length_recT id ver d.data.toList (by exact hd)
      have hc1 : ∀ W, Below w7.heap.size w7 W → (convert 42 9 (.slice a7 27 cap7)).run Tryd.prog W = .ok (.string (bstr (recT id ver d.data.toList))) W := fun W hW => by
        rcases ownsRow_form (ownsRow_keep HO7.out (w' := W) fun k hk => hW.block k (HO7.out.lt k hk).2) with ⟨h0, _⟩ | ⟨g, cap', h0, _, _, _, _, hr, _⟩
        · cases h0
        · cases h0
          have := run_convert_bytes_back (P := Tryd.prog) W 42 9 5 ⟨g, 0, none⟩ cap7 (recT id ver d.data.toList) Tryd.underlying42 Tryd.underlying5 Tryd.underlying9 fun j hj => by
            have := hr j (.int .u8 ((recT id ver d.data.toList)[j].toNat : Int)) (by simp [bcells, hj])
            rw [Addr.add_mid]; exact this
          rw [hlr] at this
          exact this
      have hmc : ∀ (W : World) (g : Nat), W.cell? ⟨g, 0, none⟩ = some (.int .u8 (mark : Int)) → (convert 42 9 (.slice (some ⟨g, 0, none⟩) 1 1)).run Tryd.prog W = .ok (.string (bstr [UInt8.ofNat mark])) W := fun W g hg => by
        exact run_convert_bytes_back (P := Tryd.prog) W 42 9 5 ⟨g, 0, none⟩ 1 [UInt8.ofNat mark] Tryd.underlying42 Tryd.underlying5 Tryd.underlying9 fun j hj => by
          have : j = 0 := by simpa using hj
          subst this
          rw [Addr.add_mid]
          refine hg.trans ?_
          simp; omega
      have hse : ∀ W, Below w7.heap.size w7 W → Calls Tryd.prog 50 #[.string (bstr (recT id ver d.data.toList))] W fun e w' => e = .returned (.string (bstr (sealB (recT id ver d.data.toList)))) ∧ Below W.heap.size W w' := fun W hW => by
        have hb := HB.out.trans ((HB7.out).mono HB.out.size)
        exact seal_any ((HT.out.below hb HT.out.lt).below hW (HT.out.below hb HT.out.lt).lt) _ (by omega)
      have hap : bstr [UInt8.ofNat mark] ++ bstr (sealB (recT id ver d.data.toList)) = bstr (recB id ver d.data.toList mark) := by rw [bstr_app]; rfl
      have hs1 : (bstr [UInt8.ofNat mark]).size = 1 := by rw [bstr_size]; rfl
      have hs2 : (bstr (sealB (recT id ver d.data.toList))).size = 31 := by rw [bstr_size, length_seal, hlr]
      have HAP := Lib.hid hap
      have HBF := Lib.hid (HB.out.trans (HB7.out.mono HB.out.size))
      generalize bstr [UInt8.ofNat mark] = ms at hmc HAP hs1
      generalize bstr (sealB (recT id ver d.data.toList)) = ss at hse HAP hs2
      generalize bstr (recT id ver d.data.toList) = ts at hse hc1
      have hcA := hc1 w7.drew (Below.refl _ _).drew
      have hcB := hc1 (w7.alloc (.cells #[.int .u8 (mark : Int)] 5)).drew ((Below.refl _ _).alloc (Nat.le_refl _) _).drew
      have hwm : IntKind.u8.wrap (mark : Int) = (mark : Int) := by rw [IntKind.wrap_u8]; omega
      have hsb := (hse w7.drew (Below.refl _ _).drew).mono (R' := fun e w' => e = .returned (.string ss) ∧ Below w7.heap.size w7 w') fun e w' h => ⟨h.1, (Below.refl _ _).drew.trans h.2⟩
      have hsa := (hse (w7.alloc (.cells #[.int .u8 (mark : Int)] 5)).drew ((Below.refl _ _).alloc (Nat.le_refl _) _).drew).mono (R' := fun e w' => e = .returned (.string ss) ∧ Below w7.heap.size w7 w' ∧ w'.cell? ⟨w7.heap.size, 0, none⟩ = some (.int .u8 (mark : Int))) fun e w' h => ⟨h.1, ((Below.refl _ _).alloc (Nat.le_refl _) _).drew.trans (h.2.mono (by simp)), (World.cell?_of_block (a := ⟨w7.heap.size, 0, none⟩) (h.2.block _ (by simp))).trans (by simp)⟩
      have HSA := Lib.hid hsa
      have HSB := Lib.hid hsb
      clear hlr hse hap hc1 hsa hsb HO7 HO6 HO5 HO2 HOA HB5 HB6 HB7 HBT HCL HBA HWS X0 X1 X2 HO HW HB
      go_wp2_with fail
      go_region_law (first
        | (go_simp
           go_at_call 50
           with_reducible refine HSA.out.mono ?_
           rintro e w8 ⟨rfl, hb8, hm8⟩)
        | (go_simp
           go_at_call 50
           with_reducible refine HSB.out.mono ?_
           rintro e w8 ⟨rfl, hb8⟩))
      all_goals
        go_wp2_with fail
        go_ret2
        first
          | exact ⟨by rw [← HAP.out]; rfl, HBF.out.trans (hb8.mono HBF.out.size)⟩
          | exact ⟨by rw [← HAP.out]; rfl, HBF.out.trans ((hb8.alloc hb8.size _).mono HBF.out.size)⟩
end
end Go.Proofs.YtkbncbkmaakpkaaDoor
