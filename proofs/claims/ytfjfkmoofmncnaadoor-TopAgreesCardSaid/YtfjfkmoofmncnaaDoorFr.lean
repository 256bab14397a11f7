/- The program's Reader of fields: NewReader, peek, Num, Text, End, At. Printed by gen_fr.py. -/
import Derived.Test.YtfjfkmoofmncnaaDoorMa
import Derived.Lib.EndianBits
namespace Go.Proofs.YtfjfkmoofmncnaaDoor
open Go.RowKit
/-- A number out of its bytes, the lowest first. -/
def leV : List UInt8 → Nat
  | [] => 0
  | b :: l => b.toNat + 256 * leV l
theorem leV_snoc (l : List UInt8) (b : UInt8) : leV (l ++ [b]) = leV l + b.toNat * 256 ^ l.length := by
  induction l with
  | nil => simp [leV]
  | cons x l ih =>
    rw [List.cons_append, leV, leV, ih, List.length_cons, Nat.pow_succ, Nat.mul_add, ← Nat.add_assoc]
    congr 1
    rw [← Nat.mul_assoc, Nat.mul_comm 256, Nat.mul_assoc, Nat.mul_comm 256]
theorem leV_lt (l : List UInt8) : leV l < 256 ^ l.length := by
  induction l with
  | nil => simp [leV]
  | cons x l ih =>
    have := x.toNat_lt
    rw [leV, List.length_cons, Nat.pow_succ]; omega
theorem leV_leN (n k : Nat) : leV (leN n k) = n % 256 ^ k := by
  induction k with
  | zero => simp [leN, leV, Nat.mod_one]
  | succ k ih =>
    rw [leN_succ, leV_snoc, ih, length_leN, Nat.pow_succ, Nat.mod_mul, UInt8.toNat_ofNat', Nat.mul_comm]
theorem leV_of {n k : Nat} (h : n < 256 ^ k) : leV (leN n k) = n := by rw [leV_leN, Nat.mod_eq_of_lt h]
/-- A reader at b: its text, its place. -/
structure IsR (w : World) (b : Nat) (L : List UInt8) (i : Nat) : Prop where
  c0 : w.cell? ⟨b, 0, none⟩ = some (.string (bstr L))
  c1 : w.cell? ⟨b, 1, none⟩ = some (.int .i64 (i : Int))
  fro : ∀ o, w.frozen? ⟨b, o, none⟩ = false
section
variable {w w' : World} {b i : Nat} {L : List UInt8}
theorem IsR.lt (h : IsR w b L i) : b < w.heap.size := World.block_lt_of_cell? w _ h.c0
theorem IsR.keep (h : IsR w b L i) (hk : w'.heap[b]? = w.heap[b]?) : IsR w' b L i :=
  ⟨(World.cell?_of_block (a := ⟨b, 0, none⟩) hk).trans h.c0, (World.cell?_of_block (a := ⟨b, 1, none⟩) hk).trans h.c1, fun o => (World.frozen?_of_block (a := ⟨b, o, none⟩) hk).trans (h.fro o)⟩
theorem IsR.below (h : IsR w b L i) (hb : Below w.heap.size w w') : IsR w' b L i := h.keep (hb.block b h.lt)
theorem IsR.put (h : IsR w b L i) (j : Nat) : IsR (w.setCell ⟨b, 1, none⟩ (.int .i64 (j : Int))) b L j :=
  ⟨by rw [World.cell?_setCell_other _ _ _ _ (by intro e; cases e)]; exact h.c0, World.cell?_setCell_same _ _ _ h.c1, fun o => by rw [World.frozen?_setCell]; exact h.fro o⟩
set_option maxRecDepth 100000 in
theorem newreader_any (L : List UInt8) : Calls Tryd.prog 49 #[.string (bstr L)] w fun e w' => e = .returned (.pointer (some ⟨w.heap.size, 0, none⟩)) ∧ IsR w' w.heap.size L 0 ∧ Below w.heap.size w w' := by
  go_enter Tryd.func49, Tryd.ntmps49
  go_wp2_with fail
  go_ret
  refine ⟨rfl, ⟨?_, ?_, fun o => World.frozen?_alloc_new _ _ _ _⟩, (Below.refl _ _).alloc (Nat.le_refl _) _⟩ <;> (rw [World.cell?_alloc_new]; rfl)
theorem byte_at (L : List UInt8) (k : Nat) (h : k < (bstr L).size) (x : UInt8) (hx : L[k]? = some x) : (bstr L)[k] = x := by
  have h2 : k < L.length := by rwa [bstr_size] at h
  rw [List.getElem?_eq_getElem h2] at hx
  have := Option.some.inj hx
  rw [← this]
  rfl
theorem or_sum (m : Nat) (hm : m ≤ 64) (v x : Nat) (hv : v < 2 ^ m) (hx : x < 2 ^ (64 - m)) : bits .or .u64 (v : Int) ((x * 2 ^ m : Nat) : Int) = ((v + x * 2 ^ m : Nat) : Int) := by
  have h64 : x * 2 ^ m < 2 ^ 64 := by
    have : 2 ^ 64 = 2 ^ (64 - m) * 2 ^ m := by rw [← Nat.pow_add]; congr 1; omega
    rw [this]; exact Nat.mul_lt_mul_of_lt_of_le hx (Nat.le_refl _) (Nat.two_pow_pos m)
  have hvl : v < 2 ^ 64 := Nat.lt_of_lt_of_le hv (Nat.pow_le_pow_right (by decide) hm)
  rw [(bits_nat .u64 64 (by decide) wraps_u64 v (x * 2 ^ m) hvl h64).2]
  congr 1
  rw [Nat.or_comm, Nat.mul_comm, ← Nat.two_pow_add_eq_or_of_lt hv]
  omega
set_option maxRecDepth 100000 in
set_option maxHeartbeats 4000000 in
theorem peek1 (h : IsR w b L i) (hl : L.length ≤ 1000000) (hi : i + 1 ≤ L.length) (hv : leV ((L.drop i).take 1) < 9223372036854775808) :
    Calls Tryd.prog 73 #[.pointer (some ⟨b, 0, none⟩), .int .i64 1] w fun e w' => e = .returned (.tuple #[.int .i64 (leV ((L.drop i).take 1) : Int), .nilIface]) ∧ Below w.heap.size w w' := by
  have c0 := h.c0
  have c1 := h.c1
  have hsz := bstr_size L
  have e1 : decide ((L.length : Int) - (i : Int) < 1) = false := by simp; omega
  have hw1 : IntKind.i64.wrap ((L.length : Int) - (i : Int)) = (L.length : Int) - (i : Int) := by rw [IntKind.wrap_i64]; omega
  have Hr := Lib.hid (fun W (hW : Below w.heap.size w W) => h.below hW)
  have HZ := Lib.hid hsz
  clear h
  go_enter Tryd.func73, Tryd.ntmps73
  go_wp2_with fail
  go_quiet (fail)
  have HB0 := Lib.hid (show Below w.heap.size w (w.drewN nq) from ⟨rfl, rfl, rfl, Nat.le_refl _, fun _ _ => rfl⟩)
  clear c0 c1 hw1 hsz
  go_wp2_with fail
  go_loopw [6, 7, 47] (fun v _ c wr => ∃ j : Nat, j ≤ 1 ∧ c = .int .i64 (j : Int) ∧ v = .int .u64 (leV ((L.drop i).take j) : Int) ∧ Below w.heap.size w wr) (fun _ _ c _ => 1 - (intOf c).toNat)
  case atStart => exact ⟨0, by omega, rfl, rfl, HB0.out⟩
  case round =>
    clear HB0 e1
    obtain ⟨j, hj, rfl, rfl, hb⟩ := hrel
    by_cases hlt : j < 1
    · have hjj : j = 0 := by omega
      rcases hjj with rfl
      · obtain ⟨x, hx⟩ : ∃ x, L[i]? = some x := ⟨_, List.getElem?_eq_getElem (by omega)⟩
        have hts : (L.drop i).take (0 + 1) = (L.drop i).take 0 ++ [x] := by
          rw [List.take_add_one, List.getElem?_drop, Nat.add_zero, hx]; rfl
        have hvl := leV_lt ((L.drop i).take 0)
        have hln : ((L.drop i).take 0).length = 0 := by rw [List.length_take, List.length_drop]; omega
        have hsn : leV ((L.drop i).take (0 + 1)) = leV ((L.drop i).take 0) + x.toNat * 2 ^ 0 := by rw [hts, leV_snoc, hln]
        rw [hln] at hvl
        generalize leV ((L.drop i).take 0) = v at hvl hsn ⊢
        have hxl := x.toNat_lt
        have hor := or_sum 0 (by decide) v x.toNat hvl (by show _ < 2 ^ (64 - 0); omega)
        have hr := Hr.out wr hb
        have c0 := hr.c0
        have c1 := hr.c1
        have hbx : ∀ h, (bstr L)[i]'h = x := fun h => byte_at L _ h x hx
        have hil : i < (bstr L).size := by rw [bstr_size]; omega
        have HSN := Lib.hid hsn
        have HOR := Lib.hid hor
        have HB := Lib.hid hb
        have HBX := Lib.hid hbx
        clear hx hts hln hsn hor hr hb hbx
        generalize bstr L = S at HBX c0 hil
        rw [show ((0 : Nat) : Int) = 0 from rfl]
        have hw2 : IntKind.i64.wrap ((i : Int)) = (i : Int) := by rw [IntKind.wrap_i64]; omega
        have hw3 : ((i : Int)).toNat = i := by omega
        have hw4 : (0 : Int) ≤ (i : Int) := by omega
        have hw5 : (i : Int) < (S.size : Int) := by omega
        go_wp2_with fail
        go_quiet (fail)
        have hval : bits .or .u64 (v : Int) (IntKind.u64.wrap (IntKind.u64.wrap (x.toNat : Int))) = ((v + x.toNat * 2 ^ 0 : Nat) : Int) := by
          rw [show IntKind.u64.wrap (IntKind.u64.wrap (x.toNat : Int)) = ((x.toNat * 2 ^ 0 : Nat) : Int) by rw [IntKind.wrap_u64, IntKind.wrap_u64]; omega]
          exact HOR.out
        rw [HBX.out, hval, ← HSN.out]
        have HBQ := Lib.hid (show Below w.heap.size w (wr.drewN nq) from HB.out.trans ⟨rfl, rfl, rfl, Nat.le_refl _, fun _ _ => rfl⟩)
        clear hval c0 c1 hw2 hw3 hw4 hw5 HB HSN HOR HBX
        go_wp2_with fail
        go_roundw
        case rel => exact ⟨0 + 1, by omega, by go_num, rfl, HBQ.out⟩
        case measure => simp [intOf]
    · have ej : j = 1 := by omega
      subst ej
      generalize hvv : leV ((L.drop i).take 1) = v at hv
      have HVV := Lib.hid hvv
      have HB := Lib.hid hb
      clear hb hvv
      go_wp2_with fail
      go_ret2
      exact ⟨by rw [HVV.out]; rfl, HB.out⟩
set_option maxRecDepth 100000 in
set_option maxHeartbeats 4000000 in
theorem rnum1 (h : IsR w b L i) (hl : L.length ≤ 1000000) (hi : i + 1 ≤ L.length) (hv : leV ((L.drop i).take 1) < 9223372036854775808) :
    Calls Tryd.prog 50 #[.pointer (some ⟨b, 0, none⟩), .int .i64 1] w fun e w' => e = .returned (.tuple #[.int .i64 (leV ((L.drop i).take 1) : Int), .nilIface]) ∧ IsR w' b L (i + 1) ∧ Moves (fun q => q = b) w w' := by
  have hp := peek1 h hl hi hv
  have H := Lib.hid h
  generalize leV ((L.drop i).take 1) = v at hp ⊢
  clear h hv
  go_enter Tryd.func50, Tryd.ntmps50
  go_wp2_with fail
  refine hp.mono ?_
  rintro e w1 ⟨rfl, hb⟩
  have hr := H.out.below hb
  have c1 := hr.c1
  have f1 := hr.fro 1
  have hw1 : IntKind.i64.wrap ((i : Int) + 1) = (i : Int) + 1 := by rw [IntKind.wrap_i64]; omega
  have HR := Lib.hid (hr.put (i + 1))
  have HM := Lib.hid ((Moves.of_below (F := fun q => q = b) hb).setCell ⟨b, 1, none⟩ (.int .i64 ((i + 1 : Nat) : Int)) (.inl rfl))
  clear hp hr hb
  go_wp2_with fail
  go_ret2
  exact ⟨rfl, HR.out, HM.out⟩
set_option maxRecDepth 100000 in
set_option maxHeartbeats 4000000 in
theorem peek2 (h : IsR w b L i) (hl : L.length ≤ 1000000) (hi : i + 2 ≤ L.length) (hv : leV ((L.drop i).take 2) < 9223372036854775808) :
    Calls Tryd.prog 73 #[.pointer (some ⟨b, 0, none⟩), .int .i64 2] w fun e w' => e = .returned (.tuple #[.int .i64 (leV ((L.drop i).take 2) : Int), .nilIface]) ∧ Below w.heap.size w w' := by
  have c0 := h.c0
  have c1 := h.c1
  have hsz := bstr_size L
  have e1 : decide ((L.length : Int) - (i : Int) < 2) = false := by simp; omega
  have hw1 : IntKind.i64.wrap ((L.length : Int) - (i : Int)) = (L.length : Int) - (i : Int) := by rw [IntKind.wrap_i64]; omega
  have Hr := Lib.hid (fun W (hW : Below w.heap.size w W) => h.below hW)
  have HZ := Lib.hid hsz
  clear h
  go_enter Tryd.func73, Tryd.ntmps73
  go_wp2_with fail
  go_quiet (fail)
  have HB0 := Lib.hid (show Below w.heap.size w (w.drewN nq) from ⟨rfl, rfl, rfl, Nat.le_refl _, fun _ _ => rfl⟩)
  clear c0 c1 hw1 hsz
  go_wp2_with fail
  go_loopw [6, 7, 47] (fun v _ c wr => ∃ j : Nat, j ≤ 2 ∧ c = .int .i64 (j : Int) ∧ v = .int .u64 (leV ((L.drop i).take j) : Int) ∧ Below w.heap.size w wr) (fun _ _ c _ => 2 - (intOf c).toNat)
  case atStart => exact ⟨0, by omega, rfl, rfl, HB0.out⟩
  case round =>
    clear HB0 e1
    obtain ⟨j, hj, rfl, rfl, hb⟩ := hrel
    by_cases hlt : j < 2
    · have hjj : j = 0 ∨ j = 1 := by omega
      rcases hjj with rfl | rfl
      · obtain ⟨x, hx⟩ : ∃ x, L[i]? = some x := ⟨_, List.getElem?_eq_getElem (by omega)⟩
        have hts : (L.drop i).take (0 + 1) = (L.drop i).take 0 ++ [x] := by
          rw [List.take_add_one, List.getElem?_drop, Nat.add_zero, hx]; rfl
        have hvl := leV_lt ((L.drop i).take 0)
        have hln : ((L.drop i).take 0).length = 0 := by rw [List.length_take, List.length_drop]; omega
        have hsn : leV ((L.drop i).take (0 + 1)) = leV ((L.drop i).take 0) + x.toNat * 2 ^ 0 := by rw [hts, leV_snoc, hln]
        rw [hln] at hvl
        generalize leV ((L.drop i).take 0) = v at hvl hsn ⊢
        have hxl := x.toNat_lt
        have hor := or_sum 0 (by decide) v x.toNat hvl (by show _ < 2 ^ (64 - 0); omega)
        have hr := Hr.out wr hb
        have c0 := hr.c0
        have c1 := hr.c1
        have hbx : ∀ h, (bstr L)[i]'h = x := fun h => byte_at L _ h x hx
        have hil : i < (bstr L).size := by rw [bstr_size]; omega
        have HSN := Lib.hid hsn
        have HOR := Lib.hid hor
        have HB := Lib.hid hb
        have HBX := Lib.hid hbx
        clear hx hts hln hsn hor hr hb hbx
        generalize bstr L = S at HBX c0 hil
        rw [show ((0 : Nat) : Int) = 0 from rfl]
        have hw2 : IntKind.i64.wrap ((i : Int)) = (i : Int) := by rw [IntKind.wrap_i64]; omega
        have hw3 : ((i : Int)).toNat = i := by omega
        have hw4 : (0 : Int) ≤ (i : Int) := by omega
        have hw5 : (i : Int) < (S.size : Int) := by omega
        go_wp2_with fail
        go_quiet (fail)
        have hval : bits .or .u64 (v : Int) (IntKind.u64.wrap (IntKind.u64.wrap (x.toNat : Int))) = ((v + x.toNat * 2 ^ 0 : Nat) : Int) := by
          rw [show IntKind.u64.wrap (IntKind.u64.wrap (x.toNat : Int)) = ((x.toNat * 2 ^ 0 : Nat) : Int) by rw [IntKind.wrap_u64, IntKind.wrap_u64]; omega]
          exact HOR.out
        rw [HBX.out, hval, ← HSN.out]
        have HBQ := Lib.hid (show Below w.heap.size w (wr.drewN nq) from HB.out.trans ⟨rfl, rfl, rfl, Nat.le_refl _, fun _ _ => rfl⟩)
        clear hval c0 c1 hw2 hw3 hw4 hw5 HB HSN HOR HBX
        go_wp2_with fail
        go_roundw
        case rel => exact ⟨0 + 1, by omega, by go_num, rfl, HBQ.out⟩
        case measure => simp [intOf]
      · obtain ⟨x, hx⟩ : ∃ x, L[i + 1]? = some x := ⟨_, List.getElem?_eq_getElem (by omega)⟩
        have hts : (L.drop i).take (1 + 1) = (L.drop i).take 1 ++ [x] := by
          rw [List.take_add_one, List.getElem?_drop, hx]; rfl
        have hvl := leV_lt ((L.drop i).take 1)
        have hln : ((L.drop i).take 1).length = 1 := by rw [List.length_take, List.length_drop]; omega
        have hsn : leV ((L.drop i).take (1 + 1)) = leV ((L.drop i).take 1) + x.toNat * 2 ^ 8 := by rw [hts, leV_snoc, hln]
        rw [hln] at hvl
        generalize leV ((L.drop i).take 1) = v at hvl hsn ⊢
        have hxl := x.toNat_lt
        have hor := or_sum 8 (by decide) v x.toNat hvl (by show _ < 2 ^ (64 - 8); omega)
        have hr := Hr.out wr hb
        have c0 := hr.c0
        have c1 := hr.c1
        have hbx : ∀ h, (bstr L)[i + 1]'h = x := fun h => byte_at L _ h x hx
        have hil : i + 1 < (bstr L).size := by rw [bstr_size]; omega
        have HSN := Lib.hid hsn
        have HOR := Lib.hid hor
        have HB := Lib.hid hb
        have HBX := Lib.hid hbx
        clear hx hts hln hsn hor hr hb hbx
        generalize bstr L = S at HBX c0 hil
        rw [show ((1 : Nat) : Int) = 1 from rfl]
        have hw2 : IntKind.i64.wrap ((i : Int) + 1) = (i : Int) + 1 := by rw [IntKind.wrap_i64]; omega
        have hw3 : ((i : Int) + 1).toNat = i + 1 := by omega
        have hw4 : (0 : Int) ≤ (i : Int) + 1 := by omega
        have hw5 : (i : Int) + 1 < (S.size : Int) := by omega
        go_wp2_with fail
        go_quiet (fail)
        have hval : bits .or .u64 (v : Int) (IntKind.u64.wrap (IntKind.u64.wrap (x.toNat : Int) * 256)) = ((v + x.toNat * 2 ^ 8 : Nat) : Int) := by
          rw [show IntKind.u64.wrap (IntKind.u64.wrap (x.toNat : Int) * 256) = ((x.toNat * 2 ^ 8 : Nat) : Int) by rw [IntKind.wrap_u64, IntKind.wrap_u64]; omega]
          exact HOR.out
        rw [HBX.out, hval, ← HSN.out]
        have HBQ := Lib.hid (show Below w.heap.size w (wr.drewN nq) from HB.out.trans ⟨rfl, rfl, rfl, Nat.le_refl _, fun _ _ => rfl⟩)
        clear hval c0 c1 hw2 hw3 hw4 hw5 HB HSN HOR HBX
        go_wp2_with fail
        go_roundw
        case rel => exact ⟨1 + 1, by omega, by go_num, rfl, HBQ.out⟩
        case measure => simp [intOf]
    · have ej : j = 2 := by omega
      subst ej
      generalize hvv : leV ((L.drop i).take 2) = v at hv
      have HVV := Lib.hid hvv
      have HB := Lib.hid hb
      clear hb hvv
      go_wp2_with fail
      go_ret2
      exact ⟨by rw [HVV.out]; rfl, HB.out⟩
set_option maxRecDepth 100000 in
set_option maxHeartbeats 4000000 in
theorem rnum2 (h : IsR w b L i) (hl : L.length ≤ 1000000) (hi : i + 2 ≤ L.length) (hv : leV ((L.drop i).take 2) < 9223372036854775808) :
    Calls Tryd.prog 50 #[.pointer (some ⟨b, 0, none⟩), .int .i64 2] w fun e w' => e = .returned (.tuple #[.int .i64 (leV ((L.drop i).take 2) : Int), .nilIface]) ∧ IsR w' b L (i + 2) ∧ Moves (fun q => q = b) w w' := by
  have hp := peek2 h hl hi hv
  have H := Lib.hid h
  generalize leV ((L.drop i).take 2) = v at hp ⊢
  clear h hv
  go_enter Tryd.func50, Tryd.ntmps50
  go_wp2_with fail
  refine hp.mono ?_
  rintro e w1 ⟨rfl, hb⟩
  have hr := H.out.below hb
  have c1 := hr.c1
  have f1 := hr.fro 1
  have hw1 : IntKind.i64.wrap ((i : Int) + 2) = (i : Int) + 2 := by rw [IntKind.wrap_i64]; omega
  have HR := Lib.hid (hr.put (i + 2))
  have HM := Lib.hid ((Moves.of_below (F := fun q => q = b) hb).setCell ⟨b, 1, none⟩ (.int .i64 ((i + 2 : Nat) : Int)) (.inl rfl))
  clear hp hr hb
  go_wp2_with fail
  go_ret2
  exact ⟨rfl, HR.out, HM.out⟩
set_option maxRecDepth 100000 in
set_option maxHeartbeats 4000000 in
theorem peek8 (h : IsR w b L i) (hl : L.length ≤ 1000000) (hi : i + 8 ≤ L.length) (hv : leV ((L.drop i).take 8) < 9223372036854775808) :
    Calls Tryd.prog 73 #[.pointer (some ⟨b, 0, none⟩), .int .i64 8] w fun e w' => e = .returned (.tuple #[.int .i64 (leV ((L.drop i).take 8) : Int), .nilIface]) ∧ Below w.heap.size w w' := by
  have c0 := h.c0
  have c1 := h.c1
  have hsz := bstr_size L
  have e1 : decide ((L.length : Int) - (i : Int) < 8) = false := by simp; omega
  have hw1 : IntKind.i64.wrap ((L.length : Int) - (i : Int)) = (L.length : Int) - (i : Int) := by rw [IntKind.wrap_i64]; omega
  have Hr := Lib.hid (fun W (hW : Below w.heap.size w W) => h.below hW)
  have HZ := Lib.hid hsz
  clear h
  go_enter Tryd.func73, Tryd.ntmps73
  go_wp2_with fail
  go_quiet (fail)
  have HB0 := Lib.hid (show Below w.heap.size w (w.drewN nq) from ⟨rfl, rfl, rfl, Nat.le_refl _, fun _ _ => rfl⟩)
  clear c0 c1 hw1 hsz
  go_wp2_with fail
  go_loopw [6, 7, 47] (fun v _ c wr => ∃ j : Nat, j ≤ 8 ∧ c = .int .i64 (j : Int) ∧ v = .int .u64 (leV ((L.drop i).take j) : Int) ∧ Below w.heap.size w wr) (fun _ _ c _ => 8 - (intOf c).toNat)
  case atStart => exact ⟨0, by omega, rfl, rfl, HB0.out⟩
  case round =>
    clear HB0 e1
    obtain ⟨j, hj, rfl, rfl, hb⟩ := hrel
    by_cases hlt : j < 8
    · have hjj : j = 0 ∨ j = 1 ∨ j = 2 ∨ j = 3 ∨ j = 4 ∨ j = 5 ∨ j = 6 ∨ j = 7 := by omega
      rcases hjj with rfl | rfl | rfl | rfl | rfl | rfl | rfl | rfl
      · obtain ⟨x, hx⟩ : ∃ x, L[i]? = some x := ⟨_, List.getElem?_eq_getElem (by omega)⟩
        have hts : (L.drop i).take (0 + 1) = (L.drop i).take 0 ++ [x] := by
          rw [List.take_add_one, List.getElem?_drop, Nat.add_zero, hx]; rfl
        have hvl := leV_lt ((L.drop i).take 0)
        have hln : ((L.drop i).take 0).length = 0 := by rw [List.length_take, List.length_drop]; omega
        have hsn : leV ((L.drop i).take (0 + 1)) = leV ((L.drop i).take 0) + x.toNat * 2 ^ 0 := by rw [hts, leV_snoc, hln]
        rw [hln] at hvl
        generalize leV ((L.drop i).take 0) = v at hvl hsn ⊢
        have hxl := x.toNat_lt
        have hor := or_sum 0 (by decide) v x.toNat hvl (by show _ < 2 ^ (64 - 0); omega)
        have hr := Hr.out wr hb
        have c0 := hr.c0
        have c1 := hr.c1
        have hbx : ∀ h, (bstr L)[i]'h = x := fun h => byte_at L _ h x hx
        have hil : i < (bstr L).size := by rw [bstr_size]; omega
        have HSN := Lib.hid hsn
        have HOR := Lib.hid hor
        have HB := Lib.hid hb
        have HBX := Lib.hid hbx
        clear hx hts hln hsn hor hr hb hbx
        generalize bstr L = S at HBX c0 hil
        rw [show ((0 : Nat) : Int) = 0 from rfl]
        have hw2 : IntKind.i64.wrap ((i : Int)) = (i : Int) := by rw [IntKind.wrap_i64]; omega
        have hw3 : ((i : Int)).toNat = i := by omega
        have hw4 : (0 : Int) ≤ (i : Int) := by omega
        have hw5 : (i : Int) < (S.size : Int) := by omega
        go_wp2_with fail
        go_quiet (fail)
        have hval : bits .or .u64 (v : Int) (IntKind.u64.wrap (IntKind.u64.wrap (x.toNat : Int))) = ((v + x.toNat * 2 ^ 0 : Nat) : Int) := by
          rw [show IntKind.u64.wrap (IntKind.u64.wrap (x.toNat : Int)) = ((x.toNat * 2 ^ 0 : Nat) : Int) by rw [IntKind.wrap_u64, IntKind.wrap_u64]; omega]
          exact HOR.out
        rw [HBX.out, hval, ← HSN.out]
        have HBQ := Lib.hid (show Below w.heap.size w (wr.drewN nq) from HB.out.trans ⟨rfl, rfl, rfl, Nat.le_refl _, fun _ _ => rfl⟩)
        clear hval c0 c1 hw2 hw3 hw4 hw5 HB HSN HOR HBX
        go_wp2_with fail
        go_roundw
        case rel => exact ⟨0 + 1, by omega, by go_num, rfl, HBQ.out⟩
        case measure => simp [intOf]
      · obtain ⟨x, hx⟩ : ∃ x, L[i + 1]? = some x := ⟨_, List.getElem?_eq_getElem (by omega)⟩
        have hts : (L.drop i).take (1 + 1) = (L.drop i).take 1 ++ [x] := by
          rw [List.take_add_one, List.getElem?_drop, hx]; rfl
        have hvl := leV_lt ((L.drop i).take 1)
        have hln : ((L.drop i).take 1).length = 1 := by rw [List.length_take, List.length_drop]; omega
        have hsn : leV ((L.drop i).take (1 + 1)) = leV ((L.drop i).take 1) + x.toNat * 2 ^ 8 := by rw [hts, leV_snoc, hln]
        rw [hln] at hvl
        generalize leV ((L.drop i).take 1) = v at hvl hsn ⊢
        have hxl := x.toNat_lt
        have hor := or_sum 8 (by decide) v x.toNat hvl (by show _ < 2 ^ (64 - 8); omega)
        have hr := Hr.out wr hb
        have c0 := hr.c0
        have c1 := hr.c1
        have hbx : ∀ h, (bstr L)[i + 1]'h = x := fun h => byte_at L _ h x hx
        have hil : i + 1 < (bstr L).size := by rw [bstr_size]; omega
        have HSN := Lib.hid hsn
        have HOR := Lib.hid hor
        have HB := Lib.hid hb
        have HBX := Lib.hid hbx
        clear hx hts hln hsn hor hr hb hbx
        generalize bstr L = S at HBX c0 hil
        rw [show ((1 : Nat) : Int) = 1 from rfl]
        have hw2 : IntKind.i64.wrap ((i : Int) + 1) = (i : Int) + 1 := by rw [IntKind.wrap_i64]; omega
        have hw3 : ((i : Int) + 1).toNat = i + 1 := by omega
        have hw4 : (0 : Int) ≤ (i : Int) + 1 := by omega
        have hw5 : (i : Int) + 1 < (S.size : Int) := by omega
        go_wp2_with fail
        go_quiet (fail)
        have hval : bits .or .u64 (v : Int) (IntKind.u64.wrap (IntKind.u64.wrap (x.toNat : Int) * 256)) = ((v + x.toNat * 2 ^ 8 : Nat) : Int) := by
          rw [show IntKind.u64.wrap (IntKind.u64.wrap (x.toNat : Int) * 256) = ((x.toNat * 2 ^ 8 : Nat) : Int) by rw [IntKind.wrap_u64, IntKind.wrap_u64]; omega]
          exact HOR.out
        rw [HBX.out, hval, ← HSN.out]
        have HBQ := Lib.hid (show Below w.heap.size w (wr.drewN nq) from HB.out.trans ⟨rfl, rfl, rfl, Nat.le_refl _, fun _ _ => rfl⟩)
        clear hval c0 c1 hw2 hw3 hw4 hw5 HB HSN HOR HBX
        go_wp2_with fail
        go_roundw
        case rel => exact ⟨1 + 1, by omega, by go_num, rfl, HBQ.out⟩
        case measure => simp [intOf]
      · obtain ⟨x, hx⟩ : ∃ x, L[i + 2]? = some x := ⟨_, List.getElem?_eq_getElem (by omega)⟩
        have hts : (L.drop i).take (2 + 1) = (L.drop i).take 2 ++ [x] := by
          rw [List.take_add_one, List.getElem?_drop, hx]; rfl
        have hvl := leV_lt ((L.drop i).take 2)
        have hln : ((L.drop i).take 2).length = 2 := by rw [List.length_take, List.length_drop]; omega
        have hsn : leV ((L.drop i).take (2 + 1)) = leV ((L.drop i).take 2) + x.toNat * 2 ^ 16 := by rw [hts, leV_snoc, hln]
        rw [hln] at hvl
        generalize leV ((L.drop i).take 2) = v at hvl hsn ⊢
        have hxl := x.toNat_lt
        have hor := or_sum 16 (by decide) v x.toNat hvl (by show _ < 2 ^ (64 - 16); omega)
        have hr := Hr.out wr hb
        have c0 := hr.c0
        have c1 := hr.c1
        have hbx : ∀ h, (bstr L)[i + 2]'h = x := fun h => byte_at L _ h x hx
        have hil : i + 2 < (bstr L).size := by rw [bstr_size]; omega
        have HSN := Lib.hid hsn
        have HOR := Lib.hid hor
        have HB := Lib.hid hb
        have HBX := Lib.hid hbx
        clear hx hts hln hsn hor hr hb hbx
        generalize bstr L = S at HBX c0 hil
        rw [show ((2 : Nat) : Int) = 2 from rfl]
        have hw2 : IntKind.i64.wrap ((i : Int) + 2) = (i : Int) + 2 := by rw [IntKind.wrap_i64]; omega
        have hw3 : ((i : Int) + 2).toNat = i + 2 := by omega
        have hw4 : (0 : Int) ≤ (i : Int) + 2 := by omega
        have hw5 : (i : Int) + 2 < (S.size : Int) := by omega
        go_wp2_with fail
        go_quiet (fail)
        have hval : bits .or .u64 (v : Int) (IntKind.u64.wrap (IntKind.u64.wrap (x.toNat : Int) * 65536)) = ((v + x.toNat * 2 ^ 16 : Nat) : Int) := by
          rw [show IntKind.u64.wrap (IntKind.u64.wrap (x.toNat : Int) * 65536) = ((x.toNat * 2 ^ 16 : Nat) : Int) by rw [IntKind.wrap_u64, IntKind.wrap_u64]; omega]
          exact HOR.out
        rw [HBX.out, hval, ← HSN.out]
        have HBQ := Lib.hid (show Below w.heap.size w (wr.drewN nq) from HB.out.trans ⟨rfl, rfl, rfl, Nat.le_refl _, fun _ _ => rfl⟩)
        clear hval c0 c1 hw2 hw3 hw4 hw5 HB HSN HOR HBX
        go_wp2_with fail
        go_roundw
        case rel => exact ⟨2 + 1, by omega, by go_num, rfl, HBQ.out⟩
        case measure => simp [intOf]
      · obtain ⟨x, hx⟩ : ∃ x, L[i + 3]? = some x := ⟨_, List.getElem?_eq_getElem (by omega)⟩
        have hts : (L.drop i).take (3 + 1) = (L.drop i).take 3 ++ [x] := by
          rw [List.take_add_one, List.getElem?_drop, hx]; rfl
        have hvl := leV_lt ((L.drop i).take 3)
        have hln : ((L.drop i).take 3).length = 3 := by rw [List.length_take, List.length_drop]; omega
        have hsn : leV ((L.drop i).take (3 + 1)) = leV ((L.drop i).take 3) + x.toNat * 2 ^ 24 := by rw [hts, leV_snoc, hln]
        rw [hln] at hvl
        generalize leV ((L.drop i).take 3) = v at hvl hsn ⊢
        have hxl := x.toNat_lt
        have hor := or_sum 24 (by decide) v x.toNat hvl (by show _ < 2 ^ (64 - 24); omega)
        have hr := Hr.out wr hb
        have c0 := hr.c0
        have c1 := hr.c1
        have hbx : ∀ h, (bstr L)[i + 3]'h = x := fun h => byte_at L _ h x hx
        have hil : i + 3 < (bstr L).size := by rw [bstr_size]; omega
        have HSN := Lib.hid hsn
        have HOR := Lib.hid hor
        have HB := Lib.hid hb
        have HBX := Lib.hid hbx
        clear hx hts hln hsn hor hr hb hbx
        generalize bstr L = S at HBX c0 hil
        rw [show ((3 : Nat) : Int) = 3 from rfl]
        have hw2 : IntKind.i64.wrap ((i : Int) + 3) = (i : Int) + 3 := by rw [IntKind.wrap_i64]; omega
        have hw3 : ((i : Int) + 3).toNat = i + 3 := by omega
        have hw4 : (0 : Int) ≤ (i : Int) + 3 := by omega
        have hw5 : (i : Int) + 3 < (S.size : Int) := by omega
        go_wp2_with fail
        go_quiet (fail)
        have hval : bits .or .u64 (v : Int) (IntKind.u64.wrap (IntKind.u64.wrap (x.toNat : Int) * 16777216)) = ((v + x.toNat * 2 ^ 24 : Nat) : Int) := by
          rw [show IntKind.u64.wrap (IntKind.u64.wrap (x.toNat : Int) * 16777216) = ((x.toNat * 2 ^ 24 : Nat) : Int) by rw [IntKind.wrap_u64, IntKind.wrap_u64]; omega]
          exact HOR.out
        rw [HBX.out, hval, ← HSN.out]
        have HBQ := Lib.hid (show Below w.heap.size w (wr.drewN nq) from HB.out.trans ⟨rfl, rfl, rfl, Nat.le_refl _, fun _ _ => rfl⟩)
        clear hval c0 c1 hw2 hw3 hw4 hw5 HB HSN HOR HBX
        go_wp2_with fail
        go_roundw
        case rel => exact ⟨3 + 1, by omega, by go_num, rfl, HBQ.out⟩
        case measure => simp [intOf]
      · obtain ⟨x, hx⟩ : ∃ x, L[i + 4]? = some x := ⟨_, List.getElem?_eq_getElem (by omega)⟩
        have hts : (L.drop i).take (4 + 1) = (L.drop i).take 4 ++ [x] := by
          rw [List.take_add_one, List.getElem?_drop, hx]; rfl
        have hvl := leV_lt ((L.drop i).take 4)
        have hln : ((L.drop i).take 4).length = 4 := by rw [List.length_take, List.length_drop]; omega
        have hsn : leV ((L.drop i).take (4 + 1)) = leV ((L.drop i).take 4) + x.toNat * 2 ^ 32 := by rw [hts, leV_snoc, hln]
        rw [hln] at hvl
        generalize leV ((L.drop i).take 4) = v at hvl hsn ⊢
        have hxl := x.toNat_lt
        have hor := or_sum 32 (by decide) v x.toNat hvl (by show _ < 2 ^ (64 - 32); omega)
        have hr := Hr.out wr hb
        have c0 := hr.c0
        have c1 := hr.c1
        have hbx : ∀ h, (bstr L)[i + 4]'h = x := fun h => byte_at L _ h x hx
        have hil : i + 4 < (bstr L).size := by rw [bstr_size]; omega
        have HSN := Lib.hid hsn
        have HOR := Lib.hid hor
        have HB := Lib.hid hb
        have HBX := Lib.hid hbx
        clear hx hts hln hsn hor hr hb hbx
        generalize bstr L = S at HBX c0 hil
        rw [show ((4 : Nat) : Int) = 4 from rfl]
        have hw2 : IntKind.i64.wrap ((i : Int) + 4) = (i : Int) + 4 := by rw [IntKind.wrap_i64]; omega
        have hw3 : ((i : Int) + 4).toNat = i + 4 := by omega
        have hw4 : (0 : Int) ≤ (i : Int) + 4 := by omega
        have hw5 : (i : Int) + 4 < (S.size : Int) := by omega
        go_wp2_with fail
        go_quiet (fail)
        have hval : bits .or .u64 (v : Int) (IntKind.u64.wrap (IntKind.u64.wrap (x.toNat : Int) * 4294967296)) = ((v + x.toNat * 2 ^ 32 : Nat) : Int) := by
          rw [show IntKind.u64.wrap (IntKind.u64.wrap (x.toNat : Int) * 4294967296) = ((x.toNat * 2 ^ 32 : Nat) : Int) by rw [IntKind.wrap_u64, IntKind.wrap_u64]; omega]
          exact HOR.out
        rw [HBX.out, hval, ← HSN.out]
        have HBQ := Lib.hid (show Below w.heap.size w (wr.drewN nq) from HB.out.trans ⟨rfl, rfl, rfl, Nat.le_refl _, fun _ _ => rfl⟩)
        clear hval c0 c1 hw2 hw3 hw4 hw5 HB HSN HOR HBX
        go_wp2_with fail
        go_roundw
        case rel => exact ⟨4 + 1, by omega, by go_num, rfl, HBQ.out⟩
        case measure => simp [intOf]
      · obtain ⟨x, hx⟩ : ∃ x, L[i + 5]? = some x := ⟨_, List.getElem?_eq_getElem (by omega)⟩
        have hts : (L.drop i).take (5 + 1) = (L.drop i).take 5 ++ [x] := by
          rw [List.take_add_one, List.getElem?_drop, hx]; rfl
        have hvl := leV_lt ((L.drop i).take 5)
        have hln : ((L.drop i).take 5).length = 5 := by rw [List.length_take, List.length_drop]; omega
        have hsn : leV ((L.drop i).take (5 + 1)) = leV ((L.drop i).take 5) + x.toNat * 2 ^ 40 := by rw [hts, leV_snoc, hln]
        rw [hln] at hvl
        generalize leV ((L.drop i).take 5) = v at hvl hsn ⊢
        have hxl := x.toNat_lt
        have hor := or_sum 40 (by decide) v x.toNat hvl (by show _ < 2 ^ (64 - 40); omega)
        have hr := Hr.out wr hb
        have c0 := hr.c0
        have c1 := hr.c1
        have hbx : ∀ h, (bstr L)[i + 5]'h = x := fun h => byte_at L _ h x hx
        have hil : i + 5 < (bstr L).size := by rw [bstr_size]; omega
        have HSN := Lib.hid hsn
        have HOR := Lib.hid hor
        have HB := Lib.hid hb
        have HBX := Lib.hid hbx
        clear hx hts hln hsn hor hr hb hbx
        generalize bstr L = S at HBX c0 hil
        rw [show ((5 : Nat) : Int) = 5 from rfl]
        have hw2 : IntKind.i64.wrap ((i : Int) + 5) = (i : Int) + 5 := by rw [IntKind.wrap_i64]; omega
        have hw3 : ((i : Int) + 5).toNat = i + 5 := by omega
        have hw4 : (0 : Int) ≤ (i : Int) + 5 := by omega
        have hw5 : (i : Int) + 5 < (S.size : Int) := by omega
        go_wp2_with fail
        go_quiet (fail)
        have hval : bits .or .u64 (v : Int) (IntKind.u64.wrap (IntKind.u64.wrap (x.toNat : Int) * 1099511627776)) = ((v + x.toNat * 2 ^ 40 : Nat) : Int) := by
          rw [show IntKind.u64.wrap (IntKind.u64.wrap (x.toNat : Int) * 1099511627776) = ((x.toNat * 2 ^ 40 : Nat) : Int) by rw [IntKind.wrap_u64, IntKind.wrap_u64]; omega]
          exact HOR.out
        rw [HBX.out, hval, ← HSN.out]
        have HBQ := Lib.hid (show Below w.heap.size w (wr.drewN nq) from HB.out.trans ⟨rfl, rfl, rfl, Nat.le_refl _, fun _ _ => rfl⟩)
        clear hval c0 c1 hw2 hw3 hw4 hw5 HB HSN HOR HBX
        go_wp2_with fail
        go_roundw
        case rel => exact ⟨5 + 1, by omega, by go_num, rfl, HBQ.out⟩
        case measure => simp [intOf]
      · obtain ⟨x, hx⟩ : ∃ x, L[i + 6]? = some x := ⟨_, List.getElem?_eq_getElem (by omega)⟩
        have hts : (L.drop i).take (6 + 1) = (L.drop i).take 6 ++ [x] := by
          rw [List.take_add_one, List.getElem?_drop, hx]; rfl
        have hvl := leV_lt ((L.drop i).take 6)
        have hln : ((L.drop i).take 6).length = 6 := by rw [List.length_take, List.length_drop]; omega
        have hsn : leV ((L.drop i).take (6 + 1)) = leV ((L.drop i).take 6) + x.toNat * 2 ^ 48 := by rw [hts, leV_snoc, hln]
        rw [hln] at hvl
        generalize leV ((L.drop i).take 6) = v at hvl hsn ⊢
        have hxl := x.toNat_lt
        have hor := or_sum 48 (by decide) v x.toNat hvl (by show _ < 2 ^ (64 - 48); omega)
        have hr := Hr.out wr hb
        have c0 := hr.c0
        have c1 := hr.c1
        have hbx : ∀ h, (bstr L)[i + 6]'h = x := fun h => byte_at L _ h x hx
        have hil : i + 6 < (bstr L).size := by rw [bstr_size]; omega
        have HSN := Lib.hid hsn
        have HOR := Lib.hid hor
        have HB := Lib.hid hb
        have HBX := Lib.hid hbx
        clear hx hts hln hsn hor hr hb hbx
        generalize bstr L = S at HBX c0 hil
        rw [show ((6 : Nat) : Int) = 6 from rfl]
        have hw2 : IntKind.i64.wrap ((i : Int) + 6) = (i : Int) + 6 := by rw [IntKind.wrap_i64]; omega
        have hw3 : ((i : Int) + 6).toNat = i + 6 := by omega
        have hw4 : (0 : Int) ≤ (i : Int) + 6 := by omega
        have hw5 : (i : Int) + 6 < (S.size : Int) := by omega
        go_wp2_with fail
        go_quiet (fail)
        have hval : bits .or .u64 (v : Int) (IntKind.u64.wrap (IntKind.u64.wrap (x.toNat : Int) * 281474976710656)) = ((v + x.toNat * 2 ^ 48 : Nat) : Int) := by
          rw [show IntKind.u64.wrap (IntKind.u64.wrap (x.toNat : Int) * 281474976710656) = ((x.toNat * 2 ^ 48 : Nat) : Int) by rw [IntKind.wrap_u64, IntKind.wrap_u64]; omega]
          exact HOR.out
        rw [HBX.out, hval, ← HSN.out]
        have HBQ := Lib.hid (show Below w.heap.size w (wr.drewN nq) from HB.out.trans ⟨rfl, rfl, rfl, Nat.le_refl _, fun _ _ => rfl⟩)
        clear hval c0 c1 hw2 hw3 hw4 hw5 HB HSN HOR HBX
        go_wp2_with fail
        go_roundw
        case rel => exact ⟨6 + 1, by omega, by go_num, rfl, HBQ.out⟩
        case measure => simp [intOf]
      · obtain ⟨x, hx⟩ : ∃ x, L[i + 7]? = some x := ⟨_, List.getElem?_eq_getElem (by omega)⟩
        have hts : (L.drop i).take (7 + 1) = (L.drop i).take 7 ++ [x] := by
          rw [List.take_add_one, List.getElem?_drop, hx]; rfl
        have hvl := leV_lt ((L.drop i).take 7)
        have hln : ((L.drop i).take 7).length = 7 := by rw [List.length_take, List.length_drop]; omega
        have hsn : leV ((L.drop i).take (7 + 1)) = leV ((L.drop i).take 7) + x.toNat * 2 ^ 56 := by rw [hts, leV_snoc, hln]
        rw [hln] at hvl
        generalize leV ((L.drop i).take 7) = v at hvl hsn ⊢
        have hxl := x.toNat_lt
        have hor := or_sum 56 (by decide) v x.toNat hvl (by show _ < 2 ^ (64 - 56); omega)
        have hr := Hr.out wr hb
        have c0 := hr.c0
        have c1 := hr.c1
        have hbx : ∀ h, (bstr L)[i + 7]'h = x := fun h => byte_at L _ h x hx
        have hil : i + 7 < (bstr L).size := by rw [bstr_size]; omega
        have HSN := Lib.hid hsn
        have HOR := Lib.hid hor
        have HB := Lib.hid hb
        have HBX := Lib.hid hbx
        clear hx hts hln hsn hor hr hb hbx
        generalize bstr L = S at HBX c0 hil
        rw [show ((7 : Nat) : Int) = 7 from rfl]
        have hw2 : IntKind.i64.wrap ((i : Int) + 7) = (i : Int) + 7 := by rw [IntKind.wrap_i64]; omega
        have hw3 : ((i : Int) + 7).toNat = i + 7 := by omega
        have hw4 : (0 : Int) ≤ (i : Int) + 7 := by omega
        have hw5 : (i : Int) + 7 < (S.size : Int) := by omega
        go_wp2_with fail
        go_quiet (fail)
        have hval : bits .or .u64 (v : Int) (IntKind.u64.wrap (IntKind.u64.wrap (x.toNat : Int) * 72057594037927936)) = ((v + x.toNat * 2 ^ 56 : Nat) : Int) := by
          rw [show IntKind.u64.wrap (IntKind.u64.wrap (x.toNat : Int) * 72057594037927936) = ((x.toNat * 2 ^ 56 : Nat) : Int) by rw [IntKind.wrap_u64, IntKind.wrap_u64]; omega]
          exact HOR.out
        rw [HBX.out, hval, ← HSN.out]
        have HBQ := Lib.hid (show Below w.heap.size w (wr.drewN nq) from HB.out.trans ⟨rfl, rfl, rfl, Nat.le_refl _, fun _ _ => rfl⟩)
        clear hval c0 c1 hw2 hw3 hw4 hw5 HB HSN HOR HBX
        go_wp2_with fail
        go_roundw
        case rel => exact ⟨7 + 1, by omega, by go_num, rfl, HBQ.out⟩
        case measure => simp [intOf]
    · have ej : j = 8 := by omega
      subst ej
      generalize hvv : leV ((L.drop i).take 8) = v at hv
      have HVV := Lib.hid hvv
      have HB := Lib.hid hb
      clear hb hvv
      go_wp2_with fail
      go_ret2
      exact ⟨by rw [HVV.out]; rfl, HB.out⟩
set_option maxRecDepth 100000 in
set_option maxHeartbeats 4000000 in
theorem rnum8 (h : IsR w b L i) (hl : L.length ≤ 1000000) (hi : i + 8 ≤ L.length) (hv : leV ((L.drop i).take 8) < 9223372036854775808) :
    Calls Tryd.prog 50 #[.pointer (some ⟨b, 0, none⟩), .int .i64 8] w fun e w' => e = .returned (.tuple #[.int .i64 (leV ((L.drop i).take 8) : Int), .nilIface]) ∧ IsR w' b L (i + 8) ∧ Moves (fun q => q = b) w w' := by
  have hp := peek8 h hl hi hv
  have H := Lib.hid h
  generalize leV ((L.drop i).take 8) = v at hp ⊢
  clear h hv
  go_enter Tryd.func50, Tryd.ntmps50
  go_wp2_with fail
  refine hp.mono ?_
  rintro e w1 ⟨rfl, hb⟩
  have hr := H.out.below hb
  have c1 := hr.c1
  have f1 := hr.fro 1
  have hw1 : IntKind.i64.wrap ((i : Int) + 8) = (i : Int) + 8 := by rw [IntKind.wrap_i64]; omega
  have HR := Lib.hid (hr.put (i + 8))
  have HM := Lib.hid ((Moves.of_below (F := fun q => q = b) hb).setCell ⟨b, 1, none⟩ (.int .i64 ((i + 8 : Nat) : Int)) (.inl rfl))
  clear hp hr hb
  go_wp2_with fail
  go_ret2
  exact ⟨rfl, HR.out, HM.out⟩
set_option maxRecDepth 100000 in
set_option maxHeartbeats 4000000 in
theorem rend (h : IsR w b L i) (hi : i = L.length) :
    Calls Tryd.prog 51 #[.pointer (some ⟨b, 0, none⟩)] w fun e w' => e = .returned .nilIface ∧ Below w.heap.size w w' := by
  subst hi
  have hsz := bstr_size L
  have c0 := h.c0
  have c1 := h.c1
  clear h
  go_enter Tryd.func51, Tryd.ntmps51
  go_wp2_with fail
  go_quiet (fail)
  go_wp2_with fail
  go_ret
  exact ⟨rfl, ⟨rfl, rfl, rfl, Nat.le_refl _, fun _ _ => rfl⟩⟩
end
end Go.Proofs.YtfjfkmoofmncnaaDoor
