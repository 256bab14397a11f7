/- TopBallots: its walk. -/
import Derived.Test.YtkbncbkmaakpkaaDoorBalM
namespace Go.Proofs.YtkbncbkmaakpkaaDoor
open Go.RowKit
def setsTo (a b : Nat) (s : ByteArray) (k : Nat) : List (List Vote) := ((List.range k).filter (fun i => decide (i ≠ b))).map fun i => if i = a then [] else [⟨0, 9, s⟩]
theorem setsTo_succ (a b : Nat) (s : ByteArray) (k : Nat) : setsTo a b s (k + 1) = setsTo a b s k ++ (if k = b then [] else [if k = a then [] else [⟨0, 9, s⟩]]) := by
  unfold setsTo
  rw [List.range_succ, List.filter_append, List.map_append]
  congr 1
  by_cases h : k = b <;> simp [h]
theorem setsTo_len (a b : Nat) (s : ByteArray) (k : Nat) : (setsTo a b s k).length ≤ k := by
  have := List.length_filter_le (fun i => decide (i ≠ b)) (List.range k)
  simpa [setsTo] using this
theorem setsTo_best {a b : Nat} (ha : a < 3) (hb : b < 3) (s : ByteArray) : bestOf 0 (setsTo a b s 3).flatten Vote.zero = ⟨0, 9, s⟩ := by
  have h1 : a = 0 ∨ a = 1 ∨ a = 2 := by omega
  have h2 : b = 0 ∨ b = 1 ∨ b = 2 := by omega
  rcases h1 with rfl | rfl | rfl <;> rcases h2 with rfl | rfl | rfl <;> simp [setsTo, List.range_succ, bestOf, better, Vote.zero]
section
variable {w : World}
set_option maxRecDepth 100000 in
set_option maxHeartbeats 8000000 in
theorem ballots_any (ht : Tabs w) (s t : ByteArray) (hs : s.size ≤ maxLen) (ho : t.size ≤ maxLen) (x y : Nat) (hx : x < 256) (hy : y < 256) :
    Calls Tryd.prog 3 #[.string s, .string t, .int .u8 (x : Int), .int .u8 (y : Int)] w fun e w' => e = .returned (.bool true) ∧ Below w.heap.size w w' := by
  unfold maxLen at hs ho
  have hna := newacc_any (w := w) (fun _ => False)
  by_cases hsz : s.size ≤ 100 ∧ t.size ≤ 100
  · obtain ⟨hs1, ht1⟩ := hsz
    have e1 : decide ((100 : Int) < (s.size : Int)) = false := by simp; omega
    have e2 : decide ((100 : Int) < (t.size : Int)) = false := by simp; omega
    have HT := Lib.hid ht
    obtain ⟨am, ham⟩ : ∃ am : Nat, (x : Int) % 3 = (am : Int) := ⟨x % 3, by omega⟩
    obtain ⟨bm, hbm⟩ : ∃ bm : Nat, (y : Int) % 3 = (bm : Int) := ⟨y % 3, by omega⟩
    have ham3 : am < 3 := by omega
    have hbm3 : bm < 3 := by omega
    clear ht
    go_enter Tryd.func3, Tryd.ntmps3
    go_wp2_with fail
    refine hna.mono ?_
    rintro e w1 ⟨rfl, ha1, hb1⟩
    have hn2 := newacc_any (w := w1) (fun _ => False)
    have HB1 := Lib.hid hb1
    have HA1 := Lib.hid ha1
    clear hna ha1 hb1
    go_wp2_with fail
    refine hn2.mono ?_
    rintro e w2 ⟨rfl, ha2, hb2⟩
    have hn3 := newacc_any (w := w2) (fun _ => False)
    have HB2 := Lib.hid hb2
    have HA2 := Lib.hid ha2
    clear hn2 ha2 hb2
    go_wp2_with fail
    refine hn3.mono ?_
    rintro e w3 ⟨rfl, ha3, hb3⟩
    have HB3 := Lib.hid hb3
    have HA3 := Lib.hid ha3
    clear hn3 ha3 hb3
    have hst : A3 w (fun _ => False) (w3.alloc (.cells #[.pointer (some ⟨w.heap.size, 0, none⟩), .pointer (some ⟨w1.heap.size, 0, none⟩), .pointer (some ⟨w2.heap.size, 0, none⟩)] 22)) w3.heap.size (fun i => if i = 0 then w.heap.size else if i = 1 then w1.heap.size else w2.heap.size) (fun _ => 0) (fun _ _ => none) := by
      have l1 := HA1.out.lt
      have l2 := HA2.out.lt
      have l3 := HA3.out.lt
      have s1 := HB1.out.size
      have s2 := HB2.out.size
      have s3 := HB3.out.size
      have hb4 : Below w3.heap.size w3 (w3.alloc (.cells #[.pointer (some ⟨w.heap.size, 0, none⟩), .pointer (some ⟨w1.heap.size, 0, none⟩), .pointer (some ⟨w2.heap.size, 0, none⟩)] 22)) := (Below.refl _ _).alloc (Nat.le_refl _) _
      have hX : ∀ {W : World} {b : Nat} {p : Int}, Acc W (fun _ => False) b p (fun _ => none) → ∀ X, Acc W X b p (fun _ => none) := fun ⟨B, b1, _⟩ X => ⟨B, b1, fun i x hx => by cases hx⟩
      have hb23 := HB2.out.trans (HB3.out.mono s2)
      refine ⟨(HB1.out.trans (hb23.mono s1)).trans (hb4.mono (by omega)), by omega, fun i hi => ?_, fun o => World.frozen?_alloc_new _ _ _ _, fun i hi => ?_, fun i j hi hj hij => ?_, fun i hi => ?_, fun i hi => ?_⟩
      · rw [World.cell?_alloc_new]
        match i, hi with
        | 0, _ => rfl
        | 1, _ => rfl
        | 2, _ => rfl
      · match i, hi with
        | 0, _ => show w3.heap.size ≠ w.heap.size; omega
        | 1, _ => show w3.heap.size ≠ w1.heap.size; omega
        | 2, _ => show w3.heap.size ≠ w2.heap.size; omega
      · match i, hi, j, hj with
        | 0, _, 0, _ => exact absurd rfl hij
        | 0, _, 1, _ => show w.heap.size ≠ w1.heap.size; omega
        | 0, _, 2, _ => show w.heap.size ≠ w2.heap.size; omega
        | 1, _, 0, _ => show w1.heap.size ≠ w.heap.size; omega
        | 1, _, 1, _ => exact absurd rfl hij
        | 1, _, 2, _ => show w1.heap.size ≠ w2.heap.size; omega
        | 2, _, 0, _ => show w2.heap.size ≠ w.heap.size; omega
        | 2, _, 1, _ => show w2.heap.size ≠ w1.heap.size; omega
        | 2, _, 2, _ => exact absurd rfl hij
      · match i, hi with
        | 0, _ => exact (hX HA1.out _).below (hb23.trans (hb4.mono (by omega)))
        | 1, _ => exact (hX HA2.out _).below (HB3.out.trans (hb4.mono (by omega)))
        | 2, _ => exact (hX HA3.out _).below hb4
      · match i, hi with
        | 0, _ => show w.heap.size ≤ w.heap.size; omega
        | 1, _ => show w.heap.size ≤ w1.heap.size; omega
        | 2, _ => show w.heap.size ≤ w2.heap.size; omega
    have HST := Lib.hid hst
    have hnb1 := fun W => number_ok (w := W) 1 0 (by omega) (by omega) (by omega) (by omega)
    have hnb2 := fun W => number_ok (w := W) 1 1 (by omega) (by omega) (by omega) (by omega)
    have HN1 := Lib.hid hnb1
    have HN2 := Lib.hid hnb2
    clear hst HA1 HA2 HA3 HB1 HB2 HB3 hnb1 hnb2
    go_wp2_with fail
    generalize (w3.alloc (.cells #[.pointer (some ⟨w.heap.size, 0, none⟩), .pointer (some ⟨w1.heap.size, 0, none⟩), .pointer (some ⟨w2.heap.size, 0, none⟩)] 22)) = W4 at HST ⊢
    generalize w3.heap.size = g at HST ⊢
    refine (HN1.out _).mono ?_
    rintro e w5 ⟨rfl, rfl⟩
    go_wp2_with fail
    refine (HN2.out _).mono ?_
    rintro e w5 ⟨rfl, rfl⟩
    clear HN1 HN2
    go_wp2_with fail
    clear ham hbm e1 e2
    have hini : ∀ i, i < 3 → (0 : Int) = (if i < 0 ∧ i ≠ am then 9 else 0) ∧ (fun _ => none : Nat → Option Vt) = (if i < 0 ∧ i ≠ am then oneV s else fun _ => none) := fun i _ => ⟨by rw [if_neg (by omega)], by rw [if_neg (by omega)]⟩
    have HINI := Lib.hid hini
    clear hini
    go_loopw [16, 17, 18, 19, 20] (fun c _ _ _ _ wr => ∃ (k : Nat) (bs : Nat → Nat) (ps : Nat → Int) (Vs : Nat → Nat → Option Vt), k ≤ 3 ∧ c = .int .i64 (k : Int) ∧ A3 w (fun _ => False) wr g bs ps Vs ∧ Hid (∀ i, i < 3 → ps i = (if i < k ∧ i ≠ am then 9 else 0) ∧ Vs i = (if i < k ∧ i ≠ am then oneV s else fun _ => none))) (fun c _ _ _ _ _ => 3 - (intOf c).toNat)
    case atStart => exact ⟨0, _, _, _, by omega, rfl, HST.out, HINI⟩
    case round =>
      clear HST HINI
      obtain ⟨k, bs, ps, Vs, hk, rfl, hA, hpv⟩ := hrel
      by_cases hlt : k < 3
      · have e1 : decide ((k : Int) < 3) = true := by simp; omega
        by_cases hka : k = am
        · have e2 : ((k : Int) == (am : Int)) = true := by simp; omega
          have HA := Lib.hid hA
          have HPV := Lib.hid (show ∀ i, i < 3 → ps i = (if i < k + 1 ∧ i ≠ am then 9 else 0) ∧ Vs i = (if i < k + 1 ∧ i ≠ am then oneV s else fun _ => none) from fun i hi => by
            have := hpv.out i hi
            by_cases h1 : i < k ∧ i ≠ am
            · rw [if_pos h1, if_pos h1] at this
              rw [if_pos (by omega), if_pos (by omega)]; exact this
            · rw [if_neg h1, if_neg h1] at this
              rw [if_neg (by omega), if_neg (by omega)]; exact this)
          clear hA hpv hka
          go_wp2_with fail
          go_roundw
          case rel => exact ⟨k + 1, bs, ps, Vs, by omega, by go_num, HA.out, HPV⟩
          case measure => simp [intOf]; omega
        · have e2 : ((k : Int) == (am : Int)) = false := by simp; omega
          have hp0 : ps k = 0 := by have := (hpv.out k hlt).1; rwa [if_neg (by omega)] at this
          have hv0 : Vs k = fun _ => none := by have := (hpv.out k hlt).2; rwa [if_neg (by omega)] at this
          have hak := hA.ac k hlt
          rw [hp0, hv0] at hak
          have hpr := prep_ok hak (hA.xb hlt) 9 (by omega) (by omega) (by omega) 0
          have c0 := hA.cl k hlt
          have HA := Lib.hid hA
          have hki : (k : Int) < 3 := by omega
          clear hA hak hp0 hv0 hka
          go_wp2_with fail
          refine hpr.mono ?_
          rintro e w6 ⟨v6, rfl, -, ha6, hm6⟩
          have hA6 := HA.out.turn hlt ha6 hm6
          have c6 := hA6.cl k hlt
          have hac := accept_ok ha6 (hA6.xb hlt) hA6.xl 0 (by omega) 9 (by omega) (by omega) (by omega) s (by omega)
          have HA6 := Lib.hid hA6
          clear hpr ha6 hm6 hA6 c0 HA
          go_wp2_with fail
          refine hac.mono ?_
          rintro e w7 ⟨rfl, ha7, hm7⟩
          have hA7 := HA6.out.turn hlt ha7 hm7
          have c7 := hA7.cl k hlt
          have ht7 := HT.out.below hA7.b HT.out.lt
          have hsv := save_any ht7 (p := 9) ha7 (by omega) (votes_one s 4095) (by simp) (fun v hv => by
            simp at hv; subst hv
            exact ⟨by show (0 : Int) ≤ 0; omega, by show (0 : Int) < 4096; omega, by show (1 : Int) ≤ 9; omega, by show (9 : Int) ≤ 1099511627776; omega, by show s.size ≤ 1024; omega⟩)
          have HA7 := Lib.hid hA7
          clear hac ha7 hm7 hA7 ht7 c6 HA6
          go_wp2_with fail
          refine hsv.mono ?_
          rintro e w8 ⟨rfl, hb8⟩
          have hA8 := HA7.out.more hb8
          have hld := load_one (HT.out.below hA8.b HT.out.lt) (pr := 9) (s := 0) (n := 9) (t := s) (by omega) (by omega) (by omega) (by omega) (by omega)
          have HA8 := Lib.hid hA8
          clear hsv hb8 c7 hA8 HA7
          go_wp2_with fail
          refine hld.mono ?_
          rintro e w9 ⟨a, rfl, hal, ha9, hb9⟩
          have hA9 := HA8.out.swap hlt hb9 hal ha9
          have c9 := (HA8.out.more hb9).cl k hlt
          have f9 := (HA8.out.more hb9).fr k
          have hps : ∀ i, i < 3 → (upI (upI (upI ps k 9) k 9) k (9 : Int)) i = (if i < k + 1 ∧ i ≠ am then 9 else 0) ∧ (upI (upI (upI Vs k fun _ => none) k (updV (fun _ => none) 0 ⟨9, s⟩)) k (updV (fun _ => none) 0 ⟨9, s⟩)) i = (if i < k + 1 ∧ i ≠ am then oneV s else fun _ => none) := fun i hi => by
            have h := hpv.out i hi
            have hka : k ≠ am := by intro h; rw [h] at e2; simp at e2
            by_cases hik : i = k
            · subst hik
              rw [if_pos (by omega), if_pos (by omega)]
              exact ⟨by simp [upI], by simp [upI, oneV]⟩
            · rw [show (upI (upI (upI ps k 9) k 9) k (9 : Int)) i = ps i by simp [upI, hik], show (upI (upI (upI Vs k fun _ => none) k (updV (fun _ => none) 0 ⟨9, s⟩)) k (updV (fun _ => none) 0 ⟨9, s⟩)) i = Vs i by simp [upI, hik]]
              by_cases h1 : i < k ∧ i ≠ am
              · rw [if_pos h1, if_pos h1] at h
                rw [if_pos (by omega), if_pos (by omega)]; exact h
              · rw [if_neg h1, if_neg h1] at h
                rw [if_neg (by omega), if_neg (by omega)]; exact h
          have HPS := Lib.hid hps
          have HA9 := Lib.hid hA9
          clear hld hal ha9 hb9 hA9 hps hpv HA8
          go_wp2_with fail
          go_roundw
          case rel => exact ⟨k + 1, _, _, _, by omega, by go_num, HA9.out, HPS⟩
          case measure => simp [intOf]; omega
      · have e1 : decide ((k : Int) < 3) = false := by simp; omega
        have hpv2 : ∀ i, i < 3 → ps i = (if i ≠ am then 9 else 0) ∧ Vs i = (if i ≠ am then oneV s else fun _ => none) := fun i hi => by
          have h := hpv.out i hi
          by_cases h1 : i ≠ am
          · rw [if_pos h1, if_pos h1]; rw [if_pos ⟨by omega, h1⟩, if_pos ⟨by omega, h1⟩] at h; exact h
          · rw [if_neg h1, if_neg h1]; rw [if_neg (by omega), if_neg (by omega)] at h; exact h
        have hst := SetsB.nil (base := wr.heap.size) wr (Nat.le_refl _)
        have hA2 := hA.since.more (W' := wr.alloc (.cells #[] 28)) ((Below.refl _ _).alloc (Nat.le_refl _) _)
        have hbs : ∀ i, i < 3 → bs i < wr.heap.size := fun i hi => (hA.ac i hi).lt
        have HPV := Lib.hid hpv2
        have HSB := Lib.hid hst
        have HA := Lib.hid hA2
        have HBS := Lib.hid hbs
        have hgb := hA.gw
        have hwb := hA.b.size
        clear hA hpv hpv2 hst hA2 hbs e1
        go_wp2_with fail
        generalize wr.alloc (.cells #[] 28) = W1 at HA HSB ⊢
        obtain ⟨i0, hi0, hz0, hz1, hz2⟩ := info_parts Tryd.infoSet
        have Hi := Lib.hid hi0
        have Hz := Lib.hid hz0
        have Hz1 := Lib.hid hz1
        have Hz2 := Lib.hid hz2
        clear hi0 hz0 hz1 hz2
        have hbW : wr.heap.size ≤ W1.heap.size := by obtain ⟨_, _, h1, -⟩ := HSB.out; have := (h1.lt wr.heap.size rfl).2; omega
        generalize wr.heap.size = base at HSB HBS HA hbW hgb hwb ⊢
        have hini : (∀ i, i < 3 → 0 ≤ i → ps i = (if i ≠ am then 9 else 0)) ∧ ∀ i, i < 3 → Vs i = (if i ≠ am then oneV s else fun _ => none) := ⟨fun i hi _ => (HPV.out i hi).1, fun i hi => (HPV.out i hi).2⟩
        have HINI := Lib.hid hini
        clear hini HPV
        go_loopw [21, 22, 23, 24] (fun sv c _ _ wx => ∃ (k : Nat) (ps : Nat → Int) (Vs : Nat → Nat → Option Vt), k ≤ 3 ∧ c = .int .i64 (k : Int) ∧ base ≤ wx.heap.size ∧ A3 w (fun q => base ≤ q) wx g bs ps Vs ∧ SetsB base wx sv (setsTo am bm s k) ∧ Hid ((∀ i, i < 3 → k ≤ i → ps i = (if i ≠ am then 9 else 0)) ∧ ∀ i, i < 3 → Vs i = (if i ≠ am then oneV s else fun _ => none))) (fun _ c _ _ _ => 3 - (intOf c).toNat)
        case atStart => exact ⟨0, ps, Vs, by omega, rfl, hbW, HA.out, HSB.out, HINI⟩
        case round =>
          clear HA HSB HINI
          obtain ⟨k, ps, Vs, hk, rfl, hbase, hA, hS, hpv⟩ := hrel
          have hsl := setsTo_len am bm s k
          by_cases hlt : k < 3
          · have e1 : decide ((k : Int) < 3) = true := by simp; omega
            by_cases hkb : k = bm
            · have e2 : ((k : Int) == (bm : Int)) = true := by simp; omega
              have HA := Lib.hid hA
              have HS := Lib.hid (show SetsB base wr u21 (setsTo am bm s (k + 1)) by rw [setsTo_succ, if_pos hkb, List.append_nil]; exact hS)
              have HPV := Lib.hid (show (∀ i, i < 3 → k + 1 ≤ i → ps i = (if i ≠ am then 9 else 0)) ∧ ∀ i, i < 3 → Vs i = (if i ≠ am then oneV s else fun _ => none) from ⟨fun i hi h => hpv.out.1 i hi (by omega), hpv.out.2⟩)
              obtain ⟨a4, cap4, rfl⟩ := hS.lens
              clear hA hS hpv hkb
              go_wp2_with fail
              go_roundw
              case rel => exact ⟨k + 1, ps, Vs, by omega, by go_num, hbase, HA.out, HS.out, HPV⟩
              case measure => simp [intOf]; omega
            · have e2 : ((k : Int) == (bm : Int)) = false := by simp; omega
              have hp0 := hpv.out.1 k hlt (Nat.le_refl _)
              have hv0 := hpv.out.2 k hlt
              have hp9 : ps k ≤ 9 := by rw [hp0]; split <;> omega
              have hvt : votesTo (Vs k) 0 4096 = (if k = am then [] else [⟨0, 9, s⟩]) := by
                rw [hv0]
                by_cases h : k = am
                · rw [if_neg (by omega), if_pos h]; exact votes_none 0 4096
                · rw [if_pos h, if_neg h]; exact votes_one s 4095
              have hst : setsTo am bm s (k + 1) = setsTo am bm s k ++ [if k = am then [] else [⟨0, 9, s⟩]] := by rw [setsTo_succ, if_neg hkb]
              have hpr := prep_ok (hA.ac k hlt) (hA.xb hlt) 10 (by omega) (by omega) (by omega) 0
              rw [hvt] at hpr
              generalize (if k = am then ([] : List Vote) else [⟨0, 9, s⟩]) = lk at hpr hst
              have c0 := hA.cl k hlt
              have hbk := HBS.out k hlt
              have hki : (k : Int) < 3 := by omega
              obtain ⟨a4, cap4, rfl⟩ := hS.lens
              have HA := Lib.hid hA
              have HS := Lib.hid hS
              have HST := Lib.hid hst
              clear hA hS hp0 hv0 hvt hst hkb hp9
              go_wp2_with fail
              refine hpr.mono ?_
              rintro e w6 ⟨v6, rfl, ho6, ha6, hm6⟩
              have hA6 := HA.out.turn hlt ha6 hm6
              have hS6 := HS.out.moves hm6 (fun q hq => by omega)
              have c6 := hA6.cl k hlt
              have hac := accept_old ha6 0 (by omega) 9 (by omega) (by omega) (by omega) t (by omega)
              obtain ⟨a6, cap6, rfl⟩ := row_lens ho6
              have hn6 : ∀ q, (Value.slice a6 lk.length cap6).ownBlock = some q → (Value.slice a4 (setsTo am bm s k).length cap4).ownBlock ≠ some q := fun q hq e => by
                have := (ho6.lt q hq).1
                obtain ⟨vals, h0, h1, -⟩ := HS.out
                have := (h1.lt q e).2
                omega
              have hbw : base ≤ w6.heap.size := Nat.le_trans hbase hm6.size
              have ho6' := ownsRow_base (base' := base) ho6 fun q hq => Nat.le_trans hbase (ho6.lt q hq).1
              have HA6 := Lib.hid hA6
              have HS6 := Lib.hid hS6
              have HO6 := Lib.hid ho6'
              have HN6 := Lib.hid hn6
              clear hpr ho6 ho6' ha6 hm6 hA6 hS6 c0 HA HS hn6
              go_wp2_with fail
              refine hac.mono ?_
              rintro e w7 ⟨rfl, hb7⟩
              have hb8 : Below w7.heap.size w7 (w7.alloc (.cells #[.slice a6 lk.length cap6] 28)) := (Below.refl _ _).alloc (Nat.le_refl _) _
              have hb68 := hb7.trans (hb8.mono hb7.size)
              have hS8 := HS6.out.below hb68
              have hA8 := HA6.out.more hb68
              have ho8 := ownsRow_keep HO6.out fun q hq => hb68.block q (HO6.out.lt q hq).2
              obtain ⟨vals, h0, h1, h3, h2⟩ := hS8
              have hcl : ∀ j u, [Value.slice a6 lk.length cap6][j]? = some u → (w7.alloc (.cells #[.slice a6 lk.length cap6] 28)).cell? ((⟨w7.heap.size, 0, none⟩ : Addr).add j) = some u := fun j u hj => by
                rw [Addr.add_mid, Nat.zero_add, World.cell?_alloc_new]
                simpa using hj
              have hml : (setsTo am bm s k).length + 1 ≤ maxLen := by unfold maxLen; omega
              have O1 : ∀ v ∈ [Value.slice a6 lk.length cap6], v.oneCell' = true := fun v hv => by simp at hv; subst hv; rfl
              have hbs8 : base ≤ (w7.alloc (.cells #[.slice a6 lk.length cap6] 28)).heap.size := Nat.le_trans hbw (Nat.le_trans hb7.size hb8.size)
              have H0 := Lib.hid h0
              have H1 := Lib.hid h1
              have H2 := Lib.hid h2
              have H3 := Lib.hid h3
              have HO8 := Lib.hid ho8
              have HA8 := Lib.hid hA8
              have Hcl := Lib.hid hcl
              generalize hSS : setsTo am bm s k = S at hsl hml H0 H1 H2 HN6 HST ⊢
              clear hac hb7 hb8 hb68 h0 h1 h2 h3 ho8 hA8 hcl c6 HA6 HS6 HO6 hSS
              go_wp2_with (refine wpList_append_own_at _ rfl (.tmp 144) (.tmp 146) 37 rfl base 28 i0 _ 1 24 Tryd.underlying37 Hi.out Hz.out Hz1.out Hz2.out rfl (by decide) _ S.length vals rfl H1.out ⟨w7.heap.size, 0, none⟩ 1 1 [.slice a6 lk.length cap6] rfl rfl Hcl.out O1 hml (by omega) hbs8 ?_)
              intro v9 w9 hown9 hgrow hnn hor
              have hS9 := SetsB.push (l := lk) (x := .slice a6 lk.length cap6) rfl H0.out H3.out H2.out HO8.out HN6.out hgrow hown9 (by simpa using hor)
              rw [← HST.out] at hS9
              have hA9 := HA8.out.others ((Moves.refl (fun q => (Value.slice a4 S.length cap4).ownBlock = some q) _).grown hgrow fun q hq => .inl hq) fun q hq => by
                have h1 := (H1.out.lt q hq).1
                exact ⟨h1, by omega, by omega, fun i hi => by have := HBS.out i hi; omega⟩
              have HS9 := Lib.hid hS9
              have HA9 := Lib.hid hA9
              have hb9 : base ≤ w9.heap.size := Nat.le_trans hbs8 hgrow.size
              obtain ⟨a9, cap9, rfl⟩ := hS9.lens
              have HPV := Lib.hid (show (∀ i, i < 3 → k + 1 ≤ i → (upI ps k 10) i = (if i ≠ am then 9 else 0)) ∧ ∀ i, i < 3 → (upI Vs k (Vs k)) i = (if i ≠ am then oneV s else fun _ => none) from ⟨fun i hi h => by
                have := hpv.out.1 i hi (by omega)
                rw [← this]; unfold upI; rw [if_neg (by omega)], fun i hi => by
                have := hpv.out.2 i hi
                rw [← this]; unfold upI; split
                · rename_i h; rw [h]
                · rfl⟩)
              clear hown9 hgrow hnn hor hS9 hA9 hpv
              go_wp2_with fail
              go_roundw
              case rel => exact ⟨k + 1, _, _, by omega, by go_num, hb9, HA9.out, HS9.out, HPV⟩
              case measure => simp [intOf]; omega
          · have e1 : decide ((k : Int) < 3) = false := by simp; omega
            have hk3 : k = 3 := by omega
            subst hk3
            have hch := choose_any hS.sets 0 (by omega) (fun l hl => by
              unfold setsTo at hl
              obtain ⟨i, -, rfl⟩ := List.mem_map.1 hl
              split <;> simp)
            rw [setsTo_best ham3 hbm3] at hch
            unfold Vote.val' at hch
            have HB := Lib.hid hA.b
            obtain ⟨a4, cap4, rfl⟩ := hS.lens
            clear hA hS hpv
            go_wp2_with fail
            refine hch.mono ?_
            rintro e w6 ⟨rfl, hb6⟩
            have hvb : VBox (w6.alloc (.cells #[.int .i64 0, .int .i64 9, .string s] 33)) w6.heap.size ⟨0, 9, s⟩ := VBox.made w6 ⟨0, 9, s⟩ _
            have z1 := hvb 1 _ rfl
            have z2 := hvb 2 _ rfl
            dsimp only at z1 z2
            have HBF := Lib.hid ((HB.out.trans (hb6.mono HB.out.size)).alloc (Nat.le_trans HB.out.size hb6.size) (.cells #[.int .i64 0, .int .i64 9, .string s] 33))
            clear hch hb6 hvb
            go_wp2_with fail
            go_ret
            exact ⟨rfl, HBF.out⟩
  · by_cases hs1 : s.size ≤ 100
    · have e1 : decide ((100 : Int) < (s.size : Int)) = false := by simp; omega
      have e2 : decide ((100 : Int) < (t.size : Int)) = true := by simp; omega
      clear hsz ht
      go_enter Tryd.func3, Tryd.ntmps3
      go_wp2_with fail
      refine hna.mono ?_
      rintro e w1 ⟨rfl, -, hb1⟩
      have HB1 := Lib.hid hb1
      clear hna hb1
      go_wp2_with fail
      go_ret
      exact ⟨rfl, HB1.out⟩
    · have e1 : decide ((100 : Int) < (s.size : Int)) = true := by simp; omega
      clear hsz ht
      go_enter Tryd.func3, Tryd.ntmps3
      go_wp2_with fail
      refine hna.mono ?_
      rintro e w1 ⟨rfl, -, hb1⟩
      have HB1 := Lib.hid hb1
      clear hna hb1
      go_wp2_with fail
      go_ret
      exact ⟨rfl, HB1.out⟩
end
end Go.Proofs.YtkbncbkmaakpkaaDoor
