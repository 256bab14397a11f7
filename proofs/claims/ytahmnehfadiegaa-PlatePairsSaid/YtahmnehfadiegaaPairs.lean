/- PlatePairs: its walk. Printed by gen_pairs.py. -/
import Derived.Test.YtahmnehfadiegaaPF
import Derived.Test.YtahmnehfadiegaaPairsPlain
import Derived.Test.YtahmnehfadiegaaScript
import Derived.Deep.AppendLies
import Derived.IntWalk
namespace Go.Proofs.Ytahmnehfadiegaa
open Go.RowKit
theorem P1.frame {B : Nat} {w0 w : World} {b : Nat} {st : PS} (h : P1 B w0 w b st) : PF ⟨B, w0, fun _ => False, w⟩ w b st := by
  obtain ⟨v, h1, f1, hb⟩ := h
  exact ⟨v, h1, fun k hk => ⟨f1 k hk, fun h => h⟩, hb, fun k hk => hk.elim⟩
theorem cat_pad {s Z : ByteArray} (hZ : Z = ⟨(Zn (32 - s.size)).toArray⟩) : Value.string (s ++ Z) = str (pad s.data.toList) := by
  unfold str pad
  congr 1
  apply ByteArray.ext
  rw [ByteArray.data_append, hZ]
  apply Array.toList_inj.1
  simp
theorem size_Zn (n : Nat) : (⟨(Zn n).toArray⟩ : ByteArray).size = n := by simp [ByteArray.size, Zn]
/-- Two bytes of a string, as the law compares them. -/
theorem pair_eq {x y : List UInt8} {k : Nat} : (⟨x.toArray⟩ : ByteArray).extract k (k + 2) = (⟨y.toArray⟩ : ByteArray).extract k (k + 2) ↔ (x.drop k).take 2 = (y.drop k).take 2 := by
  have e : ∀ z : List UInt8, (⟨z.toArray⟩ : ByteArray).extract k (k + 2) = ⟨((z.drop k).take 2).toArray⟩ := fun z => by
    apply ByteArray.ext
    rw [ByteArray.data_extract]
    apply Array.toList_inj.1
    simp [List.take_drop]
  rw [e, e]
  constructor
  · intro h
    have := congrArg ByteArray.data h
    exact Array.toList_inj.2 this
  · intro h; rw [h]
theorem toList_loop (bs : ByteArray) : ∀ (n i : Nat) (r : List UInt8), bs.size - i = n → ByteArray.toList.loop bs i r = r.reverse ++ bs.data.toList.drop i := by
  intro n
  induction n with
  | zero =>
    intro i r h
    unfold ByteArray.toList.loop
    rw [if_neg (by omega)]
    rw [List.drop_eq_nil_of_le (by have : bs.data.toList.length = bs.size := rfl; omega), List.append_nil]
  | succ n ih =>
    intro i r h
    unfold ByteArray.toList.loop
    have hi : i < bs.size := by omega
    rw [if_pos hi, ih (i + 1) _ (by omega)]
    have hl : i < bs.data.toList.length := hi
    rw [List.drop_eq_getElem_cons hl]
    have hg : bs.get! i = bs.data.toList[i] := by
      show bs.data[i]! = _
      rw [getElem!_pos bs.data i hi]
      rfl
    simp [hg]
theorem toList_data (bs : ByteArray) : bs.toList = bs.data.toList := by
  have := toList_loop bs bs.size 0 [] rfl
  simpa [ByteArray.toList] using this
set_option maxRecDepth 100000 in
set_option maxHeartbeats 4000000 in
theorem pairs_any (old : ByteArray) (keep : Nat) (hkeep : keep < 18446744073709551616) {v : Value} {l : List ByteArray} {w : World} (hold : old.size ≤ maxLen) (ha : ArgRow w v 1 (l.map fun s => [.string s])) (hfit : ∀ s ∈ l, s.size ≤ maxLen) :
    Calls Try.prog 5 #[.string old, v, .int .u64 (keep : Int)] w fun e w' => e = .returned (.bool true) ∧ Below w.heap.size w w' := by
  unfold maxLen at hold
  obtain ⟨base, cap, rfl, hm, hrow⟩ := ha
  rw [List.length_map] at hm ⊢
  unfold maxLen at hm
  by_cases ho : old.size ≤ 32
  · by_cases hl20 : l.length ≤ 20
    · obtain ⟨i0, hi0, hz0, hz1, hz2⟩ := info_parts Try.infoStr
      have Hi := Lib.hid hi0
      have Hz := Lib.hid hz0
      have Hz1 := Lib.hid hz1
      have Hz2 := Lib.hid hz2
      clear hi0 hz0 hz1 hz2
      have hol : old.data.toList.length = old.size := rfl
      obtain ⟨f1, f2, f3, f4, f5, f6, f7, f8, f9, f10⟩ := PS.first_two old.data.toList (by rw [hol]; exact ho)
      have Hf := Lib.hid (And.intro f1 (And.intro f4 (And.intro f5 (And.intro f6 (And.intro f7 f8)))))
      have e4 : sizeOfN 4 = 4 := rfl
      have oi : (old.size : Int) ≤ 32 := by omega
      have li : (l.length : Int) ≤ 20 := by omega
      go_enter Try.func5, Try.ntmps5
      go_wp2_with fail
      refine (P1.made 4).mono ?_
      rintro e w1 ⟨rfl, hp1⟩
      rw [e4] at hp1
      have hp := hp1.frame
      have hw := hp.write (Nat.zero_lt_succ _) (Nat.zero_lt_succ _) 2 old (by unfold maxLen; omega)
      rw [f2] at hw
      have hsy : ∀ w2, PF ⟨w.heap.size, w, fun _ => False, w1⟩ w2 w.heap.size ((PS.new 4).writeS 2 old.data.toList) → _ := fun w2 h => h.sync (by rw [f9]; decide) (by rw [f10]; decide)
      rw [f3] at hsy
      have Hsy := Lib.hid hsy
      clear hp1 hp e4 f1 f2 f3 f4 f5 f6 f7 f8 f9 f10 hsy hol
      generalize hb : w.heap.size = b at hw Hsy ⊢
      have HB := Lib.hid hb
      clear hb
      go_wp2_with fail
      refine hw.mono ?_
      rintro e w2 ⟨rfl, hp⟩
      have hsy := Hsy.out w2 hp
      clear hw Hsy hp
      go_wp2_with fail
      refine hsy.mono ?_
      rintro e w3 ⟨rfl, hp⟩
      clear hsy
      obtain ⟨-, hlv, hsz, hwt, his, hcal⟩ := Hf.out
      generalize ((PS.new 4).writeS 2 old.data.toList).syncS = st at hp hlv hsz hwt his hcal
      have Hsz := Lib.hid hsz
      have Hwt := Lib.hid hwt
      have His := Lib.hid his
      have hc2 : st.calls ≤ 2 := by omega
      clear hsz hwt his hcal Hf
      have hzz := zeros_any (32 - old.size) (by omega) w3
      have hze : ((32 - old.size : Nat) : Int) = 32 - (old.size : Int) := by omega
      rw [hze] at hzz
      have hZs : ((⟨(Zn (32 - old.size)).toArray⟩ : ByteArray).size : Int) = 32 - (old.size : Int) := by rw [size_Zn]; exact hze
      obtain ⟨Z, HZ⟩ : ∃ Z : ByteArray, Hid (Z = ⟨(Zn (32 - old.size)).toArray⟩) := ⟨_, rfl⟩
      rw [← HZ.out] at hzz hZs
      have hcat : ¬ 9223372036854775807 < old.size + Z.size := by omega
      have HP := Lib.hid hp
      clear hze hp
      go_wp2_with fail
      refine hzz.mono ?_
      rintro e w4 ⟨rfl, hb4⟩
      have hp := HP.out.quiet hb4
      clear hzz hb4 HP
      have hpA : PF ⟨b, w, fun q => q = w4.heap.size, w4.alloc (.cells #[.string (old ++ Z)] 9)⟩ (w4.alloc (.cells #[.string (old ++ Z)] 9)) b st :=
        hp.moved (G := fun _ => False) ((Moves.refl _ w4).alloc _) (fun _ h => h.elim) (fun q hq => ⟨by simp [hq], .inr (by show w4.heap.size ≤ q; omega)⟩)
      have hkA : Kept ⟨b, w, fun q => q = w4.heap.size, w4.alloc (.cells #[.string (old ++ Z)] 9)⟩ (.slice (some ⟨w4.heap.size, 0, none⟩) 1 1) := fun q hq => by
        simp only [Value.ownBlock, Option.some.injEq] at hq
        have hbb : b ≤ w4.heap.size := hp.hB
        exact ⟨hq.symm, by show b ≤ q; omega⟩
      have hoA : (w4.alloc (.cells #[.string (old ++ Z)] 9)).ownsRow 0 9 1 (.slice (some ⟨w4.heap.size, 0, none⟩) 1 1) (0 + 1) (scells (pad old.data.toList :: [])) := by
        have := World.ownsRow_lit (base := 0) (size := 1) (e := 9) w4 #[.string (old ++ Z)] 1 (Nat.zero_le _) (by unfold maxLen; omega) rfl
        rw [cat_pad HZ.out] at this ⊢
        exact this
      have HpA := Lib.hid hpA
      have HoA := Lib.hid hoA
      clear hp hpA hoA
      go_wp2_with fail
      go_loopw [8, 9] (fun v i wq => ∃ (k : Nat) (st : PS) (ms : List (List UInt8)) (K : Nat → Prop) (wk : World), k ≤ l.length ∧ i = .int .i64 (k : Int) ∧ PF ⟨b, w, K, wk⟩ wq b st ∧ Kept ⟨b, w, K, wk⟩ v ∧
          wq.ownsRow 0 9 1 v (ms.length + 1) (scells (pad old.data.toList :: ms)) ∧ st.live ∧ Hid (st.size = 4) ∧ Hid (st.wait = ms.map fun m => (2, m)) ∧ Hid (st.is.getD 2 [] = pad old.data.toList) ∧ Hid (∀ m ∈ ms, m.length = 32) ∧ st.calls ≤ 2 + k ∧ ms.length ≤ k)
        (fun _ i _ => l.length - (intOf i).toNat)
      case atStart => exact ⟨0, st, [], _, _, Nat.zero_le _, rfl, HpA.out, hkA, HoA.out, hlv, Hsz, Hwt, His, fun _ h => by simp at h, hc2, Nat.le_refl _⟩
      case round =>
        clear HpA hkA HoA hlv Hsz Hwt His hc2
        obtain ⟨k, st, ms, K, wk, hk, rfl, hp, hkp, hrw, hlv, Hsz, Hwt, His, Hms, hcal, hml⟩ := hrel
        by_cases hlt : k < l.length
        · obtain ⟨s, hs⟩ : ∃ s, l[k]? = some s := ⟨_, List.getElem?_eq_getElem hlt⟩
          obtain ⟨g, off, rfl, hgl, hc⟩ := hrow k [.string s] (by rw [List.getElem?_map, hs]; rfl)
          have hsf := hfit s (List.mem_of_getElem? hs)
          unfold maxLen at hsf
          have hc0 := hc 0 _ rfl
          rw [Nat.mul_one, Nat.add_zero] at hc0
          have hcl : ∀ w' st' K' wk', PF ⟨b, w, K', wk'⟩ w' b st' → w'.cell? ⟨g, off + k, none⟩ = some (.string s) := by
            intro w' st' K' wk' h
            exact (World.cell?_of_block (a := ⟨g, off + k, none⟩) (h.below.block g (by rw [← HB.out]; exact hgl))).trans hc0
          have Hcells := Lib.hid hcl
          clear hs hc hc0 hcl
          have hsl : s.data.toList.length = s.size := rfl
          have hwl : st.wait.length ≤ 20 := by rw [Hwt.out, List.length_map]; omega
          have hww := hp.write (by omega) (by omega) 2 s (by unfold maxLen; omega)
          have d0 := Hcells.out _ _ _ _ hp
          by_cases h32 : s.size ≤ 32
          · obtain ⟨x1, x2⟩ := hlv.write_two (by rw [Hsz.out]; decide) s.data.toList (by rw [hsl]; exact h32)
            have hl2 := hlv.write 2 s.data.toList
            rw [x1, x2] at hww
            rw [x1] at hl2
            have hs2 : Hid ((st.waits 2 (pad s.data.toList)).counts.size = 4) := Hsz.out
            have hw2 : Hid ((st.waits 2 (pad s.data.toList)).counts.wait = (ms ++ [pad s.data.toList]).map fun m => (2, m)) := by
              show st.wait ++ [(2, pad s.data.toList)] = _
              rw [Hwt.out, List.map_append]; rfl
            have hi2 : Hid ((st.waits 2 (pad s.data.toList)).counts.is.getD 2 [] = pad old.data.toList) := His.out
            have hm2 : Hid (∀ m ∈ ms ++ [pad s.data.toList], m.length = 32) := fun m hm => by
              rcases List.mem_append.1 hm with h | h
              · exact Hms.out m h
              · simp at h; rw [h]; exact length_pad _ (by rw [hsl]; exact h32)
            have hc3 : (st.waits 2 (pad s.data.toList)).counts.calls ≤ 2 + (k + 1) := by show st.calls + 1 ≤ _; omega
            generalize (st.waits 2 (pad s.data.toList)).counts = st2 at hww hl2 hs2 hw2 hi2 hc3
            have si : (s.size : Int) ≤ 32 := by omega
            have hze : ((32 - s.size : Nat) : Int) = 32 - (s.size : Int) := by omega
            obtain ⟨Z, HZ⟩ : ∃ Z : ByteArray, Hid (Z = ⟨(Zn (32 - s.size)).toArray⟩) := ⟨_, rfl⟩
            have hzz : ∀ w5, Calls Try.prog 21 #[.int .i64 (32 - (s.size : Int))] w5 fun e w' => e = .returned (.string Z) ∧ Below w5.heap.size w5 w' := fun w5 => by
              rw [← hze, HZ.out]; exact zeros_any _ (by omega) w5
            have hZs : (Z.size : Int) = 32 - (s.size : Int) := by rw [HZ.out, size_Zn]; exact hze
            have hcat : ¬ 9223372036854775807 < s.size + Z.size := by omega
            have hwrap : IntKind.i64.wrap (32 - (s.size : Int)) = 32 - (s.size : Int) := IntWalk.i64_in _ (by omega)
            have h1c : ∀ q ∈ [Value.string (s ++ Z)], q.oneCell' = true := by
              intro q hq
              simp only [List.mem_cons, List.not_mem_nil, or_false] at hq
              rw [hq]; rfl
            have hmx : ms.length + 1 + 1 ≤ maxLen := by unfold maxLen; omega
            have Hww := Lib.hid hww
            have HW := Lib.hid hwrap
            have HP := Lib.hid hp
            clear hww x1 x2 hze hlv hwl hcal hsl hwrap hp
            go_wp2_with fail
            refine Hww.out.mono ?_
            rintro e w5 ⟨rfl, hp5⟩
            have d1 := Hcells.out _ _ _ _ hp5
            have d2 : w5.drew.cell? ⟨g, off + k, none⟩ = some (.string s) := d1
            have hr5 := HP.out.row (hp5) hkp hrw
            clear Hww d0 hrw HP
            have hwrap := HW.out
            go_wp2_with fail
            go_region_held3 (fun w' => w'.cell? ⟨g, off + k, none⟩ = some (.string s)) (first | exact d2 | exact d3 | exact d4 | exact d5)
              ((first
                | (refine step_append_lies _ rfl (.tmp 64) (.tmp 77) 39 rfl 0 9 i0 _ 1 16 Try.underlying39 Hi.out Hz.out Hz1.out Hz2.out rfl (by decide) u8 (ms.length + 1) (scells (pad old.data.toList :: ms)) rfl (hr6.alloc _) ⟨w6.heap.size, 0, none⟩ 1 1 [.string (s ++ Z)] rfl rfl (news_last _ [.string (s ++ Z)] _) h1c (by decide) hmx (by omega) (Nat.zero_le _) _ rfl ?_
                   intro gn capn w7 hown hgrow hat hlt3
                   have hgr := hp6.grown (v' := .slice (some ⟨gn, 0, none⟩) (ms.length + 1 + 1) capn) hkp hgrow (fun q hq => by simp only [Value.ownBlock, Option.some.injEq] at hq; subst hq; exact hat) (by simp) (fun q hq => by simp only [Value.ownBlock, Option.some.injEq] at hq; subst hq; exact hlt3)
                   have d5 := Hcells.out _ _ _ _ hgr.1)
                | (go_at_call 21
                   refine (hzz _).mono ?_
                   rintro e w6 ⟨rfl, hb6⟩
                   have hp6 := (hp5.drewN 1).quiet hb6
                   have hr6 := hp5.row hp6 hkp hr5
                   have d3 := Hcells.out _ _ _ _ hp6
                   have d4 : (w6.alloc (.cells #[.string (s ++ Z)] 9)).cell? ⟨g, off + k, none⟩ = some (.string s) := (World.cell?_alloc_lt _ _ _ (World.block_lt_of_cell? w6 _ d3)).trans d3)))
            obtain ⟨hp7, hk7⟩ := hgr
            rw [show Value.string (s ++ Z) = str (pad s.data.toList) from cat_pad HZ.out, show scells (pad old.data.toList :: ms) ++ [str (pad s.data.toList)] = scells (pad old.data.toList :: (ms ++ [pad s.data.toList])) by simp [scells]] at hown
            have hown2 : w7.ownsRow 0 9 1 (.slice (some ⟨gn, 0, none⟩) (ms.length + 1 + 1) capn) ((ms ++ [pad s.data.toList]).length + 1) (scells (pad old.data.toList :: (ms ++ [pad s.data.toList]))) := by
              rw [List.length_append]; exact hown
            have Hown := Lib.hid hown2
            have hm3 : (ms ++ [pad s.data.toList]).length ≤ k + 1 := by rw [List.length_append]; simp; omega
            clear hown hown2 hgrow hat d1 d2 d3 d4 d5 hp5 hp6 hr5 hr6 hkp hzz h1c hb6 hwrap HW
            go_wp2_with fail
            go_roundw
            case rel => exact ⟨k + 1, st2, ms ++ [pad s.data.toList], _, _, by omega, by go_num, hp7, hk7, Hown.out, hl2, hs2, hw2, hi2, hm2, hc3, hm3⟩
            case measure => simp [intOf]; omega
          · obtain ⟨x1, x2⟩ := hlv.write_long (by rw [Hsz.out]; decide) s.data.toList (by rw [hsl]; exact h32)
            rw [x1, x2] at hww
            have si : (32 : Int) < (s.size : Int) := by omega
            have HP := Lib.hid hp
            clear x1 x2 hwl hsl hp
            have Hrw := Lib.hid hrw
            clear hrw
            go_wp2_with fail
            refine hww.mono ?_
            rintro e w5 ⟨rfl, hp5⟩
            have d1 := Hcells.out _ _ _ _ hp5
            have hr5 := HP.out.row (hp5) hkp Hrw.out
            clear hww d0 Hrw HP
            go_wp2_with fail
            go_roundw
            case rel => exact ⟨k + 1, st, ms, K, wk, by omega, by go_num, hp5, hkp, hr5, hlv, Hsz, Hwt, His, Hms, by omega, by omega⟩
            case measure => simp [intOf]; omega
        · have hcr := hp.crash (by rw [Hwt.out, List.length_map]; omega) keep hkeep
          obtain ⟨hP, hL, hW⟩ := PS.again_pairs hlv keep (by rw [Hsz.out]; decide) _ ms Hwt.out Hms.out His.out
          have hof : (st.crash keep).off = true := by simp only [PS.crash, hlv.2.1]; rfl
          have hwl : (st.crash keep).wait.length ≤ 20 := Nat.le_trans (PS.wait_crash _ _) (by rw [Hwt.out, List.length_map]; omega)
          obtain ⟨may, hmay⟩ : ∃ may, may = pad old.data.toList :: ms := ⟨_, rfl⟩
          have hmln : Hid (∀ m ∈ may, m.length = 32) := fun m hm => by
            rw [hmay] at hm
            rcases List.mem_cons.1 hm with h | h
            · rw [h]; exact length_pad _ ho
            · exact Hms.out m h
          have hnm : ms.length + 1 = may.length := by rw [hmay]; rfl
          have hn21 : may.length ≤ 21 := by rw [← hnm]; omega
          rw [← hmay, hnm] at hrw
          rw [← hmay] at hP
          have h0 : (scells may)[0]? = some (str (pad old.data.toList)) := by rw [hmay]; rfl
          obtain ⟨g8, cap8, rfl, -⟩ := own_at hrw h0
          have hrows : ∀ w' st', PF ⟨b, w, K, wk⟩ w' b st' → ∀ (j : Nat) (m : List UInt8), may[j]? = some m → w'.cell? ⟨g8, j, none⟩ = some (.string ⟨m.toArray⟩) := by
            intro w' st' h j m hm
            have hr := hp.row h hkp hrw
            have hj : j < may.length := (List.getElem?_eq_some_iff.1 hm).1
            rw [hr.cellAt j (by omega), scells, List.getElem?_map, hm]
            rfl
          have Hrows := Lib.hid hrows
          have HPr := Lib.hid hP
          clear hrows hP hrw h0 hmay hnm hkp
          generalize st.crash keep = sc at hcr hof hwl HPr hL hW
          clear hp hlv Hsz Hwt His Hms hcal hml
          go_wp2_with fail
          refine hcr.mono ?_
          rintro e w5 ⟨rfl, hp⟩
          have hdd := hp.dead
          rw [hof] at hdd
          have hpw := hp.power
          have hwl2 : sc.power.wait.length ≤ 20 := hwl
          clear hcr hof hp hwl
          generalize sc.power = sp at hpw HPr hL hW hwl2
          go_wp2_with fail
          refine hdd.mono ?_
          rintro e w6 ⟨rfl, rfl⟩
          clear hdd
          go_wp2_with fail
          refine hpw.mono ?_
          rintro e w6 ⟨rfl, hp⟩
          clear hpw
          have hre := hp.readAt (by omega) 2
          rw [hW] at hre
          obtain ⟨x, hx⟩ : ∃ x, x = sp.readV 2 := ⟨_, rfl⟩
          rw [← hx] at hre HPr hL
          obtain ⟨X, hX⟩ : ∃ X : ByteArray, X = ⟨x.toArray⟩ := ⟨_, rfl⟩
          rw [← hX] at hre
          have hXn : X.size = 32 := by rw [hX]; exact hL
          have hXs : (X.size : Int) = 32 := by omega
          have HX := Lib.hid hX
          clear hp hL hW hx hX hXn
          go_wp2_with fail
          refine hre.mono ?_
          rintro e w7 ⟨rfl, hp⟩
          clear hre
          go_wp2_with fail
          go_loopw [13] (fun i wq => ∃ k : Nat, k ≤ 32 ∧ k % 2 = 0 ∧ i = .int .i64 (k : Int) ∧ PF ⟨b, w, K, wk⟩ wq b sp)
            (fun i _ => 32 - (intOf i).toNat)
          case atStart => exact ⟨0, by omega, rfl, rfl, hp⟩
          case round =>
            clear hp hlt hk
            obtain ⟨k, hk, hk2, rfl, hp⟩ := hrel
            by_cases hlt : k < 32
            · have hd : decide ((k : Int) < 32) = true := by simp; omega
              go_wp2_with fail
              go_loopw [14, 15] (fun q i wq => ∃ (j : Nat) (B : Bool), j ≤ may.length ∧ q = .bool B ∧ i = .int .i64 (j : Int) ∧ PF ⟨b, w, K, wk⟩ wq b sp ∧ Hid (B = false → ∀ (i : Nat) (m : List UInt8), i < j → may[i]? = some m → (m.drop k).take 2 ≠ (x.drop k).take 2))
                (fun _ i _ => may.length - (intOf i).toNat)
              case atStart => exact ⟨0, false, Nat.zero_le _, rfl, rfl, hp, fun _ i m hi => absurd hi (by omega)⟩
              case round =>
                clear hp
                obtain ⟨j, B, hj, rfl, rfl, hp, Hno⟩ := hrel
                by_cases hjn : j < may.length
                · obtain ⟨m, hm⟩ : ∃ m, may[j]? = some m := ⟨_, List.getElem?_eq_getElem hjn⟩
                  have d1 := Hrows.out _ _ hp j m hm
                  have hml := hmln.out m (List.mem_of_getElem? hm)
                  obtain ⟨Y, hY⟩ : ∃ Y : ByteArray, Y = ⟨m.toArray⟩ := ⟨_, rfl⟩
                  rw [← hY] at d1
                  have hYn : Y.size = 32 := by rw [hY]; exact hml
                  have hYs : (Y.size : Int) = 32 := by omega
                  have HP := Lib.hid hp
                  have Hm := Lib.hid hm
                  have hpe : Y.extract k (k + 2) = X.extract k (k + 2) ↔ (m.drop k).take 2 = (x.drop k).take 2 := by rw [hY, HX.out]; exact pair_eq
                  have Hpe := Lib.hid hpe
                  have hwrap : IntKind.i64.wrap ((k : Int) + 2) = (k : Int) + 2 := IntWalk.i64_in _ (by omega)
                  have ht1 : ((k : Int) + 2).toNat = k + 2 := by omega
                  clear hp hm hY hml hpe hYn
                  cases B
                  · by_cases heq : (m.drop k).take 2 = (x.drop k).take 2
                    · have hee : ((Y.extract k (k + 2)).toList == (X.extract k (k + 2)).toList) = true := by rw [Hpe.out.2 heq]; exact beq_self_eq_true _
                      clear heq
                      go_wp2_with fail
                      go_quiet (fail)
                      have hp := HP.out.drewN nq
                      clear HP d1 hee hwrap ht1
                      go_wp2_with fail
                      go_roundw
                      case rel => exact ⟨j + 1, true, by omega, rfl, by go_num, hp, fun h => by simp at h⟩
                      case measure => simp [intOf]; omega
                    · have hee : ((Y.extract k (k + 2)).toList == (X.extract k (k + 2)).toList) = false := by
                        rw [beq_eq_false_iff_ne]
                        intro h
                        rw [toList_data, toList_data] at h
                        exact heq (Hpe.out.1 (ByteArray.ext (Array.toList_inj.1 h)))
                      have Hne := Lib.hid heq
                      clear heq
                      go_wp2_with fail
                      go_quiet (fail)
                      have hp := HP.out.drewN nq
                      clear HP d1 hee hwrap ht1
                      go_wp2_with fail
                      go_roundw
                      case rel => exact ⟨j + 1, false, by omega, rfl, by go_num, hp, fun _ i m' hi hm' => by
                        rcases Nat.lt_or_ge i j with h | h
                        · exact Hno.out (by simp) i m' h hm'
                        · have : i = j := by omega
                          subst this
                          rw [Hm.out] at hm'
                          cases hm'
                          exact Hne.out⟩
                      case measure => simp [intOf]; omega
                  · clear hwrap ht1
                    go_wp2_with fail
                    go_quiet (fail)
                    have hp := HP.out.drewN nq
                    clear HP d1
                    go_wp2_with fail
                    go_roundw
                    case rel => exact ⟨j + 1, true, by omega, rfl, by go_num, hp, fun h => by simp at h⟩
                    case measure => simp [intOf]; omega
                · have hB : B = true := by
                    cases B
                    · exfalso
                      obtain ⟨m, h1, h2⟩ := HPr.out k hk2 (by omega)
                      obtain ⟨i, h3⟩ := List.getElem?_of_mem h1
                      have hi := (List.getElem?_eq_some_iff.1 h3).1
                      exact Hno.out (by simp) i m (by omega) h3 h2
                    · rfl
                  subst hB
                  clear Hno
                  have HP := Lib.hid hp
                  clear hp
                  go_wp2_with fail
                  go_roundw
                  case rel => exact ⟨k + 2, by omega, by omega, by go_num, HP.out⟩
                  case measure => simp [intOf]; omega
            · go_wp2_with fail
              go_ret
              exact ⟨rfl, by rw [HB.out]; exact hp.below⟩
    · go_enter Try.func5, Try.ntmps5
      have oi : (old.size : Int) ≤ 32 := by omega
      have li : (20 : Int) < (l.length : Int) := by omega
      go_wp2_with fail
      go_ret
      exact ⟨rfl, Below.refl _ _⟩
  · go_enter Try.func5, Try.ntmps5
    have oi : (32 : Int) < (old.size : Int) := by omega
    go_wp2_with fail
    go_ret
    exact ⟨rfl, Below.refl _ _⟩
end Go.Proofs.Ytahmnehfadiegaa
