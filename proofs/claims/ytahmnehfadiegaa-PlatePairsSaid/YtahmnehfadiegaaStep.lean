/- The law's steps, as they lie in a slice; heavy. -/
import Derived.Test.YtahmnehfadiegaaArgs
import Derived.Test.YtahmnehfadiegaaPlateA
namespace Go.Proofs.Ytahmnehfadiegaa
open Go.ChangeShapes Go.WideShapes Go.ChangeAt Go.RowKit
structure Stp where
  kind : Int
  i : Int
  s : ByteArray
  keep : Nat
def Stp.fits (o : Stp) : Prop := (-9223372036854775808 ≤ o.kind ∧ o.kind ≤ 9223372036854775807) ∧ (-9223372036854775808 ≤ o.i ∧ o.i ≤ 9223372036854775807) ∧ o.s.size ≤ maxLen ∧ o.keep < 18446744073709551616
def Stp.cells (o : Stp) : List Value := [.int .i64 o.kind, .int .i64 o.i, .string o.s, .int .u64 (o.keep : Int)]
theorem open_steps {H : Type} {enc : TypeId × Value → H} {w : World} {r0 : Reach} {b0 : Nat} {v : Value} {d : DataW H} {ps : List MemPlace}
    (hval : Value.okWide Try.prog w r0 b0 33 v) (hd : DataW.Trod enc Try.prog w 0 (fun _ => true) true 33 v d ps) :
    ∃ l : List Stp, ArgRow w v 4 (l.map Stp.cells) ∧ ∀ o ∈ l, o.fits := by
  obtain ⟨rows, h1, h2⟩ := open_rows Try.underlying33 (show Try.prog.cellsOf 38 = 4 by kernel_rfl) (by decide) hval hd
  obtain ⟨l, rfl, hl⟩ := rows_map (Q := Stp.fits) (f := Stp.cells) rows (fun r hr => by
    obtain ⟨hlen, n, x, hx⟩ := h2 r hr
    obtain ⟨ys, n', _, _, _, hyl, hf⟩ := DataW.trod_struct Try.underlying38 hx
    match r, hlen with
    | [c0, c1, c2, c3], _ =>
      have g0 := hf 0 ⟨"Kind", 3, 0, false, "", "", 0⟩ rfl
      have g1 := hf 1 ⟨"I", 3, 1, false, "", "", 8⟩ rfl
      have g2 := hf 2 ⟨"S", 9, 2, false, "", "", 16⟩ rfl
      have g3 := hf 3 ⟨"Keep", 22, 3, false, "", "", 32⟩ rfl
      have k0 : Try.prog.cellsOf 3 = 1 := by kernel_rfl
      have k2 : Try.prog.cellsOf 9 = 1 := by kernel_rfl
      have k3 : Try.prog.cellsOf 22 = 1 := by kernel_rfl
      dsimp only at g0 g1 g2 g3
      simp only [k0, k2, k3, List.drop_succ_cons, List.drop_zero, List.take_succ_cons, List.take_zero] at g0 g1 g2 g3
      rw [List.getElem?_eq_getElem (by rw [hyl]; decide)] at g0 g1 g2 g3
      obtain ⟨z0, e0, _, w0⟩ := DataW.trod_int Try.underlying3 g0
      obtain ⟨z1, e1, _, w1⟩ := DataW.trod_int Try.underlying3 g1
      obtain ⟨z2, e2, _, w2⟩ := DataW.trod_string Try.underlying9 g2
      obtain ⟨z3, e3, _, w3⟩ := DataW.trod_int Try.underlying22 g3
      simp only [List.cons.injEq, and_true] at e0 e1 e2 e3
      subst e0 e1 e2 e3
      have b3 := bounds_u64 w3
      obtain ⟨keep, rfl⟩ := Int.eq_ofNat_of_zero_le b3.1
      exact ⟨⟨z0, z1, z2, keep⟩, ⟨bounds_i64 w0, bounds_i64 w1, w2, by show keep < _; omega⟩, rfl⟩)
  exact ⟨l, h1, hl⟩
/-- What heavy reckons: how much it is in the end. -/
def hvGo : List Stp → Nat → Nat
  | [], n => n
  | o :: r, n => if n ≤ 8192 then hvGo r (n + min o.s.size 1048576) else n
def hvN (l : List Stp) : Nat := hvGo l (min l.length 1048576)
def hvB (l : List Stp) : Bool := decide (8192 < hvN l) || decide (200 < l.length)
theorem hvB_len {l : List Stp} (h : hvB l = false) : l.length ≤ 200 := by
  simp [hvB] at h; omega
section
variable {w : World}
set_option maxRecDepth 100000 in
set_option maxHeartbeats 1000000 in
theorem heavy_any {v : Value} {l : List Stp} (h : ArgRow w v 4 (l.map Stp.cells)) (hfit : ∀ o ∈ l, o.fits) :
    Calls Try.prog 16 #[v] w fun e w' => e = .returned (.bool (hvB l)) ∧ w = w' := by
  obtain ⟨base, cap, rfl, hm, hrow⟩ := h
  rw [List.length_map] at hm ⊢
  unfold maxLen at hm
  go_enter Try.func16, Try.ntmps16
  go_wp2_with fail
  all_goals
    go_loopw [3, 4] (fun c d wr => ∃ k N : Nat, k ≤ l.length ∧ c = .int .i64 (N : Int) ∧ d = .int .i64 (k : Int) ∧ N ≤ 1056768 ∧ Hid (hvGo (l.drop k) N = hvN l) ∧ wr = w)
      (fun _ d _ => l.length - (intOf d).toNat)
    case atStart =>
      first
        | exact ⟨0, 1048576, Nat.zero_le _, rfl, rfl, by decide, Lib.hid (by rw [List.drop_zero, hvN, Nat.min_eq_right (by omega)]), rfl⟩
        | exact ⟨0, l.length, Nat.zero_le _, rfl, rfl, by omega, Lib.hid (by rw [List.drop_zero, hvN, Nat.min_eq_left (by omega)]), rfl⟩
    case round =>
      obtain ⟨k, N, hk, rfl, rfl, hN, hrel, rfl⟩ := hrel
      by_cases hlt : k < l.length ∧ N ≤ 8192
      · obtain ⟨hkl, hN2⟩ := hlt
        obtain ⟨o, ho⟩ : ∃ o, l[k]? = some o := ⟨_, List.getElem?_eq_getElem hkl⟩
        obtain ⟨b, off, rfl, _, hc⟩ := hrow k o.cells (by rw [List.getElem?_map, ho]; rfl)
        have c2 := hc 2 _ rfl
        have hs := (hfit o (List.mem_of_getElem? ho)).2.2.1
        unfold maxLen at hs
        have ed : l.drop k = o :: l.drop (k + 1) := by rw [List.drop_eq_getElem_cons hkl]; congr 1; rw [List.getElem?_eq_getElem hkl] at ho; exact Option.some.inj ho
        have hr : Hid (hvGo (l.drop (k + 1)) (N + min o.s.size 1048576) = hvN l) := by
          have := hrel.out
          rw [ed, hvGo, if_pos hN2] at this
          exact this
        clear hrel ed ho hc
        by_cases hbig : 1048576 < (o.s.size : Int)
        · have hmn : min o.s.size 1048576 = 1048576 := by omega
          rw [hmn] at hr
          clear hmn
          go_wp2_with fail
          go_roundw
          case rel => exact ⟨k + 1, N + 1048576, by omega, by go_num, by go_num, by omega, hr, trivial⟩
          case measure => simp [intOf]; omega
        · have hmn : min o.s.size 1048576 = o.s.size := by omega
          rw [hmn] at hr
          clear hmn
          go_wp2_with fail
          go_roundw
          case rel => exact ⟨k + 1, N + o.s.size, by omega, by go_num, by go_num, by omega, hr, trivial⟩
          case measure => simp [intOf]; omega
      · have he : N = hvN l := by
          have := hrel.out
          by_cases h1 : k < l.length
          · have h2 : ¬ N ≤ 8192 := fun h => hlt ⟨h1, h⟩
            rw [List.drop_eq_getElem_cons h1, hvGo, if_neg h2] at this
            exact this
          · rw [List.drop_eq_nil_of_le (by omega)] at this
            exact this
        have hq : hvB l = (decide ((8192 : Int) < (N : Int)) || decide ((200 : Int) < (l.length : Int))) := by
          rw [hvB, ← he]
          congr 1 <;> exact decide_eq_decide.2 (by omega)
        have HB := Lib.hid hq
        clear he hrel hq
        by_cases hkl : k < l.length
        · have h1 : ¬ N ≤ 8192 := fun h => hlt ⟨hkl, h⟩
          go_wp2_with fail
          all_goals
            go_ret
            refine ⟨?_, rfl⟩
            rw [HB.out, show decide ((8192 : Int) < (N : Int)) = true from decide_eq_true (by omega)]
            rfl
        · go_wp2_with fail
          all_goals
            go_ret
            refine ⟨?_, rfl⟩
            rw [HB.out]
            first
              | rfl
              | (rw [show decide ((8192 : Int) < (N : Int)) = true from decide_eq_true (by omega)]; rfl)
              | (rw [show decide ((8192 : Int) < (N : Int)) = false from decide_eq_false (by omega)]; rfl)
end
end Go.Proofs.Ytahmnehfadiegaa
