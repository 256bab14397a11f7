/- The reference's Write. -/
import Derived.Test.YtahmnehfadiegaaRefC
import Derived.Test.YtahmnehfadiegaaZeros
import Derived.Test.YtahmnehfadiegaaWrite
import Derived.Deep.AppendLies
import Derived.Laws.OwnMore
import Derived.Laws.AppendOwnNone
namespace Go.Proofs.Ytahmnehfadiegaa
open Go.RowKit
theorem Try.infoRW : (Try.prog.info? 64).map (fun i => (i.zero, i.size, i.bytes)) = some (some (.agg #[.int .i64 0, .string ⟨#[]⟩]), 2, 24) := by kernel_rfl
theorem Try.sizeRW : (Try.prog.info? 64).map (·.size) = some 2 := by kernel_rfl
/-- A row of its own, appended onto a row of its own: either may be empty. -/
theorem wpList_append_rows {P : Program} {w : World} {ops : Array Oper} {rest : List Oper} {o : Oper} {a : Act} {Q : Exit → Act → World → Prop} (hgd : o.guard = none) (s x : Operand) (t : TypeId)
    (ho : o.op = .call { callee := .builtin .append, args := #[s, x], argTypes := #[t, t] })
    (base : Nat) (e : TypeId) (i : TypeInfo) (z : Value) (size bytes : Nat) (ht : P.underlying t = some (.slice e)) (hi : P.info? e = some i) (hz : i.zero = some z)
    (hsize : i.size = size) (hby : i.bytes = bytes) (hzs : z.cells.size = size) (hsz : 0 < size)
    (v : Value) (n : Nat) (xs : List Value) (hs : a.eval s = v) (hown : w.ownsRow base e size v n xs)
    (u : Value) (b2 m : Nat) (news : List Value) (hx : a.eval x = u) (hu : w.ownsRow b2 e size u m news) (h1 : ∀ q ∈ news, q.oneCell' = true)
    (h63 : n + m ≤ maxLen) (hbytes : (n + m) * bytes ≤ 140737488355328) (hbase : base ≤ w.heap.size)
    (h : ∀ v' w', w'.ownsRow base e size v' (n + m) (xs ++ news) → w.grownBy w' v.ownBlock → (v'.ownBlock = v.ownBlock ∨ v'.ownBlock = some w.heap.size) → wpList P ops Q rest (a.put o.dst v') w') :
    wpList P ops Q (o :: rest) a w := by
  rcases hu.2 with ⟨rfl, rfl⟩ | ⟨g, cap, cur, rfl, _, _, _, _, _, _⟩
  · have hn : news = [] := List.length_eq_zero_iff.1 (by have := hu.1; simpa using this)
    subst hn
    refine wpList_append_own_none hgd s x t ho base e i size ht hi v n xs hs hown hx (h v w ?_ ⟨rfl, rfl, rfl, Nat.le_refl _, fun _ _ _ => rfl⟩ (.inl rfl))
    simpa using hown
  · exact wpList_append_own_at w hgd s x t ho base e i z size bytes ht hi hz hsize hby hzs hsz v n xs hs hown ⟨g, 0, none⟩ m cap news hx hu.1 (hu.cells rfl) h1 h63 hbytes hbase fun v' w' h2 h3 _ h5 => h v' w' h2 h3 h5
section
variable {b : Nat} {vi vw : Value} {st : PS} {w : World}
set_option maxRecDepth 100000 in
set_option maxHeartbeats 1000000 in
theorem rwrite_ok (h : IsRef w b vi vw st) (hn : st.calls < 1000000000) (hwl : st.wait.length < 1000000) (i : Nat) (s : ByteArray) (hi : st.wrong i = 0) (hs : s.size ≤ 32) :
    Calls Try.prog 18 #[.pointer (some ⟨b, 0, none⟩), .int .i64 (i : Int), .string s] w fun e w' => e = .returned (.int .i64 st.lastE) ∧ ToRef w b vi vw (st.waits i (pad s.data.toList)).lastS w' := by
  have hwr := rwrong_any h i
  have hiw : i < st.size := (PS.wrong_lt hi).2
  rw [hi] at hwr
  obtain ⟨i0, hi0, hz0, hz1, hz2⟩ := info_parts Try.infoRW
  have Hi := Lib.hid hi0
  have Hz := Lib.hid hz0
  have Hz1 := Lib.hid hz1
  have Hz2 := Lib.hid hz2
  clear hi0 hz0 hz1 hz2
  go_enter Try.func18, Try.ntmps18
  go_wp2_with fail
  refine hwr.mono ?_
  rintro e w1 ⟨rfl, rfl⟩
  clear hwr
  have hpA := h.alloc (.cells #[] 64)
  have hvw := hpA.cvw
  have hwo := hpA.wait
  have hown0 : (w.alloc (.cells #[] 64)).ownsRow 0 64 2 (.slice (some ⟨w.heap.size, 0, none⟩) 0 0) 0 [] := World.ownsRow_lit (base := 0) (size := 2) (e := 64) w #[] 0 (Nat.zero_le _) (by unfold maxLen; omega) rfl
  have hml : 0 + st.wait.length ≤ maxLen := by unfold maxLen; omega
  go_wp2_with (refine wpList_append_rows rfl (.tmp 23) (.tmp 27) 46 rfl 0 64 i0 _ 2 24 Try.underlying46 Hi.out Hz.out Hz1.out Hz2.out rfl (by decide) _ 0 [] rfl hown0 vw 0 st.wait.length (rcells st.wait) rfl hwo (one_rcells _) hml (by omega) (Nat.zero_le _) ?_)
  intro l w1 hown1 hgrow hat
  have hb1 : Below w.heap.size w w1 := ⟨hgrow.os, hgrow.tape, hgrow.output, by have := hgrow.size; simp at this; omega, fun k hk => (hgrow.block k (by simp; omega) (by simp only [Value.ownBlock, ne_eq, Option.some.injEq]; omega)).trans (Below.heap_alloc _ _ _ hk)⟩
  have hl1 : ∀ k, l.ownBlock = some k → w.heap.size ≤ k := by
    intro k hk
    rcases hat with h1 | h1 <;> rw [h1] at hk <;> simp [Value.ownBlock] at hk <;> omega
  have hp1 := h.below hb1
  have hm1 : Moves (rfp b vi vw) w w1 := Moves.of_below hb1
  clear hpA hvw hwo hown0 hgrow hat
  obtain ⟨z, hz⟩ : ∃ z, z = 32 - s.size := ⟨_, rfl⟩
  have hzz := zeros_any z (by omega) w1
  have hze : (z : Int) = 32 - (s.size : Int) := by omega
  rw [hze] at hzz
  obtain ⟨Z, HZ⟩ : ∃ Z : ByteArray, Hid (Z = ⟨(Zn z).toArray⟩) := ⟨_, rfl⟩
  rw [← HZ.out] at hzz
  have hZs : (Z.size : Int) = 32 - (s.size : Int) := by rw [← hze, HZ.out]; simp [ByteArray.size, Zn]
  have hcat : ¬ 9223372036854775807 < s.size + Z.size := by omega
  have Hcat : Hid (Value.string (s ++ Z) = str (pad s.data.toList)) := by
    unfold str pad
    show _ = _
    congr 1
    apply ByteArray.ext
    rw [ByteArray.data_append, HZ.out, hz]
    apply Array.toList_inj.1
    simp
  have Hz32 := Lib.hid hz
  clear hz hze
  go_wp2_with fail
  refine hzz.mono ?_
  rintro e w2 ⟨rfl, hb2⟩
  have hp2 := hp1.below hb2
  have hm2 : Moves (rfp b vi vw) w w2 := hm1.trans (Moves.of_below (F := fun _ => False) hb2) (fun _ hh => hh.elim)
  have hown2 : w2.ownsRow 0 64 2 l st.wait.length (rcells st.wait) := ownsRow_keep hown1 fun k hk => hb2.block k (hown1.lt k hk).2
  clear hown1 hp1 hm1 hb2 hzz
  have Hl := Lib.hid hl1
  have hpB := hp2.alloc (.cells #[.int .i64 (i : Int), .string (s ++ Z)] 64)
  have hownB : (w2.alloc (.cells #[.int .i64 (i : Int), .string (s ++ Z)] 64)).ownsRow 0 64 2 l st.wait.length (rcells st.wait) := hown2.alloc _
  have hnl : ∀ j u, [Value.int .i64 (i : Int), Value.string (s ++ Z)][j]? = some u → (w2.alloc (.cells #[.int .i64 (i : Int), .string (s ++ Z)] 64)).cell? ((⟨w2.heap.size, 0, none⟩ : Addr).add j) = some u := news_last w2 [.int .i64 (i : Int), .string (s ++ Z)] 64
  have h1c : ∀ q ∈ [Value.int .i64 (i : Int), Value.string (s ++ Z)], q.oneCell' = true := by
    intro q hq
    simp only [List.mem_cons, List.not_mem_nil, or_false] at hq
    rcases hq with rfl | rfl <;> rfl
  have hml2 : st.wait.length + 1 ≤ maxLen := by unfold maxLen; omega
  clear hl1 hml
  go_wp2_with (refine wpList_append_lies _ rfl (.tmp 30) (.tmp 39) 46 rfl 0 64 i0 _ 2 24 Try.underlying46 Hi.out Hz.out Hz1.out Hz2.out rfl (by decide) l st.wait.length (rcells st.wait) rfl hownB ⟨w2.heap.size, 0, none⟩ 1 1 [.int .i64 (i : Int), .string (s ++ Z)] rfl rfl hnl h1c (by decide) hml2 (by omega) (Nat.zero_le _) _ rfl ?_)
  intro g cap w3 hown3 hgrow hat hlt
  have hg : w.heap.size ≤ g := by
    rcases hat with h1 | h1
    · exact Hl.out g h1
    · have := hm2.size; omega
  have hb3 : Below w.heap.size w2 w3 := ⟨hgrow.os, hgrow.tape, hgrow.output, by have := hgrow.size; simp at this; omega, fun k hk => (hgrow.block k (by have := hm2.size; simp; omega) (fun e => by have := Hl.out k e.symm; omega)).trans (Below.heap_alloc _ _ _ (by have := hm2.size; omega))⟩
  have hk3 : ∀ k, k < w.heap.size → w3.heap[k]? = w2.heap[k]? := fun k hk => hb3.block k hk
  have hp3 := hp2.keeps fun k hk => hk3 k (h.lt k hk)
  have hm3 : Moves (rfp b vi vw) w w3 := hm2.trans (F' := fun k => w.heap.size ≤ k) ⟨hb3.os, hb3.tape, hb3.output, hb3.size, fun k _ hn => hk3 k (by omega)⟩ (fun _ hh => .inr hh)
  have hbl := h.lt b (.inl rfl)
  rw [show [Value.int .i64 (i : Int), Value.string (s ++ Z)] = rcell (i, pad s.data.toList) by unfold rcell; rw [← Hcat.out]] at hown3
  have hpl : (pad s.data.toList).length = 32 := length_pad _ hs
  have hgb : (Value.slice (some ⟨g, 0, none⟩) (st.wait.length + 1) cap).ownBlock ≠ some b := by
    simp only [Value.ownBlock, ne_eq, Option.some.injEq]; omega
  have hgi : ∀ k, vi.ownBlock = some k → (Value.slice (some ⟨g, 0, none⟩) (st.wait.length + 1) cap).ownBlock ≠ some k := by
    intro k hk
    have := h.lt k (.inr (.inl hk))
    simp only [Value.ownBlock, ne_eq, Option.some.injEq]; omega
  have hp4 := hp3.push (i := i) (s := pad s.data.toList) rfl (fun _ _ => rfl) hown3 hgb hgi hiw hpl
  have hm4 : Moves (rfp b vi vw) w (w3.setCell ⟨b, 1, none⟩ (.slice (some ⟨g, 0, none⟩) (st.wait.length + 1) cap)) := hm3.setCell _ _ (.inl (.inl rfl))
  have hf4 : ∀ k, rfp b vi (.slice (some ⟨g, 0, none⟩) (st.wait.length + 1) cap) k → rfp b vi vw k ∨ w.heap.size ≤ k := by
    intro k hk
    rcases hk with hk | hk | hk
    · exact .inl (.inl hk)
    · exact .inl (.inr (.inl hk))
    · simp only [Value.ownBlock, Option.some.injEq] at hk
      exact .inr (by omega)
  have hoff : st.off = false := by
    have := hi
    unfold PS.wrong at this
    cases ho : st.off
    · rfl
    · simp [ho] at this
  have hc := counted_any hp4 hoff hn (by simp [PS.waits]; omega)
  have c3 := hp3.cvw
  have f3 := hp3.fro 1
  have Hgb := Lib.hid hgb
  clear hpB hownB hnl h1c hown3 hgrow hat hp3 hp4 hown2 hp2 hk3 hb3 hm3 hm2 hgb hgi hoff
  go_wp2_with fail
  refine hc.mono ?_
  rintro e w4 ⟨rfl, hto⟩
  have hto2 := ToRef.trans hm4 hf4 hto
  clear hto hc hm4 hf4
  cases hB : (st.waits i (pad s.data.toList)).lastB
  all_goals
    have HE : Hid (st.lastE = _) := PS.lastE_of hB
    clear hB
    go_wp2_with fail
    go_ret
    exact ⟨by rw [HE.out]; rfl, hto2⟩
set_option maxRecDepth 100000 in
set_option maxHeartbeats 1000000 in
theorem rwrite_any (h : IsRef w b vi vw st) (hn : st.calls < 1000000000) (hwl : st.wait.length < 1000000) (i : Int) (s : ByteArray) (hs : s.size ≤ maxLen) :
    Calls Try.prog 18 #[.pointer (some ⟨b, 0, none⟩), .int .i64 i, .string s] w fun e w' => e = .returned (.int .i64 (st.writeE i s.data.toList)) ∧ ToRef w b vi vw (st.writeS i s.data.toList) w' := by
  have el : s.data.toList.length = s.size := rfl
  by_cases hw : st.wrong i = 0
  · by_cases hl : s.size ≤ 32
    · obtain ⟨n, rfl⟩ := Int.eq_ofNat_of_zero_le (PS.wrong_lt hw).1
      refine (rwrite_ok h hn hwl n s hw hl).mono ?_
      rintro e w' ⟨rfl, hto⟩
      have e1 : st.writeE n s.data.toList = st.lastE := by simp [PS.writeE, hw, el, hl, PS.lastE]
      have e2 : st.writeS n s.data.toList = (st.waits n (pad s.data.toList)).lastS := by simp [PS.writeS, hw, el, hl]
      rw [e1, e2]
      exact ⟨rfl, hto⟩
    · have e1 : st.writeE i s.data.toList = 11 := by simp [PS.writeE, hw, el, hl]
      have e2 : st.writeS i s.data.toList = st := by simp [PS.writeS, el, hl]
      rw [e1, e2]
      have hwr := rwrong_any h i
      rw [hw] at hwr
      unfold maxLen at hs
      clear e1 e2 el hw
      go_enter Try.func18, Try.ntmps18
      go_wp2_with fail
      refine hwr.mono ?_
      rintro e w1 ⟨rfl, rfl⟩
      go_wp2_with fail
      go_ret
      exact ⟨rfl, .refl h⟩
  · have e1 : st.writeE i s.data.toList = st.wrong i := by simp [PS.writeE, hw]
    have e2 : st.writeS i s.data.toList = st := by simp [PS.writeS, hw]
    rw [e1, e2]
    have hwr := rwrong_any h i
    have hb : (st.wrong i != 0) = true := by simpa using hw
    have hb2 : (st.wrong i == 0) = false := by simpa using hw
    clear e1 e2 el hw
    generalize st.wrong i = q at hb hb2 hwr ⊢
    go_enter Try.func18, Try.ntmps18
    go_wp2_with fail
    refine hwr.mono ?_
    rintro e w1 ⟨rfl, rfl⟩
    go_wp2_with fail
    go_ret
    exact ⟨rfl, .refl h⟩
end
end Go.Proofs.Ytahmnehfadiegaa
