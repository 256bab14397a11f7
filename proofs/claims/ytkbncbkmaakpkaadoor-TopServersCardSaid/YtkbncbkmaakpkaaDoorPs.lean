/- The plate as plain data: what the document says of it, in plain Lean; no program in sight. -/
namespace Go.Proofs.YtkbncbkmaakpkaaDoor
/-- What lasts, what waits, whether the power is gone, the order, how many calls counted. -/
structure PS where
  size : Nat
  is : List (List UInt8)
  wait : List (Nat × List UInt8)
  off : Bool
  left : Nat
  keep : Nat
  calls : Nat

def Zn (n : Nat) : List UInt8 := List.replicate n 0
def pad (s : List UInt8) : List UInt8 := s ++ Zn (32 - s.length)
def tOf (keep j : Nat) : Nat := keep / 2 ^ (j % 16 * 4) % 16
def cutOf (keep j : Nat) : Nat := if tOf keep j < 15 then 2 * tOf keep j else 32
def put1 (is : List (List UInt8)) (i k : Nat) (s : List UInt8) : List (List UInt8) := is.set i (s.take k ++ (is.getD i []).drop k)
def settle (of : Nat → Nat) : Nat → List (Nat × List UInt8) → List (List UInt8) → List (List UInt8)
  | _, [], is => is
  | j, x :: r, is => settle of (j + 1) r (put1 is x.1 (of j) x.2)
namespace PS
def new (n : Nat) : PS := { size := n, is := List.replicate n (Zn 32), wait := [], off := false, left := 0, keep := 0, calls := 0 }
def crashOn (st : PS) (keep : Nat) : PS := { st with is := settle (cutOf keep) 0 st.wait st.is, wait := [], off := true, left := 0 }
def crash (st : PS) (keep : Nat) : PS := if st.off then st else st.crashOn keep
def counts (st : PS) : PS := { st with calls := st.calls + 1 }
/-- The call counts: behind it. -/
def lastS (st : PS) : PS := if st.left = 0 then st.counts else if st.left = 1 then st.counts.crash st.keep else { st.counts with left := st.left - 1 }
/-- Did the power go with it? -/
def lastB (st : PS) : Bool := decide (st.left = 1)
def lastE (st : PS) : Int := if st.lastB then 70 else 0
def wrong (st : PS) (i : Int) : Int := if st.off then 70 else if i < 0 ∨ (st.size : Int) ≤ i then 71 else 0
def waits (st : PS) (i : Nat) (s : List UInt8) : PS := { st with wait := st.wait ++ [(i, s)] }
def writeS (st : PS) (i : Int) (s : List UInt8) : PS := if st.wrong i = 0 ∧ s.length ≤ 32 then (st.waits i.toNat (pad s)).lastS else st
def writeE (st : PS) (i : Int) (s : List UInt8) : Int := if st.wrong i = 0 then (if s.length ≤ 32 then (if st.lastB then 70 else 0) else 11) else st.wrong i
def settled (st : PS) : PS := { st with is := settle (fun _ => 32) 0 st.wait st.is, wait := [] }
def syncS (st : PS) : PS := if st.off then st else if st.lastB then st.lastS else st.lastS.settled
def syncE (st : PS) : Int := if st.off || st.lastB then 70 else 0
/-- The last of the writes that waits for i, else s. -/
def curOf (i : Nat) (l : List (Nat × List UInt8)) (s : List UInt8) : List UInt8 := l.foldl (fun s x => if x.1 = i then x.2 else s) s
def readV (st : PS) (i : Int) : List UInt8 := if st.wrong i = 0 then curOf i.toNat st.wait (st.is.getD i.toNat []) else []
def cut (st : PS) (n : Int) (keep : Nat) : PS := { st with left := n.toNat, keep := keep }
def power (st : PS) : PS := { st with off := false, left := 0 }

/-- What holds of each plate that there is. -/
structure ok (st : PS) : Prop where
  lo : 4 ≤ st.size
  hi : st.size ≤ 128
  len : st.is.length = st.size
  sec : ∀ s ∈ st.is, s.length = 32
  wt : ∀ x ∈ st.wait, x.1 < st.size ∧ x.2.length = 32
  left : st.left ≤ 9223372036854775807
  keep : st.keep < 18446744073709551616
end PS

theorem tOf_lt (keep j : Nat) : tOf keep j < 16 := by unfold tOf; omega
theorem cutOf_le (keep j : Nat) : cutOf keep j ≤ 32 := by unfold cutOf; split <;> omega
theorem length_pad (s : List UInt8) (h : s.length ≤ 32) : (pad s).length = 32 := by simp [pad, Zn]; omega
theorem length_put1 (is : List (List UInt8)) (i k : Nat) (s : List UInt8) : (put1 is i k s).length = is.length := by simp [put1]
theorem settle_snoc (of : Nat → Nat) (x : Nat × List UInt8) : ∀ (l : List (Nat × List UInt8)) (j : Nat) (is : List (List UInt8)),
    settle of j (l ++ [x]) is = put1 (settle of j l is) x.1 (of (j + l.length)) x.2
  | [], j, is => by simp [settle]
  | y :: r, j, is => by
    simp only [List.cons_append, settle, List.length_cons]
    rw [settle_snoc of x r (j + 1), show j + 1 + r.length = j + (r.length + 1) by omega]
theorem length_settle (of : Nat → Nat) : ∀ (l : List (Nat × List UInt8)) (j : Nat) (is : List (List UInt8)), (settle of j l is).length = is.length
  | [], _, _ => rfl
  | x :: r, j, is => by rw [settle, length_settle of r, length_put1]
theorem put1_len {is : List (List UInt8)} {i k : Nat} {s : List UInt8} (h : ∀ x ∈ is, x.length = 32) (hs : s.length = 32) (hi : i < is.length) : ∀ x ∈ put1 is i k s, x.length = 32 := by
  intro x hx
  unfold put1 at hx
  rcases List.mem_or_eq_of_mem_set hx with h1 | h1
  · exact h x h1
  · subst h1
    have h2 : (is.getD i []).length = 32 := by
      rw [List.getD_eq_getElem?_getD, List.getElem?_eq_getElem hi]; exact h _ (List.getElem_mem _)
    simp only [List.length_append, List.length_take, List.length_drop, h2, hs]
    omega
theorem settle_len (of : Nat → Nat) : ∀ (l : List (Nat × List UInt8)) (j : Nat) (is : List (List UInt8)), (∀ x ∈ l, x.1 < is.length ∧ x.2.length = 32) → (∀ x ∈ is, x.length = 32) →
    ∀ x ∈ settle of j l is, x.length = 32
  | [], _, _, _, h => h
  | y :: r, j, is, hl, h => by
    rw [settle]
    refine settle_len of r (j + 1) _ (fun x hx => ?_) (put1_len h (hl y (by simp)).2 (hl y (by simp)).1)
    rw [length_put1]
    exact hl x (by simp [hx])
theorem curOf_snoc (i : Nat) (x : Nat × List UInt8) (l : List (Nat × List UInt8)) (s : List UInt8) : PS.curOf i (l ++ [x]) s = if x.1 = i then x.2 else PS.curOf i l s := by
  simp [PS.curOf]
theorem curOf_len (i : Nat) : ∀ (l : List (Nat × List UInt8)) (s : List UInt8), (∀ x ∈ l, x.2.length = 32) → s.length = 32 → (PS.curOf i l s).length = 32
  | [], _, _, h => h
  | x :: r, s, hl, h => by
    show (PS.curOf i r (if x.1 = i then x.2 else s)).length = 32
    refine curOf_len i r _ (fun y hy => hl y (by simp [hy])) ?_
    split
    · exact hl x (by simp)
    · exact h

namespace PS
theorem ok_new (n : Nat) (h1 : 4 ≤ n) (h2 : n ≤ 128) : (PS.new n).ok := by
  refine ⟨h1, h2, by simp [PS.new], fun s hs => ?_, fun x hx => by simp [PS.new] at hx, by simp [PS.new], by simp [PS.new]⟩
  simp [PS.new] at hs
  rw [hs.2]; simp [Zn]
theorem ok.counts {st : PS} (h : st.ok) : st.counts.ok := ⟨h.lo, h.hi, h.len, h.sec, h.wt, h.left, h.keep⟩
theorem ok.crashOn {st : PS} (h : st.ok) (keep : Nat) : (st.crashOn keep).ok :=
  ⟨h.lo, h.hi, by show (settle _ _ _ _).length = _; rw [length_settle]; exact h.len, settle_len _ _ _ _ (fun x hx => by rw [h.len]; exact h.wt x hx) h.sec, fun x hx => by simp [PS.crashOn] at hx, by simp [PS.crashOn], h.keep⟩
theorem ok.crash {st : PS} (h : st.ok) (keep : Nat) : (st.crash keep).ok := by
  unfold PS.crash; split
  · exact h
  · exact h.crashOn keep
theorem ok.settled {st : PS} (h : st.ok) : st.settled.ok :=
  ⟨h.lo, h.hi, by show (settle _ _ _ _).length = _; rw [length_settle]; exact h.len, settle_len _ _ _ _ (fun x hx => by rw [h.len]; exact h.wt x hx) h.sec, fun x hx => by simp [PS.settled] at hx, h.left, h.keep⟩
theorem ok.lastS {st : PS} (h : st.ok) : st.lastS.ok := by
  unfold PS.lastS
  split
  · exact h.counts
  · split
    · exact h.counts.crash _
    · exact ⟨h.lo, h.hi, h.len, h.sec, h.wt, by have := h.left; simp; omega, h.keep⟩
theorem ok.cut {st : PS} (h : st.ok) (n : Int) (hn : n ≤ 9223372036854775807) (keep : Nat) (hk : keep < 18446744073709551616) : (st.cut n keep).ok :=
  ⟨h.lo, h.hi, h.len, h.sec, h.wt, by simp only [PS.cut]; omega, hk⟩
theorem ok.power {st : PS} (h : st.ok) : st.power.ok := ⟨h.lo, h.hi, h.len, h.sec, h.wt, by simp [PS.power], h.keep⟩
theorem ok.waits {st : PS} (h : st.ok) {i : Nat} {s : List UInt8} (hi : i < st.size) (hs : s.length = 32) : (st.waits i s).ok := by
  refine ⟨h.lo, h.hi, h.len, h.sec, fun x hx => ?_, h.left, h.keep⟩
  simp [PS.waits] at hx
  rcases hx with hx | hx
  · exact h.wt x hx
  · subst hx; exact ⟨hi, hs⟩
theorem wrong_lt {st : PS} {i : Int} (h1 : st.wrong i = 0) : 0 ≤ i ∧ i.toNat < st.size := by
  unfold PS.wrong at h1
  split at h1
  · cases h1
  · split at h1
    · cases h1
    · omega
theorem ok.writeS {st : PS} (h : st.ok) (i : Int) (s : List UInt8) : (st.writeS i s).ok := by
  unfold PS.writeS
  split
  · rename_i hc
    obtain ⟨h1, h2⟩ := hc
    exact (h.waits (wrong_lt h1).2 (length_pad s h2)).lastS
  · exact h
theorem ok.syncS {st : PS} (h : st.ok) : st.syncS.ok := by
  unfold PS.syncS
  split
  · exact h
  · split
    · exact h.lastS
    · exact h.lastS.settled
theorem calls_crash (st : PS) (k : Nat) : (st.crash k).calls = st.calls := by unfold PS.crash; split <;> rfl
theorem calls_lastS (st : PS) : st.lastS.calls = st.calls + 1 := by
  unfold PS.lastS; split
  · rfl
  · split
    · rw [calls_crash]; rfl
    · rfl
theorem wait_lastS (st : PS) : st.lastS.wait.length ≤ st.wait.length := by
  unfold PS.lastS; split
  · exact Nat.le_refl _
  · split
    · unfold PS.crash; split
      · exact Nat.le_refl _
      · simp [PS.crashOn]
    · exact Nat.le_refl _
theorem calls_writeS (st : PS) (i : Int) (s : List UInt8) : (st.writeS i s).calls ≤ st.calls + 1 := by
  unfold PS.writeS; split
  · rw [calls_lastS]; simp [PS.waits]
  · omega
theorem wait_writeS (st : PS) (i : Int) (s : List UInt8) : (st.writeS i s).wait.length ≤ st.wait.length + 1 := by
  unfold PS.writeS; split
  · refine Nat.le_trans (wait_lastS _) ?_; simp [PS.waits]
  · omega
theorem wait_syncS (st : PS) : st.syncS.wait.length ≤ st.wait.length := by
  unfold PS.syncS; split
  · exact Nat.le_refl _
  · split
    · exact wait_lastS _
    · simp [PS.settled]
theorem wait_crash (st : PS) (k : Nat) : (st.crash k).wait.length ≤ st.wait.length := by
  unfold PS.crash; split
  · exact Nat.le_refl _
  · simp [PS.crashOn]
theorem calls_syncS (st : PS) : st.syncS.calls ≤ st.calls + 1 := by
  unfold PS.syncS; split
  · omega
  · split
    · rw [calls_lastS]; omega
    · show st.lastS.calls ≤ _; rw [calls_lastS]; omega
end PS
end Go.Proofs.YtkbncbkmaakpkaaDoor
