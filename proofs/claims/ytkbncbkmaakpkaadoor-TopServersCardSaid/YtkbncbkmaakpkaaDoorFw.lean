/- The program's Writer of fields: as it lies in memory; NewWriter, put, Num, Text, Bytes. -/
import Derived.Test.YtkbncbkmaakpkaaDoorStrAt
import Derived.Test.YtkbncbkmaakpkaaDoorProg
import Derived.WalkLawsBesides
import Derived.Lib.Hide
import Derived.Deep.AppendLies
import Derived.Deep.RegionLaw
import Derived.Deep.RegionHeld3
import Derived.Laws.OwnMore
import Derived.Laws.AppendOwnNone
import Derived.Maps.AppendAt
import Derived.BigQuiet
import Derived.Lib.BufferMore
namespace Go.Proofs.YtkbncbkmaakpkaaDoor
open Go.RowKit
/-- The lowest k bytes of n, the lowest first. -/
def leN (n : Nat) (k : Nat) : List UInt8 := (List.range k).map fun i => UInt8.ofNat (n / 256 ^ i)
theorem leN_succ (n k : Nat) : leN n (k + 1) = leN n k ++ [UInt8.ofNat (n / 256 ^ k)] := by simp [leN, List.range_succ]
theorem length_leN (n k : Nat) : (leN n k).length = k := by simp [leN]
theorem bcells_app (a b : List UInt8) : bcells (a ++ b) = bcells a ++ bcells b := by simp [bcells]
theorem row_lens {w : World} {base : Nat} {e : TypeId} {size : Nat} {v : Value} {n : Nat} {xs : List Value} (h : w.ownsRow base e size v n xs) : ∃ a cap, v = .slice a n cap := by
  rcases ownsRow_form h with ⟨h0, h1⟩ | ⟨g, cap, h0, _⟩
  · exact ⟨none, 0, by rw [h0, h1.1]⟩
  · exact ⟨_, _, h0⟩
theorem Tryd.infoU8 : (Tryd.prog.info? 5).map (fun i => (i.zero, i.size, i.bytes)) = some (some (.int .u8 0), 1, 1) := by kernel_rfl
/-- A writer at b, its slice v, its bytes L. -/
structure IsW (w : World) (b : Nat) (v : Value) (L : List UInt8) : Prop where
  c0 : w.cell? ⟨b, 0, none⟩ = some v
  row : w.ownsRow 0 5 1 v L.length (bcells L)
  fro : w.frozen? ⟨b, 0, none⟩ = false
  ne : v.ownBlock ≠ some b
def wfp (b : Nat) (v : Value) (k : Nat) : Prop := k = b ∨ v.ownBlock = some k
section
variable {w : World} {b : Nat} {v : Value} {L : List UInt8}
theorem IsW.lt (h : IsW w b v L) : ∀ k, wfp b v k → k < w.heap.size := by
  intro k hk
  rcases hk with rfl | hk
  · exact World.block_lt_of_cell? w _ h.c0
  · exact (h.row.lt k hk).2
theorem IsW.keeps {w' : World} (h : IsW w b v L) (hk : ∀ k, wfp b v k → w'.heap[k]? = w.heap[k]?) : IsW w' b v L := by
  have hb := hk b (.inl rfl)
  exact ⟨(World.cell?_of_block (a := ⟨b, 0, none⟩) hb).trans h.c0, ownsRow_keep h.row fun k hv => hk k (.inr hv), (World.frozen?_of_block (a := ⟨b, 0, none⟩) hb).trans h.fro, h.ne⟩
theorem IsW.below {w' : World} (h : IsW w b v L) (hb : Below w.heap.size w w') : IsW w' b v L := h.keeps fun k hk => hb.block k (h.lt k hk)
theorem IsW.told {w1 : World} {v' : Value} {L' : List UInt8} (h : IsW w b v L) (hb : w1.heap[b]? = w.heap[b]?) (ho : w1.ownsRow 0 5 1 v' L'.length (bcells L')) (hne : v'.ownBlock ≠ some b) :
    IsW (w1.setCell ⟨b, 0, none⟩ v') b v' L' :=
  ⟨World.cell?_setCell_same _ _ _ ((World.cell?_of_block (a := ⟨b, 0, none⟩) hb).trans h.c0), ownsRow_setCell ho _ _ hne, by rw [World.frozen?_setCell]; exact (World.frozen?_of_block (a := ⟨b, 0, none⟩) hb).trans h.fro, hne⟩
theorem IsW.lens (h : IsW w b v L) : ∃ a cap, v = .slice a L.length cap := by
  rcases ownsRow_form h.row with ⟨h0, h1⟩ | ⟨g, cap, h0, _⟩
  · exact ⟨none, 0, by rw [h0, h1.1]⟩
  · exact ⟨_, _, h0⟩
end
/-- A writer of a caller's own: what was there at w0 is as it was; of the blocks F none is the writer's. -/
def WS (w0 : World) (F : Nat → Prop) (b : Nat) (wr : World) (L : List UInt8) : Prop :=
  ∃ v, IsW wr b v L ∧ Below w0.heap.size w0 wr ∧ (∀ k, wfp b v k → w0.heap.size ≤ k ∧ ¬ F k) ∧ ∀ k, F k → k < wr.heap.size
section
variable {w0 wr w2 : World} {F G : Nat → Prop} {b : Nat} {L : List UInt8}
theorem WS.below (h : WS w0 F b wr L) : Below w0.heap.size w0 wr := h.choose_spec.2.1
theorem WS.fl (h : WS w0 F b wr L) {k : Nat} (hk : F k) : k < wr.heap.size := h.choose_spec.2.2.2 k hk
theorem WS.bl (h : WS w0 F b wr L) : b < wr.heap.size := h.choose_spec.1.lt b (.inl rfl)
theorem WS.also (h : WS w0 F b wr L) (hb : Below wr.heap.size wr w2) (hG : ∀ k, G k → (F k ∨ wr.heap.size ≤ k) ∧ k < w2.heap.size) : WS w0 G b w2 L := by
  obtain ⟨v, h1, h2, h3, h4⟩ := h
  refine ⟨v, h1.below hb, h2.trans (hb.mono h2.size), fun k hk => ⟨(h3 k hk).1, fun hg => ?_⟩, fun k hk => (hG k hk).2⟩
  rcases (hG k hg).1 with h5 | h5
  · exact (h3 k hk).2 h5
  · have := h1.lt k hk; omega
theorem WS.more (h : WS w0 F b wr L) (hb : Below wr.heap.size wr w2) : WS w0 F b w2 L := h.also hb fun _ hk => ⟨.inl hk, Nat.lt_of_lt_of_le (h.fl hk) hb.size⟩
/-- The row is told anew. -/
theorem WS.pushed {v v5 : Value} {w5 : World} {L' : List UInt8} (h1 : IsW wr b v L) (h2 : Below w0.heap.size w0 wr) (h3 : ∀ k, wfp b v k → w0.heap.size ≤ k ∧ ¬ F k) (h4 : ∀ k, F k → k < wr.heap.size)
    (hm : Moves (wfp b v) wr w5) (hb5 : w5.heap[b]? = wr.heap[b]?) (ho : w5.ownsRow 0 5 1 v5 L'.length (bcells L')) (hor : v5.ownBlock = v.ownBlock ∨ ∀ k, v5.ownBlock = some k → wr.heap.size ≤ k) :
    WS w0 F b (w5.setCell ⟨b, 0, none⟩ v5) L' ∧ ∀ q, F q → (w5.setCell ⟨b, 0, none⟩ v5).heap[q]? = wr.heap[q]? := by
  have hbl := h1.lt b (.inl rfl)
  have hne : v5.ownBlock ≠ some b := by
    rcases hor with h | h
    · rw [h]; exact h1.ne
    · intro e; have := h b e; omega
  have hm2 : Moves (wfp b v) wr (w5.setCell ⟨b, 0, none⟩ v5) := hm.setCell _ _ (.inl (.inl rfl))
  refine ⟨⟨v5, h1.told hb5 ho hne, h2.trans (hm2.below h2.size fun k hk => (h3 k hk).1), fun k hk => ?_, fun k hk => Nat.lt_of_lt_of_le (h4 k hk) hm2.size⟩, fun q hq => hm2.block q (h4 q hq) fun hw => (h3 q hw).2 hq⟩
  rcases hk with hk | hk
  · exact h3 k (.inl hk)
  · rcases hor with h | h
    · exact h3 k (.inr (h ▸ hk))
    · have := h k hk
      exact ⟨Nat.le_trans h2.size this, fun hf => by have := h4 k hf; omega⟩
set_option maxRecDepth 100000 in
theorem WS.new (w0 : World) (F : Nat → Prop) (hb : Below w0.heap.size w0 wr) (hF : ∀ k, F k → k < wr.heap.size) : Calls Tryd.prog 46 #[] wr fun e w' => e = .returned (.pointer (some ⟨wr.heap.size, 0, none⟩)) ∧ WS w0 F wr.heap.size w' [] ∧ Below wr.heap.size wr w' := by
  go_enter Tryd.func46, Tryd.ntmps46
  go_wp2_with fail
  go_ret
  have hb1 : Below wr.heap.size wr (wr.alloc (.cells #[.slice none 0 0] 221)) := (Below.refl _ _).alloc (Nat.le_refl _) _
  refine ⟨rfl, ⟨.slice none 0 0, ⟨?_, World.ownsRow_nil _ _ _ _, World.frozen?_alloc_new _ _ _ _, by simp [Value.ownBlock]⟩, hb.trans (hb1.mono hb.size), fun k hk => ?_, fun k hk => Nat.lt_of_lt_of_le (hF k hk) hb1.size⟩, hb1⟩
  · rw [World.cell?_alloc_new]; rfl
  · rcases hk with rfl | hk
    · exact ⟨hb.size, fun h => by have := hF _ h; omega⟩
    · simp [Value.ownBlock] at hk
set_option maxRecDepth 100000 in
set_option maxHeartbeats 2000000 in
theorem WS.put (h : WS w0 F b wr L) (hl : L.length ≤ 1000000) (n k : Nat) (hk : k ≤ 8) (hn : n < 9223372036854775808) :
    Calls Tryd.prog 99 #[.pointer (some ⟨b, 0, none⟩), .int .i64 (n : Int), .int .i64 (k : Int)] wr fun e w' => e = .returned (.tuple #[]) ∧ WS w0 F b w' (L ++ leN n k) ∧ ∀ q, F q → w'.heap[q]? = wr.heap[q]? := by
  obtain ⟨i0, hi0, hz0, hz1, hz2⟩ := info_parts Tryd.infoU8
  have Hi := Lib.hid hi0
  have Hz := Lib.hid hz0
  have Hz1 := Lib.hid hz1
  have Hz2 := Lib.hid hz2
  clear hi0 hz0 hz1 hz2
  have H := Lib.hid h
  clear h
  go_enter Tryd.func99, Tryd.ntmps99
  go_wp2_with fail
  go_loopw [1, 7] (fun x i w => ∃ j : Nat, j ≤ k ∧ i = .int .i64 (j : Int) ∧ x = .int .i64 ((n / 256 ^ j : Nat) : Int) ∧ WS w0 F b w (L ++ leN n j) ∧ ∀ q, F q → w.heap[q]? = wr.heap[q]?) (fun _ i _ => k - (intOf i).toNat)
  case atStart => exact ⟨0, Nat.zero_le _, rfl, by simp, by simpa [leN] using H.out, fun _ _ => rfl⟩
  case round =>
    obtain ⟨j, hj, rfl, rfl, hs, hf⟩ := hrel
    by_cases hlt : j < k
    · obtain ⟨v, h1, h2, h3, h4⟩ := hs
      obtain ⟨a, cap, rfl⟩ := h1.lens
      have hlj : (L ++ leN n j).length ≤ 1000008 := by rw [List.length_append, length_leN]; omega
      have hnj : (n / 256 ^ j : Nat) < 9223372036854775808 := Nat.lt_of_le_of_lt (Nat.div_le_self _ _) hn
      have hnx : n / 256 ^ (j + 1) = n / 256 ^ j / 256 := by rw [Nat.pow_succ, Nat.div_div_eq_div_mul]
      have hsn : L ++ leN n (j + 1) = (L ++ leN n j) ++ [UInt8.ofNat (n / 256 ^ j)] := by rw [leN_succ, List.append_assoc]
      generalize hLL : L ++ leN n j = LL at h1 h3 hlj hsn
      generalize hNN : n / 256 ^ j = NN at hnj hnx hsn ⊢
      have hbt : [Value.int .u8 ((NN : Int) % 256)] = bcells [UInt8.ofNat NN] := by simp [bcells]
      have c0 := h1.c0
      have f0 := h1.fro
      have hbl := h1.lt b (.inl rfl)
      have hoA := World.ownsRow.alloc h1.row (.cells #[.int .u8 ((NN : Int) % 256)] 5)
      have hcl : ∀ j u, [Value.int .u8 ((NN : Int) % 256)][j]? = some u → (wr.alloc (.cells #[.int .u8 ((NN : Int) % 256)] 5)).cell? ((⟨wr.heap.size, 0, none⟩ : Addr).add j) = some u := fun j u hj => by
        rw [Addr.add_mid, Nat.zero_add, World.cell?_alloc_new]
        simpa using hj
      have hml : LL.length + 1 ≤ maxLen := by unfold maxLen; omega
      have O1 : ∀ v ∈ [Value.int .u8 ((NN : Int) % 256)], v.oneCell' = true := fun v hv => by simp at hv; subst hv; rfl
      have hbA : Below wr.heap.size wr (wr.alloc (.cells #[.int .u8 ((NN : Int) % 256)] 5)) := (Below.refl _ _).alloc (Nat.le_refl _) _
      have H1 := Lib.hid h1
      have H2 := Lib.hid h2
      have H3 := Lib.hid h3
      have H4 := Lib.hid h4
      have HF := Lib.hid hf
      have HOA := Lib.hid hoA
      have Hcl := Lib.hid hcl
      have HBT := Lib.hid hbt
      have HSN := Lib.hid hsn
      have HNX := Lib.hid hnx
      have HBA := Lib.hid hbA
      clear h1 h2 h3 h4 hf hLL hNN hoA hcl hbt hsn hnx hbA
      go_wp2_with (refine wpList_append_own_at _ rfl (.tmp 13) (.tmp 16) 42 rfl 0 5 i0 _ 1 1 Tryd.underlying42 Hi.out Hz.out Hz1.out Hz2.out rfl (by decide) _ LL.length (bcells LL) rfl HOA.out ⟨wr.heap.size, 0, none⟩ 1 1 [.int .u8 ((NN : Int) % 256)] rfl rfl Hcl.out O1 hml (by omega) (Nat.zero_le _) ?_)
      intro v5 w5 hown5 hgrow hnn hor
      rw [HBT.out, ← bcells_app] at hown5
      obtain ⟨a5, cap5, rfl⟩ := row_lens hown5
      have hb5 : w5.heap[b]? = wr.heap[b]? := (hgrow.block b (by simp; omega) (fun e => H1.out.ne e.symm)).trans (HBA.out.block b hbl)
      have hm5 : Moves (wfp b (.slice a LL.length cap)) wr w5 := (Moves.of_below HBA.out).grown hgrow fun q hq => .inl (.inr hq)
      have hps := WS.pushed (L' := LL ++ [UInt8.ofNat NN]) H1.out H2.out H3.out H4.out hm5 hb5 (by rw [List.length_append]; exact hown5) (hor.imp id fun h k hk => by rw [h] at hk; cases hk; omega)
      have c5 : w5.cell? ⟨b, 0, none⟩ = some (.slice a LL.length cap) := (World.cell?_of_block (a := ⟨b, 0, none⟩) hb5).trans c0
      have f5 : w5.frozen? ⟨b, 0, none⟩ = false := (World.frozen?_of_block (a := ⟨b, 0, none⟩) hb5).trans f0
      have HPS := Lib.hid hps
      clear hown5 hgrow hnn hor hb5 hm5 hps c0 f0
      go_wp2_with fail
      go_roundw
      case rel =>
        refine ⟨j + 1, by omega, by go_num, by rw [HNX.out]; go_num, by rw [HSN.out]; exact HPS.out.1, fun q hq => (HPS.out.2 q hq).trans (HF.out q hq)⟩
      case measure => simp [intOf]; omega
    · have ej : j = k := by omega
      have HS := Lib.hid hs
      have HF := Lib.hid hf
      rw [ej] at HS
      clear hs hf ej
      go_wp2_with fail
      go_end0
      exact ⟨rfl, HS.out, HF.out⟩
/-- A fault at q. -/
structure IsF (w : World) (q : Nat) (e i : Int) : Prop where
  c0 : w.cell? ⟨q, 0, none⟩ = some (.int .i64 e)
  c1 : w.cell? ⟨q, 1, none⟩ = some (.int .i64 i)
  c2 : w.cell? ⟨q, 2, none⟩ = some .nilIface
theorem IsF.below {w w' : World} {q : Nat} {e i : Int} (h : IsF w q e i) (hb : Below w.heap.size w w') : IsF w' q e i := by
  have hk := hb.block q (World.block_lt_of_cell? w _ h.c0)
  exact ⟨(World.cell?_of_block (a := ⟨q, 0, none⟩) hk).trans h.c0, (World.cell?_of_block (a := ⟨q, 1, none⟩) hk).trans h.c1, (World.cell?_of_block (a := ⟨q, 2, none⟩) hk).trans h.c2⟩
set_option maxRecDepth 100000 in
theorem wrap_any (e i : Int) (he : (e == 0) = false) : Calls Tryd.prog 15 #[.int .i64 e, .int .i64 i, .nilIface] wr fun en w' => en = .returned (.iface 132 (.pointer (some ⟨wr.heap.size, 0, none⟩))) ∧ IsF w' wr.heap.size e i ∧ Below wr.heap.size wr w' ∧ wr.heap.size < w'.heap.size := by
  go_enter Tryd.func15, Tryd.ntmps15
  go_wp2_with fail
  go_ret
  refine ⟨rfl, ⟨?_, ?_, ?_⟩, (Below.refl _ _).alloc (Nat.le_refl _) _, by simp⟩ <;> (rw [World.cell?_alloc_new]; rfl)
set_option maxRecDepth 100000 in
theorem wrap_ok (i : Int) : Calls Tryd.prog 15 #[.int .i64 0, .int .i64 i, .nilIface] wr fun en w' => en = .returned .nilIface ∧ wr = w' := by
  go_enter Tryd.func15, Tryd.ntmps15
  go_wp2_with fail
  go_ret
  exact ⟨rfl, rfl⟩
def NumOk (w0 : World) (F : Nat → Prop) (b : Nat) (wr : World) (L : List UInt8) (e : Ending) (w' : World) : Prop := e = .returned .nilIface ∧ WS w0 F b w' L ∧ ∀ q, F q → w'.heap[q]? = wr.heap[q]?
set_option maxRecDepth 100000 in
set_option maxHeartbeats 2000000 in
theorem WS.num (h : WS w0 F b wr L) (hl : L.length ≤ 1000000) (n k : Nat) (hk : k = 1 ∨ k = 2 ∨ k = 4 ∨ k = 8) (hn : n < 256 ^ k) (hn8 : n < 9223372036854775808) :
    Calls Tryd.prog 48 #[.pointer (some ⟨b, 0, none⟩), .int .i64 (n : Int), .int .i64 (k : Int)] wr (NumOk w0 F b wr (L ++ leN n k)) := by
  have hp := h.put hl n k (by omega) hn8
  have hn0 : decide ((n : Int) < 0) = false := by simp
  rcases hk with rfl | rfl | rfl | rfl
  · have hn1 : decide ((255 : Int) < (n : Int)) = false := by simp; omega
    have hn2 : n ≤ 255 := by omega
    clear h hl hn hn8
    go_enter Tryd.func48, Tryd.ntmps48
    go_wp2_with fail
    refine hp.mono ?_
    rintro e w1 ⟨rfl, hs, hf⟩
    have HS := Lib.hid hs
    have HF := Lib.hid hf
    clear hp hs hf
    go_wp2_with fail
    go_ret
    exact ⟨rfl, HS.out, HF.out⟩
  · have hn1 : decide ((65535 : Int) < (n : Int)) = false := by simp; omega
    have hn2 : n ≤ 65535 := by omega
    clear h hl hn hn8
    go_enter Tryd.func48, Tryd.ntmps48
    go_wp2_with fail
    refine hp.mono ?_
    rintro e w1 ⟨rfl, hs, hf⟩
    have HS := Lib.hid hs
    have HF := Lib.hid hf
    clear hp hs hf
    go_wp2_with fail
    go_ret
    exact ⟨rfl, HS.out, HF.out⟩
  · have hn1 : decide ((4294967295 : Int) < (n : Int)) = false := by simp; omega
    have hn2 : n ≤ 4294967295 := by omega
    clear h hl hn hn8
    go_enter Tryd.func48, Tryd.ntmps48
    go_wp2_with fail
    refine hp.mono ?_
    rintro e w1 ⟨rfl, hs, hf⟩
    have HS := Lib.hid hs
    have HF := Lib.hid hf
    clear hp hs hf
    go_wp2_with fail
    go_ret
    exact ⟨rfl, HS.out, HF.out⟩
  · have hn1 : decide ((9223372036854775807 : Int) < (n : Int)) = false := by simp; omega
    have hn2 : n ≤ 9223372036854775807 := by omega
    clear h hl hn hn8
    go_enter Tryd.func48, Tryd.ntmps48
    go_wp2_with fail
    refine hp.mono ?_
    rintro e w1 ⟨rfl, hs, hf⟩
    have HS := Lib.hid hs
    have HF := Lib.hid hf
    clear hp hs hf
    go_wp2_with fail
    go_ret
    exact ⟨rfl, HS.out, HF.out⟩
theorem strCells_eq (s : ByteArray) : Lib.strCells s = bcells s.data.toList := rfl
set_option maxRecDepth 100000 in
set_option maxHeartbeats 2000000 in
theorem WS.text (h : WS w0 F b wr L) (hl : L.length ≤ 1000000) (s : ByteArray) (hs : s.size ≤ 1024) :
    Calls Tryd.prog 49 #[.pointer (some ⟨b, 0, none⟩), .string s] wr (NumOk w0 F b wr (L ++ (leN s.size 2 ++ s.data.toList))) := by
  obtain ⟨i0, hi0, hz0, hz1, hz2⟩ := info_parts Tryd.infoU8
  have Hi := Lib.hid hi0
  have Hz := Lib.hid hz0
  have Hz1 := Lib.hid hz1
  have Hz2 := Lib.hid hz2
  clear hi0 hz0 hz1 hz2
  have hp := h.put hl s.size 2 (by omega) (by omega)
  have hle : (L ++ leN s.size 2).length ≤ 1000002 := by rw [List.length_append, length_leN]; omega
  have hap : L ++ (leN s.size 2 ++ s.data.toList) = (L ++ leN s.size 2) ++ s.data.toList := (List.append_assoc _ _ _).symm
  rw [hap]
  generalize L ++ leN s.size 2 = LL at hp hle ⊢
  have hsl : s.data.toList.length = s.size := rfl
  have Hsl := Lib.hid hsl
  clear hap h hsl
  have e1 : decide ((1024 : Int) < (s.size : Int)) = false := by simp; omega
  go_enter Tryd.func49, Tryd.ntmps49
  go_wp2_with fail
  refine hp.mono ?_
  rintro e w1 ⟨rfl, ⟨v, h1, h2, h3, h4⟩, hf⟩
  obtain ⟨a, cap, rfl⟩ := h1.lens
  have c0 := h1.c0
  have f0 := h1.fro
  have hbl := h1.lt b (.inl rfl)
  have hml : LL.length + s.size ≤ maxLen := by unfold maxLen; omega
  have H1 := Lib.hid h1
  have H2 := Lib.hid h2
  have H3 := Lib.hid h3
  have H4 := Lib.hid h4
  have HF := Lib.hid hf
  clear hp h1 h2 h3 h4 hf e1
  go_wp2_with (refine wpList_append_string_at rfl (.tmp 22) (.tmp 23) 42 9 rfl 0 5 i0 Tryd.underlying42 Tryd.underlying9 Hi.out Hz.out Hz1.out Hz2.out _ LL.length (bcells LL) rfl H1.out.row s rfl hml (by omega) (Nat.zero_le _) ?_)
  intro v5 w5 hown5 hgrow hor
  rw [strCells_eq, ← bcells_app] at hown5
  obtain ⟨a5, cap5, rfl⟩ := row_lens hown5
  have hb5 : w5.heap[b]? = w1.heap[b]? := hgrow.block b hbl (fun e => H1.out.ne e.symm)
  have hm5 : Moves (wfp b (.slice a LL.length cap)) w1 w5 := (Moves.refl _ _).grown hgrow fun q hq => .inl (.inr hq)
  have hps := WS.pushed (L' := LL ++ s.data.toList) H1.out H2.out H3.out H4.out hm5 hb5 (by rw [List.length_append, Hsl.out]; exact hown5) (hor.imp id fun h k hk => by rw [h] at hk; cases hk; exact Nat.le_refl _)
  have c5 : w5.cell? ⟨b, 0, none⟩ = some (.slice a LL.length cap) := (World.cell?_of_block (a := ⟨b, 0, none⟩) hb5).trans c0
  have f5 : w5.frozen? ⟨b, 0, none⟩ = false := (World.frozen?_of_block (a := ⟨b, 0, none⟩) hb5).trans f0
  have HPS := Lib.hid hps
  clear hown5 hgrow hor hb5 hm5 hps c0 f0
  go_wp2_with fail
  go_ret
  exact ⟨rfl, HPS.out.1, fun q hq => (HPS.out.2 q hq).trans (HF.out q hq)⟩
set_option maxRecDepth 100000 in
theorem WS.bytes (h : WS w0 F b wr L) :
    Calls Tryd.prog 51 #[.pointer (some ⟨b, 0, none⟩)] wr fun e w' => e = .returned (.string ⟨L.toArray⟩) ∧ wr = w' := by
  obtain ⟨v, h1, -⟩ := h
  obtain ⟨a, cap, rfl⟩ := h1.lens
  have c0 := h1.c0
  have hconv : (convert 42 9 (.slice a L.length cap)).run Tryd.prog wr = .ok (.string ⟨L.toArray⟩) wr := by
    rcases ownsRow_form h1.row with ⟨h0, h2⟩ | ⟨g, cap', h0, _⟩
    · have : L = [] := List.length_eq_zero_iff.1 h2.1
      subst this
      cases h0
      exact run_convert_bytes_string wr 42 9 5 none 0 0 Tryd.underlying42 Tryd.underlying5 Tryd.underlying9
    · cases h0
      exact run_convert_bytes_back wr 42 9 5 ⟨g, 0, none⟩ cap L Tryd.underlying42 Tryd.underlying5 Tryd.underlying9 fun j hj => by
        have := World.ownsRow.cells h1.row (g := g) rfl j (.int .u8 (L[j].toNat : Int)) (by simp [bcells, hj])
        exact this
  clear h1
  go_enter Tryd.func51, Tryd.ntmps51
  go_wp2_with fail
  go_ret
  exact ⟨rfl, rfl⟩
/-- A number that does not fit. -/
def NumBad (w0 : World) (F : Nat → Prop) (b : Nat) (wr : World) (L : List UInt8) (e : Ending) (w' : World) : Prop := ∃ q : Nat, e = .returned (.iface 132 (.pointer (some ⟨q, 0, none⟩))) ∧ WS w0 F b w' L ∧ ∀ q, F q → w'.heap[q]? = wr.heap[q]?
def numFits (n : Int) (k : Nat) : Prop := 0 ≤ n ∧ n < 256 ^ k
set_option maxRecDepth 100000 in
set_option maxHeartbeats 2000000 in
theorem WS.num_bad (h : WS w0 F b wr L) (n : Int) (k : Nat) (hk : k = 1 ∨ k = 2 ∨ k = 4 ∨ k = 8) (hn : ¬ numFits n k) (hn7 : -9223372036854775808 ≤ n) (hn8 : n < 9223372036854775808) :
    Calls Tryd.prog 48 #[.pointer (some ⟨b, 0, none⟩), .int .i64 n, .int .i64 (k : Int)] wr (NumBad w0 F b wr L) := by
  obtain ⟨v, h1, -⟩ := id h
  obtain ⟨a, cap, rfl⟩ := h1.lens
  have c0 := h1.c0
  have hwp := wrap_any (wr := wr) 1 (L.length : Int) rfl
  have H := Lib.hid h
  have hfin : ∀ w', Below wr.heap.size wr w' → WS w0 F b w' L ∧ ∀ q, F q → w'.heap[q]? = wr.heap[q]? := fun w' hb => ⟨H.out.more hb, fun q hq => hb.block q (H.out.fl hq)⟩
  have HFin := Lib.hid hfin
  unfold numFits at hn
  clear h h1 hfin
  by_cases hn0 : n < 0
  · have hn1 : decide (n < 0) = true := by simpa using hn0
    rcases hk with rfl | rfl | rfl | rfl
    all_goals
      clear hn
      go_enter Tryd.func48, Tryd.ntmps48
      go_wp2_with fail
      refine hwp.mono ?_
      rintro e w1 ⟨rfl, -, hb, -⟩
      have HQ := Lib.hid (HFin.out _ hb)
      clear hwp hb
      go_wp2_with fail
      go_ret
      exact ⟨_, rfl, HQ.out⟩
  · have hn1 : decide (n < 0) = false := by simpa using hn0
    obtain ⟨m, rfl⟩ := Int.eq_ofNat_of_zero_le (show 0 ≤ n by omega)
    rcases hk with rfl | rfl | rfl | rfl
    · have hn2 : decide ((255 : Int) < (m : Int)) = true := by simp; omega
      have hn3 : 255 < m := by omega
      clear hn
      go_enter Tryd.func48, Tryd.ntmps48
      go_wp2_with fail
      refine hwp.mono ?_
      rintro e w1 ⟨rfl, -, hb, -⟩
      have HQ := Lib.hid (HFin.out _ hb)
      clear hwp hb
      go_wp2_with fail
      go_ret
      exact ⟨_, rfl, HQ.out⟩
    · have hn2 : decide ((65535 : Int) < (m : Int)) = true := by simp; omega
      have hn3 : 65535 < m := by omega
      clear hn
      go_enter Tryd.func48, Tryd.ntmps48
      go_wp2_with fail
      refine hwp.mono ?_
      rintro e w1 ⟨rfl, -, hb, -⟩
      have HQ := Lib.hid (HFin.out _ hb)
      clear hwp hb
      go_wp2_with fail
      go_ret
      exact ⟨_, rfl, HQ.out⟩
    · have hn2 : decide ((4294967295 : Int) < (m : Int)) = true := by simp; omega
      have hn3 : 4294967295 < m := by omega
      clear hn
      go_enter Tryd.func48, Tryd.ntmps48
      go_wp2_with fail
      refine hwp.mono ?_
      rintro e w1 ⟨rfl, -, hb, -⟩
      have HQ := Lib.hid (HFin.out _ hb)
      clear hwp hb
      go_wp2_with fail
      go_ret
      exact ⟨_, rfl, HQ.out⟩
    · exact absurd ⟨by omega, by omega⟩ hn
end
end Go.Proofs.YtkbncbkmaakpkaaDoor
