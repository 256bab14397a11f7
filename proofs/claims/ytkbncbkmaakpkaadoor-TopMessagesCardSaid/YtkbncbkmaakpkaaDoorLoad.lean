/- Load of an acceptor with one vote. -/
import Derived.Test.YtkbncbkmaakpkaaDoorSave
import Derived.Test.YtkbncbkmaakpkaaDoorFr
namespace Go.Proofs.YtkbncbkmaakpkaaDoor
open Go.RowKit
theorem leV_mid {L A C : List UInt8} {n k i : Nat} (hL : L = A ++ (leN n k ++ C)) (hA : A.length = i) (hn : n < 256 ^ k) : leV ((L.drop i).take k) = n := by
  subst hL hA
  rw [List.drop_left, List.take_append_of_le_length (by rw [length_leN]; exact Nat.le_refl _), List.take_of_length_le (by rw [length_leN]; exact Nat.le_refl _), leV_of hn]
/-- In the midst of read: the reader, its variable, the first error's (none). -/
structure RV (w : World) (r e b : Nat) (L : List UInt8) (i : Nat) : Prop where
  rd : IsR w b L i
  cr : w.cell? ⟨r, 0, none⟩ = some (.pointer (some ⟨b, 0, none⟩))
  ce : w.cell? ⟨e, 0, none⟩ = some .nilIface
  fe : w.frozen? ⟨e, 0, none⟩ = false
  rb : r ≠ b
  eb : e ≠ b
  re : r ≠ e
section
variable {w w' : World} {r e b i : Nat} {L : List UInt8}
theorem RV.keep (h : RV w r e b L i) (h1 : w'.heap[r]? = w.heap[r]?) (h2 : w'.heap[e]? = w.heap[e]?) (h3 : w'.heap[b]? = w.heap[b]?) : RV w' r e b L i :=
  ⟨h.rd.keep h3, (World.cell?_of_block (a := ⟨r, 0, none⟩) h1).trans h.cr, (World.cell?_of_block (a := ⟨e, 0, none⟩) h2).trans h.ce, (World.frozen?_of_block (a := ⟨e, 0, none⟩) h2).trans h.fe, h.rb, h.eb, h.re⟩
theorem RV.ltr (h : RV w r e b L i) : r < w.heap.size := World.block_lt_of_cell? w _ h.cr
theorem RV.lte (h : RV w r e b L i) : e < w.heap.size := World.block_lt_of_cell? w _ h.ce
theorem RV.ltb (h : RV w r e b L i) : b < w.heap.size := h.rd.lt
theorem RV.below (h : RV w r e b L i) (hb : Below w.heap.size w w') : RV w' r e b L i := h.keep (hb.block _ h.ltr) (hb.block _ h.lte) (hb.block _ h.ltb)
theorem RV.moved {j : Nat} (h : RV w r e b L i) (hr : IsR w' b L j) (hm : Moves (fun q => q = b) w w') : RV w' r e b L j :=
  ⟨hr, (World.cell?_of_block (a := ⟨r, 0, none⟩) (hm.block r h.ltr h.rb)).trans h.cr, (World.cell?_of_block (a := ⟨e, 0, none⟩) (hm.block e h.lte h.eb)).trans h.ce, (World.frozen?_of_block (a := ⟨e, 0, none⟩) (hm.block e h.lte h.eb)).trans h.fe, h.rb, h.eb, h.re⟩
theorem RV.put (h : RV w r e b L i) : RV (w.setCell ⟨e, 0, none⟩ .nilIface) r e b L i :=
  ⟨h.rd.keep (Below.heap_setCell _ _ _ _ (fun h' => h.eb h'.symm)), by rw [World.cell?_setCell_other _ _ _ _ (by intro h'; injection h' with h1 h2; exact h.re h1.symm)]; exact h.cr, World.cell?_setCell_same _ _ _ h.ce, by rw [World.frozen?_setCell]; exact h.fe, h.rb, h.eb, h.re⟩
set_option maxRecDepth 100000 in
set_option maxHeartbeats 2000000 in
theorem rd2 (h : RV w r e b L i) (hl : L.length ≤ 1000000) (hi : i + 2 ≤ L.length) {v : Nat} (hvv : leV ((L.drop i).take 2) = v) (hv : v < 9223372036854775808) :
    Calls Tryd.prog 95 #[.int .i64 2, .pointer (some ⟨r, 0, none⟩), .pointer (some ⟨e, 0, none⟩)] w fun en w' => en = .returned (.int .i64 (v : Int)) ∧ RV w' r e b L (i + 2) ∧ Moves (fun q => q = b ∨ q = e) w w' := by
  have hp := rnum2 h.rd hl hi (by rw [hvv]; exact hv)
  rw [hvv] at hp
  have c0 := h.cr
  have H := Lib.hid h
  clear h hv hvv
  go_enter Tryd.func95, Tryd.ntmps95
  go_wp2_with fail
  refine hp.mono ?_
  rintro en w1 ⟨rfl, hr1, hm1⟩
  have hrv := H.out.moved hr1 hm1
  have d0 := hrv.ce
  have f0 := hrv.fe
  have HR := Lib.hid hrv.put
  have HM := Lib.hid ((hm1.mono (F' := fun q => q = b ∨ q = e) fun q _ hq => .inl hq).setCell ⟨e, 0, none⟩ .nilIface (.inl (.inr rfl)))
  clear hp hr1 hm1 hrv c0
  go_wp2_with fail
  go_ret
  exact ⟨rfl, HR.out, HM.out⟩
set_option maxRecDepth 100000 in
set_option maxHeartbeats 2000000 in
theorem rd8 (h : RV w r e b L i) (hl : L.length ≤ 1000000) (hi : i + 8 ≤ L.length) {v : Nat} (hvv : leV ((L.drop i).take 8) = v) (hv : v < 9223372036854775808) :
    Calls Tryd.prog 95 #[.int .i64 8, .pointer (some ⟨r, 0, none⟩), .pointer (some ⟨e, 0, none⟩)] w fun en w' => en = .returned (.int .i64 (v : Int)) ∧ RV w' r e b L (i + 8) ∧ Moves (fun q => q = b ∨ q = e) w w' := by
  have hp := rnum8 h.rd hl hi (by rw [hvv]; exact hv)
  rw [hvv] at hp
  have c0 := h.cr
  have H := Lib.hid h
  clear h hv hvv
  go_enter Tryd.func95, Tryd.ntmps95
  go_wp2_with fail
  refine hp.mono ?_
  rintro en w1 ⟨rfl, hr1, hm1⟩
  have hrv := H.out.moved hr1 hm1
  have d0 := hrv.ce
  have f0 := hrv.fe
  have HR := Lib.hid hrv.put
  have HM := Lib.hid ((hm1.mono (F' := fun q => q = b ∨ q = e) fun q _ hq => .inl hq).setCell ⟨e, 0, none⟩ .nilIface (.inl (.inr rfl)))
  clear hp hr1 hm1 hrv c0
  go_wp2_with fail
  go_ret
  exact ⟨rfl, HR.out, HM.out⟩
theorem Acc.moves2 {X F : Nat → Prop} {a : Nat} {p : Int} {V : Nat → Option Vt} (h : Acc w X a p V) (hm : Moves F w w') (hX : ∀ q, F q → X q) (hne : ¬ F a) : Acc w' X a p V := by
  obtain ⟨B, h1, h2⟩ := h
  exact ⟨B, h1.keep (hm.block a h1.lt hne) fun i x hx => hm.block _ (h1.vs i x hx).lt fun e => h2 i x hx (hX _ e), h2⟩
theorem Acc.promised {X : Nat → Prop} {a : Nat} {p : Int} {V : Nat → Option Vt} (h : Acc w X a p V) (hX : X a) (n : Int) : Acc (w.setCell ⟨a, 0, none⟩ (.int .i64 n)) X a n V := by
  obtain ⟨B, h1, h2⟩ := h
  exact ⟨B, h1.promise (fun i x hx e => h2 i x hx (e ▸ hX)) n, h2⟩
/-- In the midst of read: all of it. -/
structure RS (w : World) (r e a b : Nat) (L : List UInt8) (X : Nat → Prop) (W : World) (i : Nat) (p : Int) (V : Nat → Option Vt) : Prop where
  rv : RV W r e b L i
  ac : Acc W X a p V
  mv : Moves (fun q => q = b) w W
  xa : X a
  xb : X b
  xe : X e
  xl : ∀ q, X q → q < W.heap.size
  ab : a ≠ b
  ae : a ≠ e
  ar : a ≠ r
  el : w.heap.size ≤ e
  al : w.heap.size ≤ a
section
variable {a : Nat} {X : Nat → Prop} {W W' : World} {p : Int} {V : Nat → Option Vt}
theorem RS.read {j : Nat} (h : RS w r e a b L X W i p V) (hr : RV W' r e b L j) (hm : Moves (fun q => q = b ∨ q = e) W W') : RS w r e a b L X W' j p V :=
  ⟨hr, h.ac.moves2 hm (fun q hq => by rcases hq with rfl | rfl; exact h.xb; exact h.xe) (fun hq => by rcases hq with hq | hq; exact h.ab hq; exact h.ae hq), h.mv.trans hm fun q hq => by
    rcases hq with rfl | rfl
    · exact .inl rfl
    · exact .inr h.el, h.xa, h.xb, h.xe, fun q hq => Nat.lt_of_lt_of_le (h.xl q hq) hm.size, h.ab, h.ae, h.ar, h.el, h.al⟩
theorem RS.below (h : RS w r e a b L X W i p V) (hb : Below W.heap.size W W') : RS w r e a b L X W' i p V :=
  ⟨h.rv.below hb, h.ac.below hb, h.mv.trans (Moves.of_below (F := fun _ => False) hb) fun _ h => h.elim, h.xa, h.xb, h.xe, fun q hq => Nat.lt_of_lt_of_le (h.xl q hq) hb.size, h.ab, h.ae, h.ar, h.el, h.al⟩
theorem RS.told {p' : Int} {V' : Nat → Option Vt} (h : RS w r e a b L X W i p V) (hac : Acc W' X a p' V') (hm : Moves (fun q => q = a) W W') : RS w r e a b L X W' i p' V' :=
  ⟨h.rv.keep (hm.block _ h.rv.ltr (fun e => h.ar e.symm)) (hm.block _ h.rv.lte (fun e => h.ae e.symm)) (hm.block _ h.rv.ltb (fun e => h.ab e.symm)), hac, h.mv.trans hm fun q hq => by subst hq; exact .inr h.al, h.xa, h.xb, h.xe, fun q hq => Nat.lt_of_lt_of_le (h.xl q hq) hm.size, h.ab, h.ae, h.ar, h.el, h.al⟩
theorem RS.side {u : Nat} (h : RS w r e a b L X W i p (fun _ => none)) (hm : Moves (fun q => q = u) W W') (ub : u ≠ b) (ua : u ≠ a) (ue : u ≠ e) (ur : u ≠ r) (ul : w.heap.size ≤ u) : RS w r e a b L X W' i p (fun _ => none) := by
  refine ⟨h.rv.keep (hm.block _ h.rv.ltr (fun e => ur e.symm)) (hm.block _ h.rv.lte (fun e => ue e.symm)) (hm.block _ h.rv.ltb (fun e => ub e.symm)), ?_, h.mv.trans hm fun q hq => by subst hq; exact .inr ul, h.xa, h.xb, h.xe, fun q hq => Nat.lt_of_lt_of_le (h.xl q hq) hm.size, h.ab, h.ae, h.ar, h.el, h.al⟩
  obtain ⟨B, h1, h2⟩ := h.ac
  exact ⟨B, h1.keep (hm.block _ h1.lt (fun e => ua e.symm)) (fun i x hx => by cases hx), h2⟩
end
set_option maxRecDepth 100000 in
set_option maxHeartbeats 8000000 in
theorem read_one (h : IsR w b L 0) {pr s n : Nat} {t : ByteArray} (hL : L = accB pr [⟨s, n, t⟩]) (hpr : pr ≤ 1099511627776) (hs : s < 4096) (hn1 : 1 ≤ n) (hn : n ≤ pr) (ht : t.size ≤ 1024) :
    Calls Tryd.prog 44 #[.pointer (some ⟨b, 0, none⟩)] w fun en w' => ∃ a, en = .returned (.tuple #[.pointer (some ⟨a, 0, none⟩), .nilIface]) ∧ w.heap.size ≤ a ∧ Acc w' (fun q => q < w.heap.size ∨ q = a) a (pr : Int) (updV (fun _ => none) s ⟨n, t⟩) ∧ Moves (fun q => q = b) w w' := by
  have hbl := h.lt
  have hlen : L.length = 22 + t.size := by
    subst hL
    have : t.data.toList.length = t.size := rfl
    simp [accB, encV, length_leN, this]; omega
  have v0 : leV ((L.drop 0).take 8) = pr := leV_mid (A := []) (by rw [hL]; rfl) rfl (by omega)
  have v1 : leV ((L.drop 8).take 2) = 1 := leV_mid (A := leN pr 8) (by rw [hL]; rfl) (length_leN _ _) (by decide)
  have v2 : leV ((L.drop 10).take 2) = s := leV_mid (A := leN pr 8 ++ leN 1 2) (k := 2) (C := leN n 8 ++ (leN t.size 2 ++ t.data.toList)) (by rw [hL]; simp [accB, encV]) (by simp [length_leN]) (by omega)
  have v3 : leV ((L.drop 12).take 8) = n := leV_mid (A := leN pr 8 ++ (leN 1 2 ++ leN s 2)) (k := 8) (C := leN t.size 2 ++ t.data.toList) (by rw [hL]; simp [accB, encV]) (by simp [length_leN]) (by omega)
  have v4 : leV ((L.drop 20).take 2) = t.size := leV_mid (A := leN pr 8 ++ (leN 1 2 ++ (leN s 2 ++ leN n 8))) (k := 2) (C := t.data.toList) (by rw [hL]; simp [accB, encV]) (by simp [length_leN]) (by omega)
  have v5 : bstr ((L.drop 22).take t.size) = t := by
    have e : L = (leN pr 8 ++ (leN 1 2 ++ (leN s 2 ++ (leN n 8 ++ leN t.size 2)))) ++ t.data.toList := by rw [hL]; simp [accB, encV]
    rw [e, List.drop_left' (by simp [length_leN]), List.take_of_length_le (show t.data.toList.length ≤ t.size from Nat.le_refl _)]
    exact bstr_of t
  have hl6 : L.length ≤ 1000000 := by omega
  have Hlen := Lib.hid hlen
  have V0 := Lib.hid v0
  have V1 := Lib.hid v1
  have V2 := Lib.hid v2
  have V3 := Lib.hid v3
  have V4 := Lib.hid v4
  have V5 := Lib.hid v5
  clear hL hlen v0 v1 v2 v3 v4 v5
  have hbA : Below w.heap.size w (w.alloc (.cells #[.pointer (some ⟨b, 0, none⟩)] 122)) := (Below.refl _ _).alloc (Nat.le_refl _) _
  have hcr : (w.alloc (.cells #[.pointer (some ⟨b, 0, none⟩)] 122)).cell? ⟨w.heap.size, 0, none⟩ = some (.pointer (some ⟨b, 0, none⟩)) := by rw [World.cell?_alloc_new]; rfl
  have hna := newacc_any (w := w.alloc (.cells #[.pointer (some ⟨b, 0, none⟩)] 122)) (fun _ => False)
  have hsz : (w.alloc (.cells #[.pointer (some ⟨b, 0, none⟩)] 122)).heap.size = w.heap.size + 1 := by simp
  rw [hsz] at hna
  have HBA := Lib.hid hbA
  have HCR := Lib.hid hcr
  have HR0 := Lib.hid h
  have HSZ := Lib.hid hsz
  have hmf : ∀ (fn : Fn) (first cap : Array Value) (w : World), (Instr.makeFunc fn first cap).run Tryd.prog w = .ok (.func fn first cap) w := fun _ _ _ _ => rfl
  clear h hbA hcr hsz
  go_enter Tryd.func44, Tryd.ntmps44
  go_wp2_with fail
  refine hna.mono ?_
  rintro en w2 ⟨rfl, hac, hb2⟩
  have hb3 : Below w2.heap.size w2 (w2.alloc (.cells #[.nilIface] 45)) := (Below.refl _ _).alloc (Nat.le_refl _) _
  have hs2 := hb2.size
  rw [HSZ.out] at hs2
  have hb02 : Below w.heap.size w (w2.alloc (.cells #[.nilIface] 45)) := (HBA.out.trans (hb2.mono (by omega))).trans (hb3.mono (by omega))
  have hcr3 : (w2.alloc (.cells #[.nilIface] 45)).cell? ⟨w.heap.size, 0, none⟩ = some (.pointer (some ⟨b, 0, none⟩)) :=
    ((World.cell?_of_block (a := ⟨w.heap.size, 0, none⟩) (hb3.block w.heap.size (by omega))).trans (World.cell?_of_block (a := ⟨w.heap.size, 0, none⟩) (hb2.block w.heap.size (by omega)))).trans HCR.out
  have hal := hac.lt
  have hrs : RS w w.heap.size w2.heap.size (w.heap.size + 1) b L (fun q => q < w.heap.size ∨ q = w.heap.size + 1 ∨ q = w2.heap.size) (w2.alloc (.cells #[.nilIface] 45)) 0 0 (fun _ => none) := by
    refine ⟨⟨HR0.out.below hb02, hcr3, by rw [World.cell?_alloc_new]; rfl, World.frozen?_alloc_new _ _ _ _, by omega, by omega, by omega⟩, ?_, Moves.of_below hb02, .inr (.inl rfl), .inl hbl, .inr (.inr rfl), fun q hq => ?_, by omega, by omega, by omega, by omega, by omega⟩
    · obtain ⟨B, h1, -⟩ := hac.below hb3
      exact ⟨B, h1, fun i x hx => by cases hx⟩
    · have : (w2.alloc (.cells #[.nilIface] 45)).heap.size = w2.heap.size + 1 := by simp
      rcases hq with hq | hq | hq <;> omega
  have hXe : ∀ W p V, RS w w.heap.size w2.heap.size (w.heap.size + 1) b L (fun q => q < w.heap.size ∨ q = w.heap.size + 1 ∨ q = w2.heap.size) W L.length p V → Acc W (fun q => q < w.heap.size ∨ q = w.heap.size + 1) (w.heap.size + 1) p V ∧ Moves (fun q => q = b) w W := fun W p V h => ⟨h.ac.also fun q _ hq => by
    rcases hq with hq | hq
    · exact .inl hq
    · exact .inr (.inl hq), h.mv⟩
  have HXE := Lib.hid hXe
  generalize (fun q => q < w.heap.size ∨ q = w.heap.size + 1 ∨ q = w2.heap.size) = X at hrs HXE
  have hd := rd8 hrs.rv hl6 (by have := Hlen.out; omega) V0.out (by omega)
  have HRS := Lib.hid hrs
  clear hna hac hb2 hb3 hb02 hcr3 hal hrs hXe
  go_wp2_with fail
  clear HBA HCR HR0 HSZ hs2
  generalize (w2.alloc (.cells #[.nilIface] 45)) = w3 at HRS hd ⊢
  generalize w2.heap.size = e at HRS hd HXE ⊢
  refine hd.mono ?_
  rintro en w4 ⟨rfl, hr4, hm4⟩
  have hrs4 := HRS.out.read hr4 hm4
  rw [Nat.zero_add] at hrs4
  have hd5 := rd2 hrs4.rv hl6 (by have := Hlen.out; omega) V1.out (by omega)
  have HRS4 := Lib.hid hrs4
  clear hd hr4 hm4 hrs4 HRS
  go_wp2_with fail
  refine hd5.mono ?_
  rintro en w5 ⟨rfl, hr5, hm5⟩
  have HRS5 := Lib.hid (HRS4.out.read hr5 hm5)
  clear hd5 hr5 hm5 HRS4
  go_wp2_with fail
  generalize hr' : w.heap.size = r at HRS5 HXE ⊢
  have HR' := Lib.hid hr'
  clear hr'
  go_loopw [8, 9, 10, 11, 18] (fun la _ _ _ c wr => (c = .int .i64 0 ∧ la = .int .i64 (-1) ∧ RS w r e (r + 1) b L X wr 10 0 (fun _ => none)) ∨ (c = .int .i64 1 ∧ RS w r e (r + 1) b L X wr L.length n (updV (fun _ => none) s ⟨n, t⟩))) (fun _ _ _ _ c _ => 1 - (intOf c).toNat)
  case atStart => exact .inl ⟨rfl, rfl, HRS5.out⟩
  case round =>
    clear HRS5
    rcases hrel with ⟨rfl, rfl, hrs⟩ | ⟨rfl, hrs⟩
    · have hd6 := rd2 hrs.rv hl6 (by have := Hlen.out; omega) V2.out (by omega)
      have HRS := Lib.hid hrs
      clear hrs
      go_wp2_with fail
      refine hd6.mono ?_
      rintro en w6 ⟨rfl, hr6, hm6⟩
      have hrs6 := HRS.out.read hr6 hm6
      have hd7 := rd8 hrs6.rv hl6 (by have := Hlen.out; omega) V3.out (by omega)
      have HRS6 := Lib.hid hrs6
      clear hd6 hr6 hm6 hrs6 HRS
      go_wp2_with fail
      refine hd7.mono ?_
      rintro en w7 ⟨rfl, hr7, hm7⟩
      have hrs7 := HRS6.out.read hr7 hm7
      clear hd7 hr7 hm7 HRS6
      have hbB : Below w7.heap.size w7 (w7.alloc (.cells #[.int .i64 (s : Int), .int .i64 (n : Int), .string ⟨#[]⟩] 33)) := (Below.refl _ _).alloc (Nat.le_refl _) _
      have hvb : VBox (w7.alloc (.cells #[.int .i64 (s : Int), .int .i64 (n : Int), .string ⟨#[]⟩] 33)) w7.heap.size ⟨s, n, ⟨#[]⟩⟩ := VBox.made w7 ⟨s, n, ⟨#[]⟩⟩ _
      have hvf : ∀ o, (w7.alloc (.cells #[.int .i64 (s : Int), .int .i64 (n : Int), .string ⟨#[]⟩] 33)).frozen? ⟨w7.heap.size, o, none⟩ = false := fun o => World.frozen?_alloc_new _ _ _ _
      have hrs8 := hrs7.below hbB
      have hd8 := rtext hrs8.rv.rd hl6 (by have := Hlen.out; omega) t.size V4.out (by omega) (by have := Hlen.out; omega)
      rw [show (10 + 2 + 8 + 2 : Nat) = 22 from rfl, V5.out] at hd8
      have d0 := hrs8.rv.cr
      have hne : w7.heap.size ≠ b := by have := hrs7.rv.ltb; omega
      have hnr : w7.heap.size ≠ r := by have := hrs7.rv.ltr; omega
      have hnv : w7.heap.size ≠ e := by have := hrs7.rv.lte; omega
      have hul : w.heap.size ≤ w7.heap.size := hrs7.mv.size
      have hna : w7.heap.size ≠ r + 1 := by have := hrs7.ac.lt; omega
      have HRS8 := Lib.hid hrs8
      have HVB := Lib.hid hvb
      have HVF := Lib.hid hvf
      clear hrs7 hbB hvb hrs8 hvf
      go_wp2_with fail
      generalize (w7.alloc (.cells #[.int .i64 (s : Int), .int .i64 (n : Int), .string ⟨#[]⟩] 33)) = W8 at HRS8 HVB HVF hd8 d0 ⊢
      generalize w7.heap.size = u at HVB HVF hne hna hnr hnv hul ⊢
      refine hd8.mono ?_
      rintro en w9 ⟨rfl, hr9, hm9⟩
      have hrs9 := HRS8.out.read (HRS8.out.rv.moved hr9 hm9) (hm9.mono (F' := fun q => q = b ∨ q = e) fun q _ hq => .inl hq)
      rw [show 22 + t.size = L.length from by have := Hlen.out; omega] at hrs9
      have hul9 := hm9.block u HVB.out.lt hne
      have hvb9 := HVB.out.keep hul9
      have hf9 := (World.frozen?_of_block (a := ⟨u, 2, none⟩) hul9).trans (HVF.out 2)
      have y2 := hvb9 2 _ rfl
      dsimp only at y2
      have hm10 : Moves (fun q => q = u) w9 (w9.setCell ⟨u, 2, none⟩ (.string t)) := (Moves.refl _ _).setCell _ _ (.inl rfl)
      have hrs10 := hrs9.side hm10 hne hna hnv hnr hul
      have hvb10 : VBox (w9.setCell ⟨u, 2, none⟩ (.string t)) u ⟨s, n, t⟩ := fun j x hj => by
        match j, hj with
        | 0, hj => rw [World.cell?_setCell_other _ _ _ _ (by intro h'; injection h' with h1 h2; omega)]; exact hvb9 0 x hj
        | 1, hj => rw [World.cell?_setCell_other _ _ _ _ (by intro h'; injection h' with h1 h2; omega)]; exact hvb9 1 x hj
        | 2, hj =>
          have : x = .string t := by cases hj; rfl
          rw [this]; exact World.cell?_setCell_same _ _ _ y2
      obtain ⟨Ba, hba, -⟩ := id hrs10.ac
      have a0 := hba.c0
      have g0 := hba.fro 0
      have hac11 := hrs10.ac.promised hrs10.xa 0
      have hm11 : Moves (fun q => q = r + 1) (w9.setCell ⟨u, 2, none⟩ (.string t)) ((w9.setCell ⟨u, 2, none⟩ (.string t)).setCell ⟨r + 1, 0, none⟩ (.int .i64 0)) := (Moves.refl _ _).setCell _ _ (.inl rfl)
      have hrs11 := hrs10.told hac11 hm11
      have hvb11 := hvb10.keep (hm11.block u hvb10.lt hna)
      have hce := hrs11.rv.ce
      have z0 := hvb11 0 _ rfl
      have z1 := hvb11 1 _ rfl
      have z2 := hvb11 2 _ rfl
      dsimp only at z0 z1 z2
      have haa := accept_ok hrs11.ac hrs11.xa hrs11.xl s hs (n : Int) (by omega) (by omega) (by omega) t ht
      have e1 : decide ((s : Int) ≤ -1) = false := by simp; omega
      have e2 : decide ((pr : Int) < (n : Int)) = false := by simp; omega
      have HRS11 := Lib.hid hrs11
      have HVB11 := Lib.hid hvb11
      clear hd8 hr9 hm9 hrs9 hul9 hvb9 hm10 hrs10 hvb10 hba hac11 hm11 hrs11 hvb11 d0 HRS8 HVB HVF
      go_wp2_with fail
      generalize ((w9.setCell ⟨u, 2, none⟩ (.string t)).setCell ⟨r + 1, 0, none⟩ (.int .i64 0)) = W11 at HRS11 HVB11 haa hce z0 z1 z2 ⊢
      refine haa.mono ?_
      rintro en w12 ⟨rfl, hac12, hm12⟩
      have hvb12 := HVB11.out.keep (hm12.block u HVB11.out.lt hna)
      have HRS12 := Lib.hid (HRS11.out.told hac12 hm12)
      have z0 := hvb12 0 _ rfl
      dsimp only at z0
      clear haa hac12 hm12 hvb12 HRS11 HVB11 hce z1 z2
      go_wp2_with fail
      go_roundw
      case rel => exact .inr ⟨rfl, HRS12.out⟩
      case measure => simp [intOf]
    · have hce := hrs.rv.ce
      have hcr := hrs.rv.cr
      have hre := rend hrs.rv.rd rfl
      have HRS := Lib.hid hrs
      have e3 : decide ((1099511627776 : Int) < (pr : Int)) = false := by simp; omega
      clear hrs
      go_wp2_with fail
      refine hre.mono ?_
      rintro en w6 ⟨rfl, hb6⟩
      have hrs6 := HRS.out.below hb6
      have hce6 := hrs6.rv.ce
      have hfe6 := hrs6.rv.fe
      have hrs7 : RS w r e (r + 1) b L X (w6.setCell ⟨e, 0, none⟩ .nilIface) L.length n (updV (fun _ => none) s ⟨n, t⟩) :=
        hrs6.read hrs6.rv.put ((Moves.refl _ _).setCell _ _ (.inl (.inr rfl)))
      obtain ⟨Ba, hba, -⟩ := id hrs7.ac
      have a0 := hba.c0
      have g0 := hba.fro 0
      have hrs8 := hrs7.told (hrs7.ac.promised hrs7.xa (pr : Int)) ((Moves.refl _ _).setCell ⟨r + 1, 0, none⟩ (.int .i64 (pr : Int)) (.inl rfl))
      have hce8 := hrs8.rv.ce
      have HRS8 := Lib.hid hrs8
      clear hre hb6 hrs6 hba hrs7 hrs8 hcr HRS hce
      go_wp2_with fail
      go_quiet (fail)
      go_wp2_with fail
      go_ret2
      refine ⟨r + 1, rfl, by have := HR'.out; omega, ?_⟩
      rw [HR'.out]
      exact HXE.out _ _ _ (HRS8.out.below ⟨rfl, rfl, rfl, Nat.le_refl _, fun _ _ => rfl⟩)
set_option maxRecDepth 100000 in
set_option maxHeartbeats 4000000 in
/-- Load of what Save told of one vote. -/
theorem load_one (ht : Tabs w) {pr s n : Nat} {t : ByteArray} (hpr : pr ≤ 1099511627776) (hs : s < 4096) (hn1 : 1 ≤ n) (hn : n ≤ pr) (htl : t.size ≤ 1024) :
    Calls Tryd.prog 11 #[.string (bstr (sealB (accB pr [⟨s, n, t⟩])))] w fun en w' => ∃ a, en = .returned (.tuple #[.pointer (some ⟨a, 0, none⟩), .int .i64 0]) ∧ w.heap.size ≤ a ∧ Acc w' (fun q => q < w.heap.size ∨ q = a) a (pr : Int) (updV (fun _ => none) s ⟨n, t⟩) ∧ Below w.heap.size w w' := by
  obtain ⟨L, hL⟩ : ∃ L, L = accB pr [⟨s, n, t⟩] := ⟨_, rfl⟩
  have hll : L.length ≤ 1000000 := by
    have := accB_len pr [⟨s, n, t⟩] (fun v hv => by simp at hv; subst hv; exact ⟨by show (0 : Int) ≤ s; omega, by show (s : Int) < 4096; omega, by show (1 : Int) ≤ n; omega, by show (n : Int) ≤ 1099511627776; omega, htl⟩)
    rw [hL]; simp at this ⊢; omega
  have hop := open_ok ht L hll
  have hro := fun W b (hR : IsR W b L 0) => read_one hR hL hpr hs hn1 hn htl
  rw [← hL]
  have HRO := Lib.hid hro
  clear hL hro
  go_enter Tryd.func11, Tryd.ntmps11
  go_wp2_with fail
  refine hop.mono ?_
  rintro en w1 ⟨rfl, hb1⟩
  have hnr := newreader_any (w := w1) L
  have HB1 := Lib.hid hb1
  clear hop hb1
  go_wp2_with fail
  refine hnr.mono ?_
  rintro en w2 ⟨rfl, hr2, hb2⟩
  have hra := HRO.out _ _ hr2
  have HB2 := Lib.hid (HB1.out.trans (hb2.mono HB1.out.size))
  have hs1 := HB1.out.size
  have hs2 := hb2.size
  clear hnr hr2 hb2 HB1
  go_wp2_with fail
  refine hra.mono ?_
  rintro en w3 ⟨a, rfl, hal, hac, hm⟩
  have HB3 := Lib.hid (show Below w.heap.size w w3 from HB2.out.trans (hm.below (by omega) fun k hk => by omega))
  have HA := Lib.hid (show Acc w3 (fun q => q < w.heap.size ∨ q = a) a (pr : Int) (updV (fun _ => none) s ⟨n, t⟩) from hac.also fun q _ hq => by
    rcases hq with hq | hq
    · exact .inl (by omega)
    · exact .inr hq)
  have hal2 : w.heap.size ≤ a := by omega
  clear hra hac hm
  go_wp2_with fail
  go_ret2
  exact ⟨a, rfl, hal2, HA.out, HB3.out⟩
end
end Go.Proofs.YtkbncbkmaakpkaaDoor
