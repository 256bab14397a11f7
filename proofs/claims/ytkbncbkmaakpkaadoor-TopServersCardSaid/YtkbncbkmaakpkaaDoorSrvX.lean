/- Handle of a server that stands: the time is told, a block is written. -/
import Derived.Test.YtkbncbkmaakpkaaDoorSrvW
import Derived.Test.YtkbncbkmaakpkaaDoorSrvH
import Derived.Test.YtkbncbkmaakpkaaDoorSrvP
namespace Go.Proofs.YtkbncbkmaakpkaaDoor
open Go.RowKit
section
variable {F : Nat → Prop} {w w' : World} {sb pb b am um tm km n nt : Nat} {A : Int → Option Pl} {U : Int → Bool} {err : Value} {st : PS} {T : Int → Option Int} {Kn : Int → Option (Int × Int)}
theorem handle_srv (h : Srv F w sb pb b am um tm km n nt A U err st T Kn) (hT : Tabs w) (hoff : st.off = false) (m : Ms) (hf : m.fits) (hch : m.check = 0) (hdst : m.dst = 3) (now : Int) (fd : Nat) (hk : m.kind = 2 ∧ fd = 131 ∨ m.kind = 3 ∧ fd = 133) (e : Int)
    {n' nt' : Nat} {A' : Int → Option Pl} {U' : Int → Bool} {err' : Value} {st' : PS} {T' : Int → Option Int} {Kn' : Int → Option (Int × Int)}
    (hdo : ∀ W, Tabs W → Srv (GB F w.heap.size) W sb pb b am um tm km n nt A U err st T Kn → Calls Tryd.prog fd #[.pointer (some ⟨sb, 0, none⟩), m.val, .int .i64 now] W fun ev w' => ev = .returned (.tuple #[.int .i64 e, .string ⟨#[]⟩]) ∧ Srv (GB F w.heap.size) w' sb pb b am um tm km n' nt' A' U' err' st' T' Kn' ∧ Moves (NotF (GB F w.heap.size)) W w') :
    Calls Tryd.prog 35 #[.pointer (some ⟨sb, 0, none⟩), m.val, .int .i64 now] w fun ev w' => ev = .returned (.tuple #[if st'.off then zMsg else .agg #[.int .i64 (128 + m.kind), .int .i64 m.dst, .int .i64 m.src, .int .i64 0, .int .i64 m.seq, .int .i64 m.off, .int .i64 e, .string ⟨#[]⟩], .bool !st'.off]) ∧ Srv F w' sb pb b am um tm km n' nt' A' U' err' st' T' Kn' ∧ Moves (NotF F) w w' := by
  have hb0 : Below w.heap.size w ((w.alloc (.cells m.cells.toArray 51)).alloc (.cells #[.int .i64 0, .int .i64 0, .int .i64 0, .int .i64 0, .int .i64 0, .int .i64 0, .int .i64 0, .string ⟨#[]⟩] 51)) := ((Below.refl _ _).alloc (Nat.le_refl _) _).alloc (by simp) _
  have hs0 := h.also (G := GB F w.heap.size) hb0 fun k hk => by
    rcases hk with hk | hk | hk
    · exact .inl hk
    · refine .inr ?_
      simp only [World.size_alloc]
      omega
    · refine .inr ?_
      simp only [World.size_alloc]
      omega
  have hT0 := hT.below hb0 hT.lt
  refine (handle_any m hf hch hdst now fd hk e st'.off (fun w' => Srv (GB F w.heap.size) w' sb pb b am um tm km n' nt' A' U' err' st' T' Kn') ⟨pb, b, am, um, tm, km, n, nt, A, U, err, st, T, Kn, hs0, hoff⟩ (fun w' hw => ⟨pb, b, am, um, tm, km, n', nt', A', U', err', st', T', Kn', hw, rfl⟩) (fun w' w'' hw hb => hw.below hb) (fun w' w'' hw hm => ?_) (fun W hW => hdo W (hT0.below hW hT0.lt) (hs0.below hW))).mono fun ev w' hw => ⟨hw.1, hw.2.1.less fun k hk => .inl hk, hw.2.2⟩
  have h1 := hw.fF (w.heap.size + 1) (.inr (.inr rfl))
  exact hw.own hm (fun k hk => ⟨.inl (.inr (.inr hk)), by subst hk; exact h1.1⟩) (hw.mt.moves hm fun e => h1.2.1 e.symm) (hw.mn.moves hm fun e => h1.2.2 e.symm)
set_option maxRecDepth 100000 in
set_option maxHeartbeats 1000000 in
/-- kinds' function of a write: write, and no data. -/
theorem kind1_any (m : Ms) (now e : Int) {Q : World → Prop} (hw : Calls Tryd.prog 132 #[.pointer (some ⟨sb, 0, none⟩), m.val, .int .i64 now] (w.alloc (.cells m.cells.toArray 51)) fun ev w' => ev = .returned (.int .i64 e) ∧ Q w') :
    Calls Tryd.prog 131 #[.pointer (some ⟨sb, 0, none⟩), m.val, .int .i64 now] w fun ev w' => ev = .returned (.tuple #[.int .i64 e, .string ⟨#[]⟩]) ∧ Q w' := by
  obtain ⟨k0, k1, k2, k3, k4, k5, k6, k7⟩ := m
  unfold Ms.cells Ms.val at hw
  unfold Ms.val
  have hw' : Calls Tryd.prog 132 #[.pointer (some ⟨sb, 0, none⟩), .agg #[.int .i64 k0, .int .i64 k1, .int .i64 k2, .int .i64 k3, .int .i64 k4, .int .i64 k5, .int .i64 k6, .string k7], .int .i64 now] (w.alloc (.cells #[.int .i64 k0, .int .i64 k1, .int .i64 k2, .int .i64 k3, .int .i64 k4, .int .i64 k5, .int .i64 k6, .string k7] 51)) fun ev w' => ev = .returned (.int .i64 e) ∧ Q w' := hw
  clear hw
  go_enter Tryd.func131, Tryd.ntmps131
  go_wp2_with fail
  refine hw'.mono ?_
  rintro ev w1 ⟨rfl, hq⟩
  clear hw'
  go_wp2_with fail
  go_ret2
  exact ⟨rfl, hq⟩
/-- The plate beneath a server turns. -/
theorem Srv.plate {st' : PS} {pv : Value} (h : Srv F w sb pb b am um tm km n nt A U err st T Kn) (h1 : IsSh w b pb am um n A U (.slice none 0 0) err) (h3 : ∀ k, shF b am um k → ¬ pfp pb pv k) (h4 : ∀ k, sF F sb tm km k → k < w.heap.size ∧ ¬ pfp pb pv k ∧ ¬ shF b am um k) (ht : ToPlate w pb pv st' w') : Srv F w' sb pb b am um tm km n nt A U err st' T Kn ∧ Moves (NotF F) w w' := by
  obtain ⟨g1, g2⟩ := ShP.plate h1 h3 h4 ht
  exact ⟨h.turn g1 g2, g2.mono fun k _ hk hF => hk (.inl hF)⟩
theorem scrash_any (h : Srv F w sb pb b am um tm km n nt A U err st T Kn) (hw : st.wait.length < 1000000000) (keep : Nat) (hk : keep < 18446744073709551616) :
    Calls Tryd.prog 37 #[.pointer (some ⟨pb, 0, none⟩), .int .u64 (keep : Int)] w fun e w' => e = .returned (.tuple #[]) ∧ Srv F w' sb pb b am um tm km n nt A U err (st.crash keep) T Kn ∧ Moves (NotF F) w w' := by
  obtain ⟨pv, h1, h2, h3, h4⟩ := h.sh
  exact (crash_any h2 hw keep hk).mono fun e w' hq => ⟨hq.1, h.plate h1 h3 h4 hq.2⟩
theorem scut_any (h : Srv F w sb pb b am um tm km n nt A U err st T Kn) (c : Int) (hc : c ≤ 9223372036854775807) (keep : Nat) (hk : keep < 18446744073709551616) :
    Calls Tryd.prog 36 #[.pointer (some ⟨pb, 0, none⟩), .int .i64 c, .int .u64 (keep : Int)] w fun e w' => e = .returned (.tuple #[]) ∧ Srv F w' sb pb b am um tm km n nt A U err (st.cut c keep) T Kn ∧ Moves (NotF F) w w' := by
  obtain ⟨pv, h1, h2, h3, h4⟩ := h.sh
  exact (cut_any h2 c hc keep hk).mono fun e w' hq => ⟨hq.1, h.plate h1 h3 h4 (ToPlate.same hq.2.1 hq.2.2)⟩
def dOld : ByteArray := ⟨#[111, 108, 100]⟩
def dNew : ByteArray := ⟨#[110, 101, 119]⟩
def mTime : Ms := ⟨3, 0, 3, 0, 0, 2, 0, bstr (encB 100 ⟨#[]⟩)⟩
def mPut (q o ver : Nat) (d : ByteArray) : Ms := ⟨2, 2, 3, 0, (q : Int), (o : Int), 0, bstr (encB ver d)⟩
theorem size_bstr (l : List UInt8) : (bstr l).size = l.length := rfl
theorem mTime_ok : mTime.fits ∧ mTime.check = 0 := by
  have h : (bstr (encB 100 ⟨#[]⟩)).size = 10 := by rw [size_bstr, encB_len]; rfl
  refine ⟨?_, ?_⟩
  · unfold mTime Ms.fits i64 maxLen
    dsimp only
    rw [h]
    omega
  · unfold Ms.check mTime Ms.nums Ms.inB
    dsimp only
    rw [h]
    rfl
theorem mPut_ok (q o ver : Nat) (d : ByteArray) (hq : q < 100) (ho : o < 256) (hd : d.size ≤ 16) : (mPut q o ver d).fits ∧ (mPut q o ver d).check = 0 := by
  have h : (bstr (encB ver d)).size = 10 + d.size := by rw [size_bstr, encB_len]
  refine ⟨?_, ?_⟩
  · unfold mPut Ms.fits i64 maxLen
    dsimp only
    rw [h]
    omega
  · unfold Ms.check mPut Ms.nums Ms.inB
    dsimp only
    rw [h]
    have h1 : decide ((o : Int) ≤ 256) = true := by simp; omega
    have h2 : decide ((q : Int) ≤ 1099511627776) = true := by simp; omega
    have h3 : decide (0 ≤ (o : Int)) = true := by simp
    have h4 : decide (0 ≤ (q : Int)) = true := by simp
    rw [h1, h2, h3, h4]
    simp
    omega
def noneA : Int → Option Pl := fun _ => none
def is1 (o : Nat) : List (List UInt8) := (List.replicate 9 (Zn 32)).set 0 (recB o 1 dOld.data.toList 1)
def A1 (o : Nat) : Int → Option Pl := updA (fun _ => none) ⟨o, 1, dOld, 0⟩
def U1 : Int → Bool := updU (fun _ => false) 0 true
def T1 : Int → Option Int := updT (fun _ => none) 2 100
def K1 : Int → Option (Int × Int) := updK (fun _ => none) 2 (1, 0)
set_option maxRecDepth 100000 in
theorem handle_time (h : Srv F w sb pb b am um tm km n nt A U err st (fun _ => none) Kn) (hT : Tabs w) (hoff : st.off = false) (hnt : nt < 1000000) :
    Calls Tryd.prog 35 #[.pointer (some ⟨sb, 0, none⟩), mTime.val, .int .i64 0] w fun ev w' => ev = .returned (.tuple #[.agg #[.int .i64 131, .int .i64 3, .int .i64 0, .int .i64 0, .int .i64 0, .int .i64 2, .int .i64 0, .string ⟨#[]⟩], .bool true]) ∧ Srv F w' sb pb b am um tm km n (nt + 1) A U err st T1 Kn ∧ Moves (NotF F) w w' := by
  have := handle_srv h hT hoff mTime mTime_ok.1 mTime_ok.2 rfl 0 133 (.inr ⟨rfl, rfl⟩) 0 (n' := n) (nt' := nt + 1) (A' := A) (U' := U) (err' := err) (st' := st) (T' := T1) (Kn' := Kn) fun W _ hs => until_any hs hnt mTime 100 2 ⟨#[]⟩ (by omega) (by decide) rfl rfl (by omega) 0
  rw [hoff] at this
  exact this
theorem new_still : PS.new 9 = still 9 (List.replicate 9 (Zn 32)) false 0 0 0 := rfl
theorem rep_len : ∀ x ∈ List.replicate 9 (Zn 32), x.length = 32 := fun x hx => by rw [List.eq_of_mem_replicate hx]; simp [Zn]
theorem recB_len (o ver mark : Nat) (d : ByteArray) (hd : d.size ≤ 16) : (recB o ver d.data.toList mark).length = 32 := length_recB _ _ _ _ (by simpa using hd)
set_option maxRecDepth 100000 in
theorem handle_put1 (h : Srv F w sb pb b am um tm km n nt (fun _ => none) (fun _ => false) .nilIface (PS.new 9) T1 (fun _ => none)) (hT : Tabs w) (hF3 : F 3) (hn : n < 1000000) (hnt : nt < 1000000) (o : Nat) (ho : o < 256) :
    Calls Tryd.prog 35 #[.pointer (some ⟨sb, 0, none⟩), (mPut 1 o 1 dOld).val, .int .i64 0] w fun ev w' => ev = .returned (.tuple #[.agg #[.int .i64 130, .int .i64 3, .int .i64 2, .int .i64 0, .int .i64 1, .int .i64 (o : Int), .int .i64 0, .string ⟨#[]⟩], .bool true]) ∧ Srv F w' sb pb b am um tm km (n + 1) (nt + 1) (A1 o) U1 .nilIface (still 9 (is1 o) false 0 0 4) T1 K1 ∧ Moves (NotF F) w w' := by
  obtain ⟨a, c⟩ := put_free (n := 9) (i := 0) (left := 0) (keep := 0) (calls := 0) (t0 := recB o 1 dOld.data.toList 0) (t1 := recB o 1 dOld.data.toList 1) rep_len (by simp) (by omega) (recB_len o 1 0 dOld (by decide)) (recB_len o 1 1 dOld (by decide)) (.inl rfl)
  have hok := mPut_ok 1 o 1 dOld (by omega) ho (by decide)
  exact handle_srv h hT rfl (mPut 1 o 1 dOld) hok.1 hok.2 rfl 0 131 (.inl ⟨rfl, rfl⟩) 0 (n' := n + 1) (nt' := nt + 1) (A' := A1 o) (U' := U1) (err' := .nilIface) (st' := still 9 (is1 o) false 0 0 4) (T' := T1) (Kn' := K1) fun W hTW hs => by
    refine kind1_any _ _ _ ?_
    have hbW : Below W.heap.size W (W.alloc (.cells (mPut 1 o 1 dOld).cells.toArray 51)) := (Below.refl _ _).alloc (Nat.le_refl _) _
    have := swrite_new (hs.below hbW) (hTW.below hbW hTW.lt) (.inl hF3) hn hnt 2 3 0 2 1 o 1 dOld (by omega) ho (by omega) (by omega) (by decide) 100 0 (by decide) (by omega) rfl rfl 0 (fun j hj => by omega) rfl (by decide) (by decide) rfl (by decide) (by decide) _ _ rfl rfl
    refine this.mono fun ev w' hq => ?_
    obtain ⟨g1, g2, g3⟩ := hq
    rw [new_still] at g1 g3
    rw [a] at g1 g3
    rw [c] at g3
    unfold WrPost at g3
    rw [if_pos rfl] at g3
    exact ⟨by rw [g1], g3, (Moves.of_below hbW).trans g2 fun i hi => .inl hi⟩
end
end Go.Proofs.YtkbncbkmaakpkaaDoor
