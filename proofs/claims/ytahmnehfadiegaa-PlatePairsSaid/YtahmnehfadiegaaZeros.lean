/- Zeros: so many bytes 0. -/
import Derived.Test.YtahmnehfadiegaaPlateA
import Derived.OwnWalk
namespace Go.Proofs.Ytahmnehfadiegaa
open Go.RowKit
theorem Try.infoByte : (Try.prog.info? 5).map (fun i => (i.zero, i.size, i.bytes)) = some (some (.int .u8 0), 1, 1) := by kernel_rfl
set_option maxRecDepth 100000 in
set_option maxHeartbeats 400000 in
theorem zeros_any (n : Nat) (hn : n ≤ 1000) (w : World) : Calls Try.prog 21 #[.int .i64 (n : Int)] w fun e w' => e = .returned (.string ⟨(Zn n).toArray⟩) ∧ Below w.heap.size w w' := by
  obtain ⟨i0, hi, hz, hs, hb⟩ := info_parts Try.infoByte
  have hconv := run_convert_bytes_back (P := Try.prog) (w.alloc (.cells (Array.replicate n (.int .u8 0)) 5)) 62 9 5 ⟨w.heap.size, 0, none⟩ n (Zn n) Try.underlying62 Try.underlying5 Try.underlying9
    (fun j hj => by rw [Addr.add_mid, World.cell?_alloc_new, Array.getElem?_replicate, if_pos (by simpa [Zn] using hj)]; simp [Zn])
  rw [show (Zn n).length = n by simp [Zn]] at hconv
  have Hi := Lib.hid hi
  have Hs := Lib.hid hs
  have Hb := Lib.hid (show i0.bytes * n ≤ 281474976710656 by rw [hb]; omega)
  have Hm := Lib.hid (show n ≤ maxLen by unfold maxLen; omega)
  have Hz := Lib.hid hz
  clear hi hs hb hz
  go_enter Try.func21, Try.ntmps21
  go_wp2_with (refine wpList_make_one rfl (.tmp 3) (.tmp 3) 62 rfl 5 i0 _ Try.underlying62 Hi.out Hz.out rfl Hs.out n rfl rfl Hb.out Hm.out ?_)
  go_ret
  exact ⟨rfl, (Below.refl _ _).alloc (Nat.le_refl _) _⟩
end Go.Proofs.Ytahmnehfadiegaa
