/- The document's example of a store, which the laws ask first. No condition. -/
import Derived.Test.YtdmhaajekmaadaaDagG
namespace Go.Proofs.Ytdmhaajekmaadaa
open Go.RowKit

/-- A digest whose first byte is b. -/
def H32.one (b : UInt8) : H32 := ⟨b :: List.replicate 31 0, by simp⟩

@[go_sem ↓] theorem bdH (ps : Array (Nat × Value)) : Instr.build 32 ps = bdRow 32 ps := rfl
theorem buildH (n : Int) (w : World) : (bdRow 32 #[(0, .int .u8 n)]).run Try.prog w = .ok (.agg (.int .u8 n :: List.replicate 31 (.int .u8 0)).toArray) w := by kernel_rfl
@[go_sem] theorem buildH0 (w : World) : (bdRow 32 #[(0, .int .u8 0)]).run Try.prog w = .ok (.agg (hcells (H32.one 0))) w := buildH 0 w
@[go_sem] theorem buildH1 (w : World) : (bdRow 32 #[(0, .int .u8 1)]).run Try.prog w = .ok (.agg (hcells (H32.one 1))) w := buildH 1 w
@[go_sem] theorem buildH2 (w : World) : (bdRow 32 #[(0, .int .u8 2)]).run Try.prog w = .ok (.agg (hcells (H32.one 2))) w := buildH 2 w
@[go_sem] theorem buildH3 (w : World) : (bdRow 32 #[(0, .int .u8 3)]).run Try.prog w = .ok (.agg (hcells (H32.one 3))) w := buildH 3 w

def exV : Nat → V
  | 0 => ⟨H32.one 1, H32.one 0, 0, 0⟩
  | 1 => ⟨H32.one 2, H32.one 1, 1, 0⟩
  | _ => ⟨H32.one 3, H32.one 2, 2, 0⟩
def exL : Nat → List V
  | 0 => []
  | 1 => [exV 0]
  | 2 => [exV 0, exV 1]
  | _ => [exV 1, exV 2]
theorem ex0 : checkOf 1 (exL 0) (exV 0) = 0 ∧ insOf 1 (exL 0) (exV 0) = exL 1 ∧ goneN 1 (exL 0) (exV 0) = 0 := by decide +kernel
theorem ex1 : checkOf 1 (exL 1) (exV 1) = 0 ∧ insOf 1 (exL 1) (exV 1) = exL 2 ∧ goneN 1 (exL 1) (exV 1) = 0 := by decide +kernel
theorem ex2 : checkOf 1 (exL 2) (exV 2) = 0 ∧ insOf 1 (exL 2) (exV 2) = exL 3 ∧ goneN 1 (exL 2) (exV 2) = 1 := by decide +kernel
theorem ex3 : floorOf 1 (exL 3) = 1 := by decide +kernel
theorem exAp (k : Nat) (h : k ≤ 3) : Apart (exL k) ∧ Bd (exL k) ∧ (exL k).length ≤ 2 := by
  have : k = 0 ∨ k = 1 ∨ k = 2 ∨ k = 3 := by omega
  unfold Apart Bd
  rcases this with rfl | rfl | rfl | rfl <;> decide +kernel

set_option maxHeartbeats 2000000 in
set_option maxRecDepth 100000 in
theorem awake_any (w : World) : Calls Try.prog 5 #[] w fun e w' => e = .returned (.bool true) ∧ Below w.heap.size w w' := by
  go_enter Try.func5, Try.ntmps5
  go_wp2_with fail
  refine (New_ok 1 (by omega) (by omega) w).mono ?_
  rintro e W1 ⟨rfl, hs1, hB1⟩
  have HB1 := Lib.hid hB1
  have HS1 := Lib.hid hs1
  clear hB1 hs1
  go_wp2
  go_loopw [3, 4, 5] (fun i g f wr => ∃ k : Nat, k ≤ 3 ∧ i = .int .i64 k ∧ Hid (St wr (w.heap.size + 1) w.heap.size 1 (exL k)) ∧ Hid (Below w.heap.size w wr)) (fun i _ _ _ => 3 - (intOf i).toNat)
  case atStart => exact ⟨0, by omega, rfl, HS1.out, HB1.out⟩
  case round =>
    obtain ⟨k, hk, rfl, hs, hb⟩ := hrel
    obtain ⟨hap, hbd, hln⟩ := exAp k hk
    have : k = 0 ∨ k = 1 ∨ k = 2 ∨ k = 3 := by omega
    rcases this with rfl | rfl | rfl | rfl
    · have h0 := Insert_any (w.heap.size + 1) w.heap.size 1 (by omega) (by omega) (exL 0) hap hbd (by omega) (exV 0) wr hs.out
      rw [ex0.1, ex0.2.1, ex0.2.2] at h0
      go_wp2_with fail
      refine h0.mono ?_
      rintro e W2 ⟨⟨p, cap, rfl⟩, hs2, ho2⟩
      have HS2 := Lib.hid hs2
      have HB2 := Lib.hid (hb.out.trans (ho2.below (Nat.le_refl _) hb.out.size))
      clear h0 hs2 ho2 hb hs hap hbd
      go_wp2
      refine ⟨⟨1, by omega, rfl, HS2, HB2⟩, by simp [intOf]⟩
    · have h1 := Insert_any (w.heap.size + 1) w.heap.size 1 (by omega) (by omega) (exL 1) hap hbd (by omega) (exV 1) wr hs.out
      rw [ex1.1, ex1.2.1, ex1.2.2] at h1
      go_wp2_with fail
      refine h1.mono ?_
      rintro e W2 ⟨⟨p, cap, rfl⟩, hs2, ho2⟩
      have HS2 := Lib.hid hs2
      have HB2 := Lib.hid (hb.out.trans (ho2.below (Nat.le_refl _) hb.out.size))
      clear h1 hs2 ho2 hb hs hap hbd
      go_wp2
      refine ⟨⟨2, by omega, rfl, HS2, HB2⟩, by simp [intOf]⟩
    · have h2 := Insert_any (w.heap.size + 1) w.heap.size 1 (by omega) (by omega) (exL 2) hap hbd (by omega) (exV 2) wr hs.out
      rw [ex2.1, ex2.2.1, ex2.2.2] at h2
      go_wp2_with fail
      refine h2.mono ?_
      rintro e W2 ⟨⟨p, cap, rfl⟩, hs2, ho2⟩
      have HS2 := Lib.hid hs2
      have HB2 := Lib.hid (hb.out.trans (ho2.below (Nat.le_refl _) hb.out.size))
      clear h2 hs2 ho2 hb hs hap hbd
      go_wp2
      refine ⟨⟨3, by omega, rfl, HS2, HB2⟩, by simp [intOf]⟩
    · have hfl := Floor_any (w.heap.size + 1) w.heap.size 1 (by omega) (by omega) (exL 3) hap hbd wr hs.out
      rw [ex3] at hfl
      go_wp2_with fail
      refine hfl.mono ?_
      rintro e W2 ⟨rfl, hb2⟩
      have hln2 := Len_any (w.heap.size + 1) w.heap.size 1 (exL 3) W2 (hs.out.later hb2)
      have HB2 := Lib.hid (hb.out.trans (hb2.mono hb.out.size))
      clear hfl hb2 hs hb hap hbd
      go_wp2_with fail
      refine hln2.mono ?_
      rintro e W3 ⟨rfl, rfl⟩
      go_wp2
      go_ret
      exact ⟨rfl, HB2.out⟩

end Go.Proofs.Ytdmhaajekmaadaa
