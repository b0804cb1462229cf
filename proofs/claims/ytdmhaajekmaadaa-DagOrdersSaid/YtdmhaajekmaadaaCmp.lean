/- sha.Cmp: how two digests stand to each other: -1, 0 or 1, by their bytes. No condition. -/
import Derived.Test.YtdmhaajekmaadaaProg
import Derived.Test.YtdmhaajekmaadaaKitD
import Derived.Deep.QuietTactic
import Derived.BigQuiet
import Derived.Sort.Grow
namespace Go.Proofs.Ytdmhaajekmaadaa
open Go.RowKit

/-- How two rows of bytes stand to each other. -/
def cmpB : List UInt8 → List UInt8 → Int
  | a :: l, b :: m => if a.toNat < b.toNat then -1 else if b.toNat < a.toNat then 1 else cmpB l m
  | _, _ => 0

theorem cmpB_drop (xs ys : List UInt8) (k : Nat) (hx : k < xs.length) (hy : k < ys.length) :
    cmpB (xs.drop k) (ys.drop k) = if xs[k].toNat < ys[k].toNat then -1 else if ys[k].toNat < xs[k].toNat then 1 else cmpB (xs.drop (k + 1)) (ys.drop (k + 1)) := by
  rw [List.drop_eq_getElem_cons hx, List.drop_eq_getElem_cons hy]; rfl

def hcmp (a b : H32) : Int := cmpB a.l b.l

theorem below_grow {w w' : World} {q : Nat} {os : Array Obj} (h : w' = Sort.grow (w.drewN q) os) : Below w.heap.size w w' := by
  subst h
  have : ∀ (os : Array Obj) (v : World), Below v.heap.size v (Sort.grow v os) := by
    intro os v
    refine ⟨rfl, rfl, rfl, ?_, ?_⟩
    · simp [Sort.grow]
    · intro k hk; simp only [Sort.grow]; rw [Array.getElem?_append_left hk]
  exact (below_drewN (Below.refl _ w) q).trans (this os (w.drewN q))

set_option maxHeartbeats 400000 in
theorem Cmp_any (x y : H32) (w : World) :
    Calls Try.prog 14 #[.agg (hcells x), .agg (hcells y)] w fun e w' => e = .returned (.int .i64 (hcmp x y)) ∧ ∃ q os, w' = Sort.grow (w.drewN q) os := by
  obtain ⟨xs, hx⟩ := x
  obtain ⟨ys, hy⟩ := y
  unfold hcells hcmp
  dsimp only
  have HX := Lib.hid hx
  have HY := Lib.hid hy
  clear hx hy
  go_enter Try.func14, Try.ntmps14
  go_wp2
  obtain ⟨W1, hW1⟩ : ∃ W1, (w.alloc (Obj.cells (bcells xs) 32)).alloc (Obj.cells (bcells ys) 32) = W1 := ⟨_, rfl⟩
  have hB : ∀ n, ∃ q os, W1.drewN n = Sort.grow (w.drewN q) os := by
    intro n
    refine ⟨n, #[.cells (bcells xs) 32] ++ #[.cells (bcells ys) 32], ?_⟩
    subst hW1
    rw [Sort.alloc_eq_grow, Sort.alloc_eq_grow, Sort.grow_grow]
    rfl
  have hc1 : ∀ k, (h : k < 32) → W1.cell? ⟨w.heap.size, k, none⟩ = some (.int .u8 ((xs[k]'(by rw [HX.out]; exact h)).toNat : Int)) := by
    subst hW1; intro k h; simp [getElem?_bcells, u8, List.getElem?_eq_getElem (show k < xs.length by rw [HX.out]; exact h)]
  have hc2 : ∀ k, (h : k < 32) → W1.cell? ⟨w.heap.size + 1, k, none⟩ = some (.int .u8 ((ys[k]'(by rw [HY.out]; exact h)).toNat : Int)) := by
    subst hW1; intro k h; simp [getElem?_bcells, u8, List.getElem?_eq_getElem (show k < ys.length by rw [HY.out]; exact h)]
  rw [hW1]
  have HC1 := Lib.hid hc1
  have HC2 := Lib.hid hc2
  have HB := Lib.hid hB
  clear hc1 hc2 hW1 hB
  go_loopw [6] (fun i wr => ∃ k : Nat, k ≤ 32 ∧ i = .int .i64 k ∧ (∃ n, wr = W1.drewN n) ∧ Hid (cmpB (xs.drop k) (ys.drop k) = cmpB xs ys)) (fun i _ => 32 - (intOf i).toNat)
  case atStart => exact ⟨0, by omega, rfl, ⟨0, by rfl⟩, by simp [Hid]⟩
  case round =>
    obtain ⟨k, hk, rfl, ⟨n, rfl⟩, hr⟩ := hrel
    by_cases hlt : k < 32
    · have h1 := HC1.out k hlt
      have h2 := HC2.out k hlt
      have hh := cmpB_drop xs ys k (by rw [HX.out]; exact hlt) (by rw [HY.out]; exact hlt)
      have HH := Lib.hid hh
      clear hh
      generalize (xs[k]'(by rw [HX.out]; exact hlt)).toNat = a at *
      generalize (ys[k]'(by rw [HY.out]; exact hlt)).toNat = b at *
      rcases Nat.lt_trichotomy a b with hab | hab | hab
      · rw [if_pos hab] at HH
        have hd : decide ((a : Int) < (b : Int)) = true := by simp; exact hab
        go_wp2
        go_quiet (fail)
        go_wp2
        go_ret
        exact ⟨by rw [← hr.out, HH.out]; rfl, by first | exact HB.out _ | (simp only [World.drewN_drewN]; exact HB.out _)⟩
      · subst hab
        go_wp2
        go_quiet (fail)
        go_wp2
        go_quiet (fail)
        go_wp2
        go_roundw
        case rel => exact ⟨k + 1, by omega, by go_num, ⟨_, rfl⟩, by have h := HH.out; simp at h; exact h.symm.trans hr.out⟩
        case measure => simp [intOf]; omega
      · have hn : ¬ a < b := by omega
        rw [if_neg hn, if_pos hab] at HH
        go_wp2
        go_quiet (fail)
        go_wp2
        go_quiet (fail)
        go_wp2
        go_ret
        exact ⟨by rw [← hr.out, HH.out]; rfl, by first | exact HB.out _ | (simp only [World.drewN_drewN]; exact HB.out _)⟩
    · obtain rfl : k = 32 := by omega
      go_wp2
      go_ret
      refine ⟨?_, by first | exact HB.out _ | (simp only [World.drewN_drewN]; exact HB.out _)⟩
      rw [← hr.out, List.drop_of_length_le (by rw [HX.out]; omega)]; rfl

theorem Cmp_below (x y : H32) (w : World) :
    Calls Try.prog 14 #[.agg (hcells x), .agg (hcells y)] w fun e w' => e = .returned (.int .i64 (hcmp x y)) ∧ Below w.heap.size w w' :=
  (Cmp_any x y w).mono fun _ _ ⟨he, _, _, hw⟩ => ⟨he, below_grow hw⟩

end Go.Proofs.Ytdmhaajekmaadaa
