/- Digests of 32 bytes as values of the model: how they lie, when two are the same. No condition. -/
import Derived.Test.YtdmhaajekmaadaaKitA
import Derived.KernelRfl
namespace Go.Proofs.Ytdmhaajekmaadaa
open Go.RowKit

/-- 32 bytes. -/
structure H32 where
  l : List UInt8
  len : l.length = 32
  deriving DecidableEq

/-- A byte as a value. -/
def u8 (b : UInt8) : Value := .int .u8 (b.toNat : Int)
theorem u8_inj {a b : UInt8} (h : u8 a = u8 b) : a = b := by
  simp only [u8, Value.int.injEq, true_and] at h
  exact UInt8.toNat_inj.1 (by omega)
theorem u8_one (b : UInt8) : (u8 b).oneCell' = true := rfl

/-- The cells of bytes. -/
def bcells (l : List UInt8) : Array Value := (l.map u8).toArray
@[simp] theorem size_bcells (l : List UInt8) : (bcells l).size = l.length := by simp [bcells]
theorem bcells_inj {a b : List UInt8} (h : bcells a = bcells b) : a = b := by
  have h' : a.map u8 = b.map u8 := by simpa [bcells] using congrArg Array.toList h
  exact (List.map_inj_right (fun _ _ => u8_inj)).1 h'
theorem getElem?_bcells (l : List UInt8) (i : Nat) : (bcells l)[i]? = l[i]?.map u8 := by simp [bcells]
@[simp, go_sem] theorem one_bcells (l : List UInt8) : allOne (bcells l) = true :=
  allOne_mem (by simp [bcells]; intro a _; exact u8_one a)
theorem extract_bcells (l : List UInt8) (a b : Nat) : (bcells l).extract a b = bcells ((l.drop a).take (b - a)) := by
  simp [bcells, List.map_drop, List.map_take]

def hcells (h : H32) : Array Value := bcells h.l
@[simp, go_sem] theorem size_hcells (h : H32) : (hcells h).size = 32 := by simp [hcells, h.len]
theorem hcells_inj {a b : H32} (h : hcells a = hcells b) : a = b := by
  cases a; cases b; simp only [H32.mk.injEq]; exact bcells_inj h
@[simp, go_sem] theorem one_hcells (h : H32) : allOne (hcells h) = true := one_bcells _

/-- Noughts. -/
def H32.zero : H32 := ⟨List.replicate 32 0, by simp⟩
instance : Inhabited H32 := ⟨H32.zero⟩

/-! ### Two rows of bytes -/
section
variable {P : Program} {T E : TypeId}

theorem run_part_byte (hE : P.underlying E = some (.int .u8)) (l : List UInt8) (i : Nat) (b : UInt8) (h : l[i]? = some b) (w : World) :
    (part E (bcells l) i).run P w = .ok (u8 b) w := by
  have ha : (isAgg E).run P w = .ok false w := by unfold isAgg; rw [Sem.run_bind, run_underlying hE w]; rfl
  simp [part, Sem.run_bind, ha, getElem?_bcells, h]

theorem run_equalIn_rowS (d n : Nat) (hT : P.underlying T = some (.array n E)) (hE : P.underlying E = some (.int .u8)) (hs : ∀ w, (Go.sizeOf E).run P w = .ok 1 w)
    (hq : ∀ (x y : Int) (w : World), (Op.equalIn d E (.int .u8 x) (.int .u8 y)).run P w = .ok (x == y) w)
    (a b : List UInt8) (ha : a.length = n) (hb : b.length = n) (w : World) :
    (Op.equalIn (d + 1) T (.agg (bcells a)) (.agg (bcells b))).run P w = .ok (decide (a = b)) w := by
  simp only [Op.equalIn, Sem.run_bind, run_underlying hT, Result.andThen_ok, hs, Nat.mul_one]
  simp only [Std.Legacy.Range.forIn_eq_forIn_range', Std.Legacy.Range.size, Nat.sub_zero, Nat.add_sub_cancel, Nat.div_one]
  have key : ∀ m k, k + m = n → a.take k = b.take k →
      ((forIn (List.range' k m) ((none, ()) : Option Bool × Unit) fun i (_ : Option Bool × Unit) => do
        let x ← part E (bcells a) i
        let y ← part E (bcells b) i
        let q ← Op.equalIn d E x y
        if (!q) = true then pure (ForInStep.done (some false, ())) else pure (ForInStep.yield (none, ())) : Sem (Option Bool × Unit))).run P w
        = .ok (if a = b then none else some false, ()) w := by
    intro m
    induction m with
    | zero =>
      intro k hk he
      have : a = b := by
        rw [← List.take_of_length_le (l := a) (i := k) (by omega), he, List.take_of_length_le (by omega)]
      simp [this]
    | succ m ih =>
      intro k hk he
      have h1 : a[k]? = some a[k] := List.getElem?_eq_getElem (by omega)
      have h2 : b[k]? = some b[k] := List.getElem?_eq_getElem (by omega)
      simp only [List.range'_succ, List.forIn_cons, Sem.run_bind, run_part_byte hE a k _ h1, run_part_byte hE b k _ h2, Result.andThen_ok, u8, hq]
      by_cases hab : a[k] = b[k]
      · simp only [hab, beq_self_eq_true, Bool.not_true, Bool.false_eq_true, if_false, Sem.run_pure, Result.andThen_ok]
        refine ih (k + 1) (by omega) ?_
        rw [List.take_succ_eq_append_getElem (by omega), List.take_succ_eq_append_getElem (by omega), he, hab]
      · have hn : ((a[k].toNat : Int) == (b[k].toNat : Int)) = false := by
          rw [beq_eq_false_iff_ne]; intro h; exact hab (UInt8.toNat_inj.1 (by omega))
        have hne : a ≠ b := fun h => hab (by subst h; rfl)
        simp [hn, hne]
  have h0 := key n 0 (by omega) rfl
  refine (congrArg (fun r => Result.andThen r _) h0).trans ?_
  by_cases hab : a = b <;> simp [hab]

theorem run_equalIn_bytes (d n : Nat) (hT : P.underlying T = some (.array n E)) (hE : P.underlying E = some (.int .u8)) (hs : ∀ w, (Go.sizeOf E).run P w = .ok 1 w)
    (a b : List UInt8) (ha : a.length = n) (hb : b.length = n) (w : World) :
    (Op.equalIn (d + 2) T (.agg (bcells a)) (.agg (bcells b))).run P w = .ok (decide (a = b)) w :=
  run_equalIn_rowS (d + 1) n hT hE hs (fun x y w => run_equalIn_int w d E _ _ _ _ hE) a b ha hb w

/-- '==' on two digests. -/
theorem run_eql_hash (hT : P.underlying T = some (.array 32 E)) (hE : P.underlying E = some (.int .u8)) (hs : ∀ w, (Go.sizeOf E).run P w = .ok 1 w) (a b : H32) (w : World) :
    (Op.equalIn 10000 T (.agg (hcells a)) (.agg (hcells b))).run P w = .ok (decide (a = b)) w := by
  have := run_equalIn_bytes (P := P) (T := T) (E := E) 9998 32 hT hE hs a.l b.l a.len b.len w
  have e : decide (a = b) = decide (a.l = b.l) := by cases a; cases b; simp
  rw [e]; exact this
end

end Go.Proofs.Ytdmhaajekmaadaa
