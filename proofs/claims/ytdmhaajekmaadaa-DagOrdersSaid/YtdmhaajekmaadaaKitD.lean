/- The keys that the program uses: digests and texts. No condition. -/
import Derived.Test.YtdmhaajekmaadaaKitC
namespace Go.Proofs.Ytdmhaajekmaadaa
open Go.RowKit

/-- A digest as a value. -/
def hval (h : H32) : Value := .agg (hcells h)

section
variable {P : Program} {T E : TypeId}

theorem run_checkKey_int (hE : P.underlying E = some (.int .u8)) (d : Nat) (e : Bool) (x : Int) (w : World) : (Instr.checkKey e (d + 1) E (.int .u8 x)).run P w = .ok () w := by
  simp [Instr.checkKey, run_underlying hE]

theorem run_checkKey_bytes (e : Bool) (d n : Nat) (hT : P.underlying T = some (.array n E)) (hE : P.underlying E = some (.int .u8)) (hs : ∀ w, (Go.sizeOf E).run P w = .ok 1 w)
    (hq : ∀ (x : Int) (w : World), (Instr.checkKey e d E (.int .u8 x)).run P w = .ok () w) (a : List UInt8) (ha : a.length = n) (w : World) :
    (Instr.checkKey e (d + 1) T (.agg (bcells a))).run P w = .ok () w := by
  simp only [Instr.checkKey, Sem.run_bind, run_underlying hT, Result.andThen_ok, hs, Nat.mul_one]
  simp only [Std.Legacy.Range.forIn_eq_forIn_range', Std.Legacy.Range.size, Nat.sub_zero, Nat.add_sub_cancel, Nat.div_one]
  have key : ∀ m k, k + m = n →
      ((forIn (List.range' k m) () fun i (_ : Unit) => do
        let s ← Go.sizeOf E
        let x ← part E (bcells a) (i * s)
        Instr.checkKey e d E x
        pure (ForInStep.yield ()) : Sem Unit)).run P w = .ok () w := by
    intro m
    induction m with
    | zero => intro k _; simp
    | succ m ih =>
      intro k hk
      have h1 : a[k]? = some a[k] := List.getElem?_eq_getElem (by omega)
      simp only [List.range'_succ, List.forIn_cons, Sem.run_bind, hs, Result.andThen_ok, Nat.mul_one, run_part_byte hE a k _ h1, u8, hq, Sem.run_pure]
      exact ih (k + 1) (by omega)
  have h0 := key n 0 (by omega)
  refine (congrArg (fun r => Result.andThen r _) h0).trans ?_
  simp

theorem run_findAsking_of {α : Type} [DecidableEq α] {enc : α → Value} (heq : ∀ (a b : α) (w : World), (Op.equal T (enc a) (enc b)).run P w = .ok (decide (a = b)) w) (a : α) (w : World) :
    ∀ (es : List MapEntry) (l : List (α × Value)) (i : Nat), Ents enc es l → (Instr.findAsking T (enc a) es i).run P w = .ok (at? a l i) w := by
  intro es
  induction es with
  | nil =>
    intro l i h
    obtain rfl : l = [] := by unfold Ents at h; simpa using h.symm
    simp [Instr.findAsking, at?]
  | cons e es ih =>
    intro l i h
    unfold Ents at h
    cases l with
    | nil => simp at h
    | cons p l =>
      simp only [List.map_cons, List.cons.injEq, Prod.mk.injEq] at h
      obtain ⟨⟨h1, h2⟩, h3⟩ := h
      simp only [Instr.findAsking, Sem.run_bind, h1, heq, Result.andThen_ok, at?]
      by_cases hab : a = p.1
      · simp [hab, h2]
      · simp only [hab, decide_false, Bool.false_eq_true, if_false]
        exact ih l (i + 1) h3

theorem run_findKey_of {α : Type} [DecidableEq α] {enc : α → Value} {D : TypeDesc} (hT : P.underlying T = some D) (hno : ∀ a b, Instr.sameNow D (enc a) (enc b) = none)
    (heq : ∀ (a b : α) (w : World), (Op.equal T (enc a) (enc b)).run P w = .ok (decide (a = b)) w) (w : World) (a : α) (es : List MapEntry) (l : List (α × Value)) (h : Ents enc es l) :
    (Instr.findKey T (enc a) es).run P w = .ok (at? a l 0) w := by
  unfold Instr.findKey
  rw [Sem.run_bind, run_underlying hT, Result.andThen_ok]
  cases es with
  | nil =>
    obtain rfl : l = [] := by unfold Ents at h; simpa using h.symm
    simp [Instr.findNow, at?]
  | cons e es =>
    have hk : ∃ b, e.key = enc b := by
      unfold Ents at h
      cases l with
      | nil => simp at h
      | cons p l =>
        simp only [List.map_cons, List.cons.injEq, Prod.mk.injEq] at h
        exact ⟨p.1, h.1.1⟩
    obtain ⟨b, hb⟩ := hk
    simp only [Instr.findNow, hb, hno]
    exact run_findAsking_of heq a w _ _ _ h

theorem sameBits_u8s (d : Nat) (l : List UInt8) : Instr.sameBits (d + 2) (.agg (bcells l)) (.agg (bcells l)) = true := by
  have : ∀ m : List UInt8, ((m.map u8).zip (m.map u8)).all (fun x => Instr.sameBits (d + 1) x.1 x.2) = true := by
    intro m
    induction m with
    | nil => rfl
    | cons b m ih => simp only [List.map_cons, List.zip_cons_cons, List.all_cons, ih, Bool.and_true]; simp [u8, Instr.sameBits]
  simp only [Instr.sameBits, bcells, List.size_toArray, beq_self_eq_true, Bool.true_and]
  exact this l

theorem beq_bytes (a b : ByteArray) : (a == b) = decide (a = b) := by
  rw [beq_toListBytes, ByteArray.toList_eq, ByteArray.toList_eq]
  obtain ⟨⟨x⟩⟩ := a
  obtain ⟨⟨y⟩⟩ := b
  by_cases h : x = y <;> simp [h]

theorem run_checkKey_string (hT : P.underlying T = some .string) (d : Nat) (e : Bool) (x : ByteArray) (w : World) : (Instr.checkKey e (d + 1) T (.string x)).run P w = .ok () w := by
  simp [Instr.checkKey, run_underlying hT]

/-- Digests as keys. -/
theorem keyE_hash (hT : P.underlying T = some (.array 32 E)) (hE : P.underlying E = some (.int .u8)) (hs : ∀ w, (Go.sizeOf E).run P w = .ok 1 w) : KeyE P T hval where
  inj a b h := by unfold hval at h; exact hcells_inj (by simpa using h)
  check w e a := run_checkKey_bytes (P := P) (T := T) (E := E) e 9999 32 hT hE hs (fun x w => run_checkKey_int hE 9998 e x w) a.l a.len w
  find w a es l h := run_findKey_of (D := .array 32 E) hT (fun a b => rfl) (fun a b w => run_eql_hash hT hE hs a b w) w a es l h
  same a := sameBits_u8s 9998 a.l

/-- Texts as keys. -/
theorem keyE_string (hT : P.underlying T = some .string) : KeyE P T Value.string where
  inj a b h := by simpa using h
  check w e a := run_checkKey_string hT 9999 e a w
  find w a es l h := by
    unfold Instr.findKey
    rw [Sem.run_bind, run_underlying hT, Result.andThen_ok]
    have : ∀ (es : List MapEntry) (l : List (ByteArray × Value)) (i : Nat), Ents Value.string es l → Instr.findNow .string (.string a) es i = some (at? a l i) := by
      intro es
      induction es with
      | nil =>
        intro l i h
        obtain rfl : l = [] := by unfold Ents at h; simpa using h.symm
        rfl
      | cons e es ih =>
        intro l i h
        unfold Ents at h
        cases l with
        | nil => simp at h
        | cons p l =>
          simp only [List.map_cons, List.cons.injEq, Prod.mk.injEq] at h
          obtain ⟨⟨h1, h2⟩, h3⟩ := h
          have hb : (a == p.1) = decide (a = p.1) := beq_bytes a p.1
          simp only [Instr.findNow, h1, Instr.sameNow, hb, at?]
          by_cases hab : a = p.1
          · simp [hab, h2]
          · simp only [hab, decide_false, if_false]
            exact ih l (i + 1) h3
    rw [this es l 0 h]
    rfl
  same a := by simp [Instr.sameBits, beq_bytes]
end

end Go.Proofs.Ytdmhaajekmaadaa
