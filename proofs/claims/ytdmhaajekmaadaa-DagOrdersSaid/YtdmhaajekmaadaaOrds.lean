/- The statement DagOrders is proved as given, for every input: the same vertices in another order make the same store, if none is refused; the law answers true and leaves its arguments as they read. No condition. -/
import Derived.Test.YtdmhaajekmaadaaRows
import Derived.Test.YtdmhaajekmaadaaDagR
import Derived.Test.YtdmhaajekmaadaaDagT
namespace Go.Proofs.Ytdmhaajekmaadaa
open Go.ChangeShapes Go.WideShapes Go.ChangeAt Go.RowKit

section
variable {H : Type} {enc : TypeId × Value → H} {w : World} {base : Nat} {spare : Nat → Bool} {held : Bool}
theorem slice_none {T E : TypeId} (hT : Try.prog.underlying T = some (.slice E)) {len cap : Nat} {d : DataW H} {ps : List MemPlace} (h : DataW.Trod enc Try.prog w base spare held T (.slice none len cap) d ps) : len = 0 ∧ cap = 0 := by
  obtain ⟨fuel, hf⟩ := h
  rcases Go.Deep.open_slice hT hf with ⟨h1, -⟩ | ⟨a', len', cap', m, n, D, Pl, h1, -⟩
  · simp [Value.cells] at h1; exact h1
  · simp [Value.cells] at h1
theorem cell_spot {w : World} {a : Addr} {v : Value} (h : w.cell? a = some v) : a = ⟨a.block, a.off, none⟩ ∧ a.block < w.heap.size := by
  obtain ⟨g, o, spot⟩ := a
  have hs : w.cell? ⟨g, o, spot⟩ ≠ none := by rw [h]; simp
  unfold World.cell? at hs
  cases spot with
  | none =>
    refine ⟨rfl, ?_⟩
    simp only at hs
    cases hb : w.heap[g]? with
    | none => simp [hb] at hs
    | some x => exact (Array.getElem?_eq_some_iff.1 hb).1
  | some s => exact absurd (by split <;> simp) hs
theorem open_bslice {v : Value} {d : DataW H} {ps : List MemPlace} {b0 : Nat} (hval : Value.okWide Try.prog w .any b0 42 v) (h : DataW.Trod enc Try.prog w base spare held 42 v d ps) :
    ∃ (p : Option Addr) (cap : Nat) (ts : List UInt8), v = .slice p ts.length cap ∧ ∀ (k : Nat) (b : UInt8), ts[k]? = some b → ∃ g o, p = some ⟨g, o, none⟩ ∧ g < w.heap.size ∧ w.cell? ⟨g, o + k, none⟩ = some (u8 b) := by
  obtain ⟨a, len, cap, rfl⟩ := okWide_slice Try.underlying42 hval
  obtain ⟨fuel, hf⟩ := h
  have hc : Try.prog.cellsOf 5 = 1 := by kernel_rfl
  rcases Go.Deep.open_slice1 Try.underlying42 hc hf with ⟨h1, -⟩ | ⟨a', len', cap', m, n, U, D, Pl, h1, -, hle, -, hm, -, hi⟩
  · simp [Value.cells] at h1
    obtain ⟨rfl, rfl, rfl⟩ := h1
    exact ⟨none, 0, [], rfl, fun k x hx => by simp at hx⟩
  · simp [Value.cells] at h1
    obtain ⟨rfl, rfl, rfl⟩ := h1
    have hlm : len ≤ m := by rw [hm]; split <;> omega
    have hel : ∀ i, i < len → ∃ b : UInt8, ∃ g o, a' = ⟨g, o, none⟩ ∧ g < w.heap.size ∧ w.cell? ⟨g, o + i, none⟩ = some (u8 b) := by
      intro i hi'
      obtain ⟨h2, h3⟩ := hi i (by omega)
      obtain ⟨k, hk, -, hw⟩ := DataW.trod_int Try.underlying5 h3
      simp at hk
      obtain ⟨e1, e2⟩ := cell_spot (hi 0 (by omega)).1
      obtain ⟨g, o, spot⟩ := a'
      have hsp : spot = none := by
        have := congrArg Addr.spot e1
        simpa [Addr.add] using this
      subst hsp
      refine ⟨UInt8.ofNat k.toNat, g, o, rfl, by simpa [Addr.add] using e2, ?_⟩
      rw [Addr.add_mid] at h2
      rw [h2, hk]
      simp only [Lit.wf, Bool.and_eq_true, decide_eq_true_eq] at hw
      have h3 : 0 ≤ k ∧ k ≤ 255 := by
        have := hw
        simp [IntKind.min, IntKind.max, IntKind.bits, IntKind.signed] at this
        omega
      simp only [u8, Option.some.injEq, Value.int.injEq, true_and]
      rw [UInt8.toNat_ofNat']
      omega
    refine ⟨some a', cap, (List.range len).map fun i => if hi' : i < len then (hel i hi').choose else 0, by simp, fun k x hx => ?_⟩
    have hk : k < len := by
      by_cases hk : k < len
      · exact hk
      · rw [List.getElem?_eq_none (by simp; omega)] at hx; cases hx
    simp [hk] at hx
    rw [← hx]
    obtain ⟨g, o, e1, e2, e3⟩ := (hel k hk).choose_spec
    exact ⟨g, o, by rw [e1], e2, e3⟩
end

set_option maxRecDepth 100000 in
theorem dagOrders_lifted (os : Os) (started : os.Started) (H : Type) (enc : TypeId × Value → H) :
    ReturnsInHanded {} Try.checked os 4 .any (Rows.dagOrdersSpec.pre6 enc Try.prog Try.f4 Rows.dagOrdersRow.domain false) (Rows.dagOrdersSpec.post enc Try.prog Try.f4 false true false false) := by
  refine returnsInHanded_of_change (C := Try.checked) Try.own started (by kernel_rfl) Try.func4
    (ChangeSpec.witness6 (enc := enc) (C := Try.checked) false ⟨#[], #[.int .u8 0, .slice none 0 0, .slice none 0 0], []⟩ 8 (by kernel_rfl) (by kernel_rfl) (by kernel_rfl) (by kernel_rfl)) ?_
  intro W base args ds gs before hval0 hW hcnd _
  have hval : ∀ (j : Nat) t v, Try.f4.params[j]? = some t → args[j]? = some v → Value.okWide Try.prog W .any base t v := hval0
  have hW' := hW
  obtain ⟨p, q, hA0, hV, rfl, hfz, hnd⟩ := hW
  have hA : DataW.TrodAll enc Try.prog W 0 (fun _ => true) true Try.f4.params.toList args.toList ds p := hA0
  obtain ⟨rfl, rfl⟩ := trodVars_none hV
  simp only [List.append_nil] at hW'
  have hA1 := hA
  rw [Try.params4] at hA hval
  obtain ⟨v0, v1, v2, d0, d1, d2, p0, p1, p2, rfl, rfl, rfl, h0, h1, h2⟩ := trodAll_three hA
  obtain ⟨n, rfl, rfl, rfl, wf⟩ := open_int Try.underlying5 (hval 0 5 v0 rfl rfl) h0
  obtain ⟨a, cap, vs, rfl, hvs⟩ := open_vslice (hval 1 22 v1 rfl rfl) h1
  obtain ⟨a2, cap2, ts, rfl, hts⟩ := open_bslice (hval 2 42 v2 rfl rfl) h2
  have hnil : a = none → cap = 0 ∧ vs = [] := by
    rintro rfl
    obtain ⟨e1, e2⟩ := slice_none Try.underlying22 h1
    exact ⟨e2, List.eq_nil_of_length_eq_zero e1⟩
  clear hA0 hval0
  obtain ⟨k, rfl, hk⟩ : ∃ k : Nat, n = (k : Int) ∧ k < 256 := by
    simp only [Lit.wf, Bool.and_eq_true, decide_eq_true_eq] at wf
    refine ⟨n.toNat, ?_, ?_⟩ <;> simp [IntKind.min, IntKind.max, IntKind.bits, IntKind.signed] at wf <;> omega
  refine (DagOrders_any k hk a cap vs a2 cap2 ts W hvs hnil hts).mono fun e W' ⟨he, hb⟩ => ?_
  subst he
  exact ⟨_, rfl, law_post Try.laidOut (by
    intro t ht
    have : t = 5 ∨ t = 22 ∨ t = 42 := by rw [Try.params4] at ht; simpa using ht
    rcases this with rfl | rfl | rfl
    · exact ⟨by kernel_rfl, of_decide_eq_true (by kernel_rfl)⟩
    · exact ⟨by kernel_rfl, of_decide_eq_true (by kernel_rfl)⟩
    · exact ⟨by kernel_rfl, of_decide_eq_true (by kernel_rfl)⟩) ⟨4, by kernel_rfl, Try.underlying4⟩ rfl rfl hW' hA1 hb⟩

theorem dagOrders_holds : Rows.DagOrdersSaid :=
  OpenClaim.holds_of_wide 4 Try.f4 rfl rfl rfl rfl rfl rfl rfl ⟨rfl, rfl, rfl, rfl, rfl⟩ rfl rfl rfl rfl rfl (by kernel_rfl) Try.func4 (by kernel_rfl)
    (of_decide_eq_true (by kernel_rfl)) (by unfold Func.isWrapper; first | (rw [if_pos (by decide +kernel)]; kernel_rfl) | (rw [if_neg (by decide +kernel)]; exact ⟨rfl, rfl⟩))
    (fun os started H enc _ => dagOrders_lifted os started H enc)

#print axioms dagOrders_holds
end Go.Proofs.Ytdmhaajekmaadaa
