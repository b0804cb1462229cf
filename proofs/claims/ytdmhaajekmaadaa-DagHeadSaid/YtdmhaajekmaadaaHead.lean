/- The statement DagHead is proved as given, for every input: behind whatever vertices come in the store's head is the deepest, of those the least, lies at the floor or above, and never sinks; the law answers true and leaves its arguments as they read. No condition. -/
import Derived.Test.YtdmhaajekmaadaaRows
import Derived.Test.YtdmhaajekmaadaaDagR
namespace Go.Proofs.Ytdmhaajekmaadaa
open Go.ChangeShapes Go.WideShapes Go.ChangeAt Go.RowKit

set_option maxRecDepth 100000 in
theorem dagHead_lifted (os : Os) (started : os.Started) (H : Type) (enc : TypeId × Value → H) :
    ReturnsInHanded {} Try.checked os 3 .any (Rows.dagHeadSpec.pre6 enc Try.prog Try.f3 Rows.dagHeadRow.domain false) (Rows.dagHeadSpec.post enc Try.prog Try.f3 false true false false) := by
  refine returnsInHanded_of_change (C := Try.checked) Try.own started (by kernel_rfl) Try.func3
    (ChangeSpec.witness6 (enc := enc) (C := Try.checked) false ⟨#[], #[.int .u8 0, .slice none 0 0], []⟩ 8 (by kernel_rfl) (by kernel_rfl) (by kernel_rfl) (by kernel_rfl)) ?_
  intro W base args ds gs before hval0 hW hcnd _
  have hval : ∀ (j : Nat) t v, Try.f3.params[j]? = some t → args[j]? = some v → Value.okWide Try.prog W .any base t v := hval0
  have hW' := hW
  obtain ⟨p, q, hA0, hV, rfl, hfz, hnd⟩ := hW
  have hA : DataW.TrodAll enc Try.prog W 0 (fun _ => true) true Try.f3.params.toList args.toList ds p := hA0
  obtain ⟨rfl, rfl⟩ := trodVars_none hV
  simp only [List.append_nil] at hW'
  have hA1 := hA
  rw [Try.params3] at hA hval
  obtain ⟨v0, v1, d0, d1, p0, p1, rfl, rfl, rfl, h0, h1⟩ := trodAll_two hA
  obtain ⟨n, rfl, rfl, rfl, wf⟩ := open_int Try.underlying5 (hval 0 5 v0 rfl rfl) h0
  obtain ⟨a, cap, vs, rfl, hvs⟩ := open_vslice (hval 1 22 v1 rfl rfl) h1
  clear hA0 hval0
  obtain ⟨k, rfl, hk⟩ : ∃ k : Nat, n = (k : Int) ∧ k < 256 := by
    simp only [Lit.wf, Bool.and_eq_true, decide_eq_true_eq] at wf
    refine ⟨n.toNat, ?_, ?_⟩ <;> simp [IntKind.min, IntKind.max, IntKind.bits, IntKind.signed] at wf <;> omega
  refine (DagHead_any k hk a cap vs W hvs).mono fun e W' ⟨he, hb⟩ => ?_
  subst he
  exact ⟨_, rfl, law_post Try.laidOut (by
    intro t ht
    have : t = 5 ∨ t = 22 := by rw [Try.params3] at ht; simpa using ht
    rcases this with rfl | rfl
    · exact ⟨by kernel_rfl, of_decide_eq_true (by kernel_rfl)⟩
    · exact ⟨by kernel_rfl, of_decide_eq_true (by kernel_rfl)⟩) ⟨4, by kernel_rfl, Try.underlying4⟩ rfl rfl hW' hA1 hb⟩

theorem dagHead_holds : Rows.DagHeadSaid :=
  OpenClaim.holds_of_wide 3 Try.f3 rfl rfl rfl rfl rfl rfl rfl ⟨rfl, rfl, rfl, rfl, rfl⟩ rfl rfl rfl rfl rfl (by kernel_rfl) Try.func3 (by kernel_rfl)
    (of_decide_eq_true (by kernel_rfl)) (by unfold Func.isWrapper; first | (rw [if_pos (by decide +kernel)]; kernel_rfl) | (rw [if_neg (by decide +kernel)]; exact ⟨rfl, rfl⟩))
    (fun os started H enc _ => dagHead_lifted os started H enc)

#print axioms dagHead_holds
end Go.Proofs.Ytdmhaajekmaadaa
