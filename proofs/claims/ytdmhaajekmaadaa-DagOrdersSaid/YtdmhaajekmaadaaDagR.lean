/- Vertices that came in: a slice of the document's vertices, as its datum reads, is a row of vertices in memory. No condition. -/
import Derived.Test.YtdmhaajekmaadaaDagI
import Derived.Test.YtdmhaajekmaadaaKitR
namespace Go.Proofs.Ytdmhaajekmaadaa
open Go.ChangeShapes Go.WideShapes Go.ChangeAt Go.RowKit

section
variable {H : Type} {enc : TypeId × Value → H} {w : World} {base : Nat} {spare : Nat → Bool} {held : Bool}

theorem open_vertex {fuel : Nat} {cs : List Value} {x : DataW H × List MemPlace} (h : DataW.trod enc Try.prog w base spare held fuel 34 cs = some x) : ∃ v : V, cs = (vcells v).toList := by
  obtain ⟨xs, n, -, -, hl, hlen, hf⟩ := DataW.trod_struct Try.underlying34 h
  have hc : Try.prog.cellsOf 34 = 66 := by kernel_rfl
  have hcH : Try.prog.cellsOf 32 = 32 := by kernel_rfl
  have hcI : Try.prog.cellsOf 3 = 1 := by kernel_rfl
  have hcB : Try.prog.cellsOf 5 = 1 := by kernel_rfl
  rw [hc] at hl
  have hxs : xs.length = 4 := hlen
  have get : ∀ i, (hi : i < 4) → xs[i]? = some (xs[i]'(by omega)) := fun i hi => List.getElem?_eq_getElem (by omega)
  have h0 := (hf 0 _ rfl).trans (get 0 (by omega))
  have h1 := (hf 1 _ rfl).trans (get 1 (by omega))
  have h2 := (hf 2 _ rfl).trans (get 2 (by omega))
  have h3 := (hf 3 _ rfl).trans (get 3 (by omega))
  change DataW.trod enc Try.prog w base spare held n 32 ((cs.drop 0).take (Try.prog.cellsOf 32)) = _ at h0
  change DataW.trod enc Try.prog w base spare held n 32 ((cs.drop 32).take (Try.prog.cellsOf 32)) = _ at h1
  change DataW.trod enc Try.prog w base spare held n 3 ((cs.drop 64).take (Try.prog.cellsOf 3)) = _ at h2
  change DataW.trod enc Try.prog w base spare held n 3 ((cs.drop 65).take (Try.prog.cellsOf 3)) = _ at h3
  rw [hcH] at h0 h1
  rw [hcI] at h2 h3
  obtain ⟨a, ha⟩ := open_hash Try.underlying32 Try.underlying5 hcB hcH h0
  obtain ⟨b, hb⟩ := open_hash Try.underlying32 Try.underlying5 hcB hcH h1
  obtain ⟨d, hd, -, -⟩ := DataW.trod_int Try.underlying3 h2
  obtain ⟨e, he, -, -⟩ := DataW.trod_int Try.underlying3 h3
  refine ⟨⟨a, b, d, e⟩, ?_⟩
  have e1 : cs = cs.take 32 ++ ((cs.drop 32).take 32 ++ ((cs.drop 64).take 1 ++ (cs.drop 65).take 1)) := by
    apply List.ext_getElem?
    intro i
    simp only [List.getElem?_append, List.length_take, List.length_drop, hl, List.getElem?_take, List.getElem?_drop]
    by_cases c1 : i < 32
    · simp [c1]
    · by_cases c2 : i < 64
      · simp [c1, c2, show i - 32 < 32 by omega, show 32 + (i - 32) = i by omega]
      · by_cases c3 : i = 64
        · subst c3; simp
        · by_cases c4 : i = 65
          · subst c4; simp
          · rw [List.getElem?_eq_none (by omega)]
            simp [c1, show ¬ (i - 32 < 32) by omega, show ¬ (i - 32 - 32 < 1) by omega, show ¬ (i - 32 - 32 - 1 < 1) by omega]
  rw [e1]
  simp only [List.drop_zero] at ha
  rw [ha, hb, hd, he]
  simp [vcells]

theorem open_vslice {v : Value} {d : DataW H} {ps : List MemPlace} {b0 : Nat} (hval : Value.okWide Try.prog w .any b0 22 v) (h : DataW.Trod enc Try.prog w base spare held 22 v d ps) :
    ∃ (p : Option Addr) (cap : Nat) (vs : List V), v = .slice p vs.length cap ∧ ∀ (k : Nat) (x : V), vs[k]? = some x → ∃ g o, p = some ⟨g, o, none⟩ ∧ g < w.heap.size ∧ rowAt w g (o + k * 66) 66 = some (vcells x) := by
  obtain ⟨a, len, cap, rfl⟩ := okWide_slice Try.underlying22 hval
  obtain ⟨fuel, hf⟩ := h
  have hc : Try.prog.cellsOf 34 = 66 := by kernel_rfl
  rcases Go.Deep.open_slice Try.underlying22 hf with ⟨h1, -⟩ | ⟨a', len', cap', m, n, D, Pl, h1, -, hle, -, hm, -, hi⟩
  · simp [Value.cells] at h1
    obtain ⟨rfl, rfl, rfl⟩ := h1
    exact ⟨none, 0, [], rfl, fun k x hx => by simp at hx⟩
  · simp [Value.cells] at h1
    obtain ⟨rfl, rfl, rfl⟩ := h1
    have hlm : len ≤ m := by rw [hm]; split <;> omega
    have hel : ∀ i, i < len → ∃ x : V, ∃ g o, a' = ⟨g, o, none⟩ ∧ g < w.heap.size ∧ rowAt w g (o + i * 66) 66 = some (vcells x) := by
      intro i hi'
      obtain ⟨cs', h2, h3⟩ := hi i (by omega)
      obtain ⟨x, rfl⟩ := open_vertex h3
      rw [hc] at h2
      obtain ⟨-, -, hat⟩ := World.cells?_some h2
      obtain ⟨g, o, spot⟩ := a'
      have h1' : w.cell? (((⟨g, o, spot⟩ : Addr).add (i * 66)).add 1) = (vcells x).toList[1]? := hat 1 (by omega)
      have h0' := hat 0 (by omega)
      have hspot : spot = none := by
        by_cases hi0 : i = 0
        · subst hi0
          have : ((⟨g, o, spot⟩ : Addr).add (0 * 66)).add 0 = ⟨g, o, spot⟩ := by simp [Addr.add]
          rw [this] at h0'
          have hs : w.cell? ⟨g, o, spot⟩ ≠ none := by
            rw [h0']; simp
          unfold World.cell? at hs
          cases spot with
          | none => rfl
          | some s => exact absurd (by split <;> simp) hs
        · have h00 := hi 0 (by omega)
          obtain ⟨cs0, h20, h30⟩ := h00
          obtain ⟨x0, rfl⟩ := open_vertex h30
          rw [hc] at h20
          obtain ⟨-, -, hat0⟩ := World.cells?_some h20
          have h0'' := hat0 0 (by omega)
          have : ((⟨g, o, spot⟩ : Addr).add (0 * 66)).add 0 = ⟨g, o, spot⟩ := by simp [Addr.add]
          rw [this] at h0''
          have hs : w.cell? ⟨g, o, spot⟩ ≠ none := by
            rw [h0'']; simp
          unfold World.cell? at hs
          cases spot with
          | none => rfl
          | some s => exact absurd (by split <;> simp) hs
      subst hspot
      have hrow : rowAt w g (o + i * 66) 66 = some (vcells x) := by
        refine rowAt_of_cells (by omega) (by simp) fun j hj => ?_
        have := hat j hj
        rw [Addr.add_mid, Addr.add_mid] at this
        rw [this]
        simp [hj]
      refine ⟨x, g, o, rfl, ?_, hrow⟩
      obtain ⟨c, t, fr, hb, _⟩ := rowAt_some hrow
      exact (Array.getElem?_eq_some_iff.1 hb).1
    have hvs : ∃ vs : List V, vs.length = len ∧ ∀ (k : Nat) (x : V), vs[k]? = some x → ∃ g o, a' = ⟨g, o, none⟩ ∧ g < w.heap.size ∧ rowAt w g (o + k * 66) 66 = some (vcells x) := by
      refine ⟨(List.range len).map fun i => if hi' : i < len then (hel i hi').choose else V.zero, by simp, fun k x hx => ?_⟩
      have hk : k < len := by
        by_cases hk : k < len
        · exact hk
        · rw [List.getElem?_eq_none (by simp; omega)] at hx; cases hx
      simp [hk] at hx
      rw [← hx]
      exact (hel k hk).choose_spec
    obtain ⟨vs, hvl, hvs⟩ := hvs
    refine ⟨some a', cap, vs, by rw [hvl], fun k x hx => ?_⟩
    obtain ⟨g, o, rfl, h2, h3⟩ := hvs k x hx
    exact ⟨g, o, rfl, h2, h3⟩
end

theorem Try.own : ownKnob Try.prog.godebug = none := by kernel_rfl
theorem Try.laidOut : laidOutB Try.prog = true := by kernel_rfl

end Go.Proofs.Ytdmhaajekmaadaa
