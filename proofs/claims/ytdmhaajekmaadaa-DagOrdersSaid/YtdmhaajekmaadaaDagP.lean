/- The head never sinks, and whoever is there lies at the floor or above: plain facts, no program. -/
import Derived.Test.YtdmhaajekmaadaaDagG
namespace Go.Proofs.Ytdmhaajekmaadaa

/-- The store behind some vertices. -/
def after (keep : Int) (vs : List V) : List V := vs.foldl (fun l x => insOf keep l x) []
/-- The head's depth; -1 where there is none. -/
def hdv (l : List V) : Int := match headOf l with | none => -1 | some h => h.depth
theorem after_snoc (keep : Int) (vs : List V) (v : V) : after keep (vs ++ [v]) = insOf keep (after keep vs) v := by simp [after]

theorem headIs_of {l : List V} (h : Apart l) {o : Option V} (hi : HeadIs l o) : headOf l = o := (headOf_is h).unique hi
theorem head_max {l : List V} (h : Apart l) {a : V} (e : headOf l = some a) : ∀ v ∈ l, v = a ∨ bet a v = true := by
  have := headOf_is h; rw [e] at this; exact this.2
theorem head_ge {l : List V} (h : Apart l) {a : V} (e : headOf l = some a) : ∀ v ∈ l, v.depth ≤ a.depth := by
  intro v hv
  rcases head_max h e v hv with rfl | hb
  · omega
  · rw [bet_iff] at hb; omega
theorem head_none {l : List V} (h : Apart l) (e : headOf l = none) : l = [] := by
  have := headOf_is h; rw [e] at this; exact this
theorem head_some {l : List V} (h : Apart l) {v : V} (hv : v ∈ l) : ∃ a, headOf l = some a := by
  cases e : headOf l with
  | none => rw [head_none h e] at hv; simp at hv
  | some a => exact ⟨a, rfl⟩
theorem floor_le {keep : Int} (hk : 0 ≤ keep) {l : List V} (hb : Bd l) (h : Apart l) {a : V} (e : headOf l = some a) : floorOf keep l ≤ a.depth ∧ floorOf keep l = max (a.depth - keep) 0 := by
  have := (hb a (headOf_mem h e)).1
  have hf : floorOf keep l = max (a.depth - keep) 0 := by unfold floorOf; rw [e]
  rw [hf]
  exact ⟨by omega, rfl⟩

theorem headOf_putIn {keep : Int} (hk : 0 ≤ keep) {l : List V} {v : V} (hm : Apart (l ++ [v])) (hb : Bd (l ++ [v])) : headOf (putIn keep l v) = headOf (l ++ [v]) := by
  obtain ⟨a, ha⟩ := head_some hm (v := v) (by simp)
  obtain ⟨h1, h2⟩ := floor_le hk hb hm ha
  rw [ha]
  refine headIs_of (hm.filter _) ⟨?_, ?_⟩
  · rw [List.mem_filter]
    exact ⟨headOf_mem hm ha, by simp; exact h1⟩
  · intro u hu
    exact head_max hm ha u (List.mem_filter.1 hu).1
theorem floorOf_putIn {keep : Int} (hk : 0 ≤ keep) {l : List V} {v : V} (hm : Apart (l ++ [v])) (hb : Bd (l ++ [v])) : floorOf keep (putIn keep l v) = floorOf keep (l ++ [v]) := by
  unfold floorOf; rw [headOf_putIn hk hm hb]

/-- Everybody lies at the floor or above. -/
def Fl (keep : Int) (l : List V) : Prop := ∀ x ∈ l, floorOf keep l ≤ x.depth

theorem insOf_fl {keep : Int} (hk : 0 ≤ keep) {l : List V} {v : V} (ha : Apart l) (hb : Bd l) (h : Fl keep l) : Fl keep (insOf keep l v) := by
  unfold insOf
  split
  · rename_i he
    obtain ⟨h1, h2, h3⟩ := check_zero he
    intro x hx
    rw [floorOf_putIn hk (apart_snoc ha h3) (bd_snoc hb h1 h2)]
    have := (List.mem_filter.1 hx).2
    simp at this; exact this
  · exact h
theorem hdv_bd {l : List V} (ha : Apart l) (hb : Bd l) {v : V} (hv : v ∈ l) : 0 ≤ hdv l := by
  obtain ⟨a, e⟩ := head_some ha hv
  unfold hdv; rw [e]; exact (hb a (headOf_mem ha e)).1
theorem hdv_range {l : List V} (ha : Apart l) (hb : Bd l) : -1 ≤ hdv l ∧ hdv l ≤ 4611686018427387903 := by
  unfold hdv
  cases e : headOf l with
  | none => simp
  | some a => have := hb a (headOf_mem ha e); simp only; omega
theorem hdv_mono {keep : Int} (hk : 0 ≤ keep) {l : List V} {v : V} (ha : Apart l) (hb : Bd l) : hdv l ≤ hdv (insOf keep l v) := by
  unfold insOf
  split
  · rename_i he
    obtain ⟨h1, h2, h3⟩ := check_zero he
    have hm := apart_snoc ha h3
    have hbm := bd_snoc hb h1 h2
    unfold hdv
    rw [headOf_putIn hk hm hbm]
    obtain ⟨a, e⟩ := head_some hm (v := v) (by simp)
    rw [e]
    have h0 := (hbm a (headOf_mem hm e)).1
    cases e' : headOf l with
    | none => simp only; omega
    | some b =>
      simp only
      exact head_ge hm e b (by simp [headOf_mem ha e'])
  · exact Int.le_refl _

theorem after_ok (keep : Int) (hk : 0 ≤ keep) : ∀ vs : List V, Apart (after keep vs) ∧ Bd (after keep vs) ∧ (after keep vs).length ≤ vs.length ∧ Fl keep (after keep vs) := by
  intro vs
  have : ∀ r : List V, Apart (after keep r.reverse) ∧ Bd (after keep r.reverse) ∧ (after keep r.reverse).length ≤ r.reverse.length ∧ Fl keep (after keep r.reverse) := by
    intro r
    induction r with
    | nil => exact ⟨List.Pairwise.nil, (fun v hv => by simp [after] at hv), by simp [after], (fun v hv => by simp [after] at hv)⟩
    | cons v r ih =>
      rw [List.reverse_cons, after_snoc]
      refine ⟨insOf_apart ih.1, insOf_bd ih.2.1, ?_, insOf_fl hk ih.1 ih.2.1 ih.2.2.2⟩
      have := insOf_length keep (after keep r.reverse) v
      have := ih.2.2.1
      simp at this ⊢; omega
  have := this vs.reverse
  simpa using this

end Go.Proofs.Ytdmhaajekmaadaa
