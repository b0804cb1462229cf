/- Two orders of the same vertices, none refused, leave the same vertices: plain facts, no program. -/
import Derived.Test.YtdmhaajekmaadaaDagP
namespace Go.Proofs.Ytdmhaajekmaadaa

/-- None of these was refused. -/
def AllIn (keep : Int) (vs : List V) : Prop := ∀ k v, vs[k]? = some v → checkOf keep (after keep (vs.take k)) v = 0
/-- The greatest depth; -1 where there is nobody. -/
def mx (vs : List V) : Int := vs.foldl (fun m x => max m x.depth) (-1)
theorem mx_snoc (vs : List V) (v : V) : mx (vs ++ [v]) = max (mx vs) v.depth := by simp [mx]

theorem AllIn.init {keep : Int} {vs : List V} {v : V} (h : AllIn keep (vs ++ [v])) : AllIn keep vs ∧ checkOf keep (after keep vs) v = 0 := by
  constructor
  · intro k u hu
    have hk := (List.getElem?_eq_some_iff.1 hu).1
    have := h k u (by rw [List.getElem?_append_left hk]; exact hu)
    rwa [List.take_append_of_le_length (by omega)] at this
  · have := h vs.length v (by simp)
    simpa using this

theorem AllIn.nil (keep : Int) : AllIn keep [] := fun k v h => by simp at h
theorem AllIn.snoc {keep : Int} {vs : List V} {v : V} (h : AllIn keep vs) (h2 : checkOf keep (after keep vs) v = 0) : AllIn keep (vs ++ [v]) := by
  intro k u hu
  by_cases hk : k < vs.length
  · rw [List.getElem?_append_left hk] at hu
    rw [List.take_append_of_le_length (by omega)]
    exact h k u hu
  · have hkl : k = vs.length := by
      have := (List.getElem?_eq_some_iff.1 hu).1
      simp at this; omega
    subst hkl
    simp at hu
    subst hu
    simpa using h2

theorem floorOf_hdv {keep : Int} (hk : 0 ≤ keep) (l : List V) : floorOf keep l = max (hdv l - keep) 0 := by
  unfold floorOf hdv
  cases headOf l with
  | none => simp; omega
  | some a => rfl
theorem hdv_snoc {l : List V} {v : V} (h : Apart (l ++ [v])) (hb : Bd (l ++ [v])) : hdv (l ++ [v]) = max (hdv l) v.depth := by
  have ha : Apart l := (List.pairwise_append.1 h).1
  obtain ⟨a, e⟩ := head_some h (v := v) (by simp)
  have hv := (hb v (by simp)).1
  have hge := head_ge h e
  have hm := headOf_mem h e
  unfold hdv
  rw [e]
  cases e' : headOf l with
  | none =>
    rw [head_none ha e'] at hm
    have : a = v := by simpa using hm
    subst this
    simp only; omega
  | some b =>
    have h1 := hge b (by simp [headOf_mem ha e'])
    have h2 := hge v (by simp)
    simp only
    rcases List.mem_append.1 hm with hm | hm
    · have := head_ge ha e' a hm
      omega
    · have : a = v := by simpa using hm
      subst this
      omega

theorem after_all {keep : Int} (hk : 0 ≤ keep) : ∀ vs : List V, AllIn keep vs → hdv (after keep vs) = mx vs ∧ after keep vs = vs.filter fun x => !decide (x.depth < max (mx vs - keep) 0) := by
  intro vs
  have : ∀ r : List V, AllIn keep r.reverse → hdv (after keep r.reverse) = mx r.reverse ∧ after keep r.reverse = r.reverse.filter fun x => !decide (x.depth < max (mx r.reverse - keep) 0) := by
    intro r
    induction r with
    | nil => intro _; exact ⟨rfl, rfl⟩
    | cons v r ih =>
      rw [List.reverse_cons]
      intro h
      obtain ⟨h1, h2⟩ := h.init
      obtain ⟨i1, i2⟩ := ih h1
      obtain ⟨hap, hbd, -, -⟩ := after_ok keep hk r.reverse
      obtain ⟨d1, d2, d3⟩ := check_zero h2
      have ha := apart_snoc hap d3
      have hb := bd_snoc hbd d1 d2
      have he : insOf keep (after keep r.reverse) v = putIn keep (after keep r.reverse) v := by unfold insOf; rw [if_pos h2]
      have hh : hdv (after keep r.reverse ++ [v]) = mx (r.reverse ++ [v]) := by rw [hdv_snoc ha hb, i1, mx_snoc]
      rw [after_snoc, he]
      refine ⟨?_, ?_⟩
      · rw [← hh]
        unfold hdv
        rw [headOf_putIn hk ha hb]
      · show (after keep r.reverse ++ [v]).filter (fun x => !decide (x.depth < floorOf keep (after keep r.reverse ++ [v]))) = _
        rw [floorOf_hdv hk, hh, List.filter_append, List.filter_append]
        congr 1
        conv => lhs; rw [i2]
        rw [List.filter_filter]
        apply List.filter_congr
        intro x _
        rw [mx_snoc]
        by_cases c : x.depth < max (max (mx r.reverse) v.depth - keep) 0
        · simp [c]
        · have : ¬ x.depth < max (mx r.reverse - keep) 0 := by omega
          simp [c, this]
  have := this vs.reverse
  simpa using this

theorem mx_perm {vs ms : List V} (h : vs.Perm ms) : mx vs = mx ms := by
  unfold mx
  exact h.foldl_eq' (fun x _ y _ z => by omega) (-1)

theorem after_perm {keep : Int} (hk : 0 ≤ keep) {vs ms : List V} (h : vs.Perm ms) (h1 : AllIn keep vs) (h2 : AllIn keep ms) : (after keep vs).Perm (after keep ms) := by
  rw [(after_all hk vs h1).2, (after_all hk ms h2).2, mx_perm h]
  exact h.filter _

/-- What the law asks of the two stores. -/
theorem orders_same {keep : Int} (hk : 0 ≤ keep) {vs ms : List V} (h : vs.Perm ms) (h1 : AllIn keep vs) (h2 : AllIn keep ms) :
    headOf (after keep vs) = headOf (after keep ms) ∧ (after keep vs).length = (after keep ms).length ∧ ∀ v ∈ after keep vs, findV v.id (after keep ms) = some v := by
  have hp := after_perm hk h h1 h2
  have a1 := (after_ok keep hk vs).1
  have a2 := (after_ok keep hk ms).1
  exact ⟨headOf_perm a1 hp, hp.length_eq, fun v hv => findV_of a2 (hp.mem_iff.1 hv) rfl⟩

/-- Two places' elements exchanged: the same elements. -/
theorem swap_perm {α : Type} (l : List α) (i j : Nat) (a b : α) (hi : l[i]? = some a) (hj : l[j]? = some b) : ((l.set i b).set j a).Perm l := by
  by_cases e : i = j
  · subst e
    rw [hi] at hj
    cases hj
    have hlt := (List.getElem?_eq_some_iff.1 hi).1
    rw [List.set_set]
    have : l.set i a = l := by
      apply List.ext_getElem?
      intro k
      rw [List.getElem?_set]
      split
      · rename_i h; subst h; exact hi.symm
      · rfl
    rw [this]
  · have hil := (List.getElem?_eq_some_iff.1 hi).1
    have hjl := (List.getElem?_eq_some_iff.1 hj).1
    have h1 : (l.set i b).Perm (b :: l.eraseIdx i) := by
      rw [List.set_eq_take_append_cons_drop, if_pos hil, List.eraseIdx_eq_take_drop_succ]
      exact List.perm_middle
    have h2 : ∀ m : List α, m[j]? = some b → j < m.length → (a :: (m.eraseIdx j)).Perm (m.set j a) := by
      intro m _ hm
      rw [List.set_eq_take_append_cons_drop, if_pos hm, List.eraseIdx_eq_take_drop_succ]
      exact List.perm_middle.symm
    have hj' : (l.set i b)[j]? = some b := by rw [List.getElem?_set_ne e]; exact hj
    have h3 := (h2 (l.set i b) hj' (by simpa using hjl)).symm
    refine h3.trans ?_
    have h4 : (b :: (l.set i b).eraseIdx j).Perm (l.set i b) := perm_eraseIdx _ _ _ hj'
    have h5 : (a :: l.eraseIdx i).Perm l := perm_eraseIdx _ _ _ hi
    -- a :: (set i b) erased at j, with b ahead, against b :: a :: l erased at i
    have h6 : (b :: a :: (l.set i b).eraseIdx j).Perm (b :: l) := by
      refine (List.Perm.swap a b _).trans ?_
      refine (List.Perm.cons a (h4.trans h1)).trans ?_
      refine (List.Perm.swap b a _).trans ?_
      exact List.Perm.cons b h5
    exact List.Perm.cons_inv h6

end Go.Proofs.Ytdmhaajekmaadaa
