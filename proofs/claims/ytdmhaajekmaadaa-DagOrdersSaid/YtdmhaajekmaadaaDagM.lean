/- The order of vertices, and the head: plain facts, no program. -/
import Derived.Test.YtdmhaajekmaadaaDagA
namespace Go.Proofs.Ytdmhaajekmaadaa

theorem cmpB_swap : ∀ (l m : List UInt8), cmpB m l = - cmpB l m
  | [], [] => rfl
  | [], _ :: _ => rfl
  | _ :: _, [] => rfl
  | a :: l, b :: m => by
    unfold cmpB
    by_cases h1 : a.toNat < b.toNat
    · rw [if_pos h1, if_neg (by omega), if_pos h1]; rfl
    · by_cases h2 : b.toNat < a.toNat
      · rw [if_pos h2, if_neg h1, if_pos h2]
      · rw [if_neg h1, if_neg h2, if_neg h2, if_neg h1]; exact cmpB_swap l m
theorem cmpB_self : ∀ l : List UInt8, cmpB l l = 0
  | [] => rfl
  | a :: l => by unfold cmpB; rw [if_neg (by omega), if_neg (by omega)]; exact cmpB_self l
theorem cmpB_zero : ∀ (l m : List UInt8), l.length = m.length → cmpB l m = 0 → l = m
  | [], [], _, _ => rfl
  | [], _ :: _, h, _ => by simp at h
  | _ :: _, [], h, _ => by simp at h
  | a :: l, b :: m, h, h0 => by
    unfold cmpB at h0
    by_cases h1 : a.toNat < b.toNat
    · rw [if_pos h1] at h0; omega
    · by_cases h2 : b.toNat < a.toNat
      · rw [if_neg h1, if_pos h2] at h0; omega
      · rw [if_neg h1, if_neg h2] at h0
        have : a = b := UInt8.toNat_inj.1 (by omega)
        rw [this, cmpB_zero l m (by simpa using h) h0]
theorem cmpB_range (l m : List UInt8) : cmpB l m = -1 ∨ cmpB l m = 0 ∨ cmpB l m = 1 := by
  induction l generalizing m with
  | nil => exact .inr (.inl rfl)
  | cons a l ih =>
    cases m with
    | nil => exact .inr (.inl rfl)
    | cons b m =>
      unfold cmpB
      split
      · exact .inl rfl
      · split
        · exact .inr (.inr rfl)
        · exact ih m
theorem cmpB_trans : ∀ (l m n : List UInt8), l.length = m.length → m.length = n.length → cmpB l m < 0 → cmpB m n < 0 → cmpB l n < 0
  | [], _, _, _, _, h, _ => by simp [cmpB] at h
  | _ :: _, [], _, h, _, _, _ => by simp at h
  | _ :: _, _ :: _, [], _, h, _, _ => by simp at h
  | a :: l, b :: m, c :: n, h1, h2, h3, h4 => by
    unfold cmpB at h3 h4 ⊢
    by_cases hab : a.toNat < b.toNat
    · by_cases hbc : b.toNat < c.toNat
      · rw [if_pos (by omega)]; omega
      · by_cases hcb : c.toNat < b.toNat
        · rw [if_neg hbc, if_pos hcb] at h4; omega
        · rw [if_pos (by omega)]; omega
    · by_cases hba : b.toNat < a.toNat
      · rw [if_neg hab, if_pos hba] at h3; omega
      · rw [if_neg hab, if_neg hba] at h3
        by_cases hbc : b.toNat < c.toNat
        · rw [if_pos (by omega)]; omega
        · by_cases hcb : c.toNat < b.toNat
          · rw [if_neg hbc, if_pos hcb] at h4; omega
          · rw [if_neg hbc, if_neg hcb] at h4
            rw [if_neg (by omega), if_neg (by omega)]
            exact cmpB_trans l m n (by simpa using h1) (by simpa using h2) h3 h4

theorem hcmp_swap (a b : H32) : hcmp b a = - hcmp a b := cmpB_swap _ _
theorem hcmp_self (a : H32) : hcmp a a = 0 := cmpB_self _
theorem hcmp_zero {a b : H32} (h : hcmp a b = 0) : a = b := by
  have := cmpB_zero a.l b.l (by rw [a.len, b.len]) h
  cases a; cases b; simpa using this
theorem hcmp_trans {a b c : H32} (h1 : hcmp a b < 0) (h2 : hcmp b c < 0) : hcmp a c < 0 :=
  cmpB_trans a.l b.l c.l (by rw [a.len, b.len]) (by rw [b.len, c.len]) h1 h2
theorem hcmp_range (a b : H32) : hcmp a b = -1 ∨ hcmp a b = 0 ∨ hcmp a b = 1 := cmpB_range _ _

/-- Does v go before b as the head? -/
def bet (v b : V) : Bool := decide (b.depth < v.depth) || (decide (v.depth = b.depth) && decide (hcmp v.id b.id < 0))
theorem bet_iff (v b : V) : bet v b = true ↔ b.depth < v.depth ∨ v.depth = b.depth ∧ hcmp v.id b.id < 0 := by simp [bet]
theorem bet_irrefl (v : V) : bet v v = false := by simp [bet, hcmp_self]
theorem bet_trans {a b c : V} (h1 : bet a b = true) (h2 : bet b c = true) : bet a c = true := by
  rw [bet_iff] at *
  rcases h1 with h1 | ⟨h1, h1'⟩ <;> rcases h2 with h2 | ⟨h2, h2'⟩
  · left; omega
  · left; omega
  · left; omega
  · right; exact ⟨by omega, hcmp_trans h1' h2'⟩
theorem bet_asymm {a b : V} (h1 : bet a b = true) : bet b a = false := by
  cases h : bet b a with
  | false => rfl
  | true => have := bet_trans h1 h; rw [bet_irrefl] at this; cases this
theorem bet_total {a b : V} (h : a.id ≠ b.id) : bet a b = true ∨ bet b a = true := by
  rw [bet_iff, bet_iff]
  have := hcmp_swap a.id b.id
  have hz : hcmp a.id b.id ≠ 0 := fun e => h (hcmp_zero e)
  omega

def stepH (o : Option V) (v : V) : Option V :=
  match o with
  | none => some v
  | some b => if bet v b then some v else some b
/-- The head. -/
def headOf (l : List V) : Option V := l.foldl stepH none
theorem headOf_snoc (l : List V) (v : V) : headOf (l ++ [v]) = stepH (headOf l) v := by simp [headOf]

/-- o is the head of l. -/
def HeadIs (l : List V) : Option V → Prop
  | none => l = []
  | some h => h ∈ l ∧ ∀ v ∈ l, v = h ∨ bet h v = true

def Apart (l : List V) : Prop := l.Pairwise fun a b => a.id ≠ b.id
theorem Apart.perm {l m : List V} (h : Apart l) (hp : l.Perm m) : Apart m := hp.pairwise h (fun h => h.symm)
theorem Apart.inj {l : List V} (h : Apart l) {a b : V} (ha : a ∈ l) (hb : b ∈ l) (e : a.id = b.id) : a = b := by
  induction l with
  | nil => simp at ha
  | cons x l ih =>
    obtain ⟨h1, h2⟩ := List.pairwise_cons.1 h
    rcases List.mem_cons.1 ha with rfl | ha' <;> rcases List.mem_cons.1 hb with rfl | hb'
    · rfl
    · exact absurd e (h1 b hb')
    · exact absurd e.symm (h1 a ha')
    · exact ih h2 ha' hb'

theorem headOf_is {l : List V} (h : Apart l) : HeadIs l (headOf l) := by
  have : ∀ r : List V, Apart r.reverse → HeadIs r.reverse (headOf r.reverse) := by
    intro r
    induction r with
    | nil => intro _; rfl
    | cons v r ih =>
      intro ha
      rw [List.reverse_cons] at ha ⊢
      have ha' := List.pairwise_append.1 ha
      have := ih ha'.1
      rw [headOf_snoc]
      cases ho : headOf r.reverse with
      | none =>
        rw [ho] at this
        have : r.reverse = [] := this
        simp [this, stepH, HeadIs]
      | some b =>
        rw [ho] at this
        obtain ⟨hb, hall⟩ := this
        have hne : b.id ≠ v.id := ha'.2.2 b hb v (by simp)
        unfold stepH
        by_cases hv : bet v b = true
        · simp only [hv, if_true]
          refine ⟨by simp, fun u hu => ?_⟩
          rcases List.mem_append.1 hu with hu | hu
          · rcases hall u hu with rfl | h
            · exact .inr hv
            · exact .inr (bet_trans hv h)
          · exact .inl (by simpa using hu)
        · simp only [hv, if_false]
          refine ⟨by simp [hb], fun u hu => ?_⟩
          rcases List.mem_append.1 hu with hu | hu
          · exact hall u hu
          · have : u = v := by simpa using hu
            subst this
            rcases bet_total hne with h | h
            · exact .inr h
            · exact absurd h hv
  have := this l.reverse (by simpa using h)
  simpa using this

theorem HeadIs.unique {l : List V} {a b : Option V} (ha : HeadIs l a) (hb : HeadIs l b) : a = b := by
  cases a with
  | none => cases b with
    | none => rfl
    | some y => rw [show l = [] from ha] at hb; exact absurd hb.1 (by simp)
  | some x => cases b with
    | none => rw [show l = [] from hb] at ha; exact absurd ha.1 (by simp)
    | some y =>
      rcases ha.2 y hb.1 with h | h
      · rw [h]
      · rcases hb.2 x ha.1 with h' | h'
        · rw [h']
        · rw [bet_asymm h] at h'; cases h'
theorem HeadIs.perm {l m : List V} {o : Option V} (h : HeadIs l o) (hp : l.Perm m) : HeadIs m o := by
  cases o with
  | none => rw [show l = [] from h] at hp; exact (List.nil_perm.1 hp)
  | some x => exact ⟨hp.mem_iff.1 h.1, fun v hv => h.2 v (hp.mem_iff.2 hv)⟩
theorem headOf_perm {l m : List V} (h : Apart l) (hp : l.Perm m) : headOf l = headOf m :=
  ((headOf_is h).perm hp).unique (headOf_is (h.perm hp))

/-- Who has an Id. -/
def findV (id : H32) (l : List V) : Option V := l.find? fun v => decide (v.id = id)
theorem get?_find (id : H32) : ∀ l : List V, get? id (l.map fun v => (v.id, Go.Value.agg (vcells v))) = (findV id l).map fun v => Go.Value.agg (vcells v)
  | [] => rfl
  | v :: r => by
    rw [List.map_cons]
    unfold get? findV
    rw [List.find?_cons]
    by_cases h : id = v.id
    · simp [h]
    · rw [if_neg h]
      have : decide (v.id = id) = false := by simpa using fun e => h e.symm
      rw [this]; exact get?_find id r
theorem findV_some {id : H32} {l : List V} {v : V} (h : findV id l = some v) : v ∈ l ∧ v.id = id := by
  refine ⟨List.mem_of_find?_eq_some h, ?_⟩
  have := List.find?_some h
  simpa using this
theorem findV_none {id : H32} {l : List V} (h : findV id l = none) : ∀ v ∈ l, v.id ≠ id := by
  intro v hv
  have := List.find?_eq_none.1 h v hv
  simpa using this
theorem findV_of {id : H32} {l : List V} {v : V} (hap : Apart l) (hv : v ∈ l) (e : v.id = id) : findV id l = some v := by
  cases h : findV id l with
  | none => exact absurd e (findV_none h v hv)
  | some u =>
    obtain ⟨hu, eu⟩ := findV_some h
    rw [hap.inj hu hv (eu.trans e.symm)]

/-- The floor of a store that keeps so many depths. -/
def floorOf (keep : Int) (l : List V) : Int :=
  match headOf l with
  | none => 0
  | some h => max (h.depth - keep) 0

end Go.Proofs.Ytdmhaajekmaadaa
