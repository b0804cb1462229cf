/- Regions that draw their order and hold one call that may write, all that comes ahead of it being read for it, all that comes behind it being read off it: walked once. For any program. No condition. -/
import Derived.Test.YtdmhaajekmaadaaKitG
namespace Go.Proofs.Ytdmhaajekmaadaa
open Go.RowKit

theorem count_set : ∀ (l : List Bool) (i : Nat), l[i]? = some false → (l.set i true).count false + 1 = l.count false
  | [], _, h => by simp at h
  | b :: r, 0, h => by
    simp at h; subst h
    simp
  | b :: r, i + 1, h => by
    simp at h
    have := count_set r i h
    simp only [List.set_cons_succ, List.count_cons]
    omega

/-- Does operation j wait for operation i? -/
def waits (md : Region.Mode) (L : List Oper) (j i : Nat) : Bool := ((L[j]?).map fun o => o.after.any fun e => Region.binds md e && e.on == i).getD false
theorem waits_spec {md : Region.Mode} {L : List Oper} {j i : Nat} (h : waits md L j i = true) : ∃ o, L[j]? = some o ∧ ∃ e ∈ o.after, Region.binds md e = true ∧ e.on = i := by
  unfold waits at h
  cases ho : L[j]? with
  | none => rw [ho] at h; simp at h
  | some o =>
    rw [ho] at h
    simp only [Option.map_some, Option.getD_some] at h
    obtain ⟨e, he, hb⟩ := Array.any_eq_true'.1 h
    simp only [Bool.and_eq_true, beq_iff_eq] at hb
    exact ⟨o, rfl, e, he, hb.1, hb.2⟩

/-- The first n operations wait for earlier ones alone, and so do their guards. -/
def headB (md : Region.Mode) (L : List Oper) (n : Nat) : Bool :=
  (List.range n).all fun i => ((L[i]?).map fun o => (o.after.all fun e => !Region.binds md e || decide (e.on < i)) && (match o.guard with | none => true | some (j, _) => decide (j < n))).getD false
/-- Whoever comes before the call is waited for, in the end by the call; whoever comes behind waits for it, in the end. -/
def sinksB (md : Region.Mode) (L : List Oper) (n : Nat) : Bool :=
  ((List.range n).all fun i => (List.range (n + 1)).any fun j => decide (i < j) && waits md L j i) &&
  ((List.range L.length).all fun t => decide (t ≤ n) || (List.range t).any fun j => decide (n ≤ j) && waits md L t j)

section
variable {P : Program} {L : List Oper} {n : Nat} {md : Region.Mode} {C : World → Prop}

/-- Whatever is listed, what it waits for is listed. -/
def closed (md : Region.Mode) (L : List Oper) (n : Nat) (listed : List Bool) : Prop :=
  ∀ j o, j < n → L[j]? = some o → listed[j]? = some true → ∀ e ∈ o.after, Region.binds md e = true → listed[e.on]? = some true

theorem tail_not_ready (hs : sinksB md L n = true) (hn : n < L.length) {listed : List Bool} (hsz : listed.length = n) (hcl : closed md L n listed) {g : Nat} (hg : n + g = L.length) :
    ∀ (d i : Nat), n - i = d → i < n → listed[i]? = some false → ∀ t, n ≤ t → t ∉ Region.ready md L.toArray (listed ++ List.replicate g false).toArray := by
  simp only [sinksB, Bool.and_eq_true] at hs
  have tailF : ∀ j, n ≤ j → j < L.length → ((listed ++ List.replicate g false).toArray).getD j false = false := by
    intro j h1 h2
    simp [Array.getD, List.getElem_append_right, hsz, h1]
  have headF : ∀ i, i < n → listed[i]? = some false → ((listed ++ List.replicate g false).toArray).getD i false = false := by
    intro i hi h
    have : (listed ++ List.replicate g false)[i]? = some false := by rw [List.getElem?_append_left (by omega)]; exact h
    simp [Array.getD_eq_getD_getElem?, this]
  intro d
  induction d using Nat.strongRecOn with
  | _ d ih =>
    intro i hd hi hun t ht hr
    obtain ⟨_, ot, hot, hall⟩ := mem_ready.1 hr
    have hot' : L[t]? = some ot := by simpa using hot
    have htl : t < L.length := (List.getElem?_eq_some_iff.1 hot').1
    by_cases htn : t = n
    · subst htn
      have h1 := List.all_eq_true.1 hs.1 i (List.mem_range.2 hi)
      obtain ⟨j, hj, hj2⟩ := List.any_eq_true.1 h1
      simp only [Bool.and_eq_true, decide_eq_true_eq] at hj2
      obtain ⟨oj, hoj, e, he, hb, hon⟩ := waits_spec hj2.2
      have hjl := List.mem_range.1 hj
      by_cases hjt : j = t
      · subst hjt
        obtain rfl : oj = ot := Option.some.inj (hoj.symm.trans hot')
        have h2 := hall e he hb
        rw [hon, headF i hi hun] at h2
        cases h2
      · have hjn : j < t := by omega
        cases hl : listed[j]? with
        | none => rw [List.getElem?_eq_none_iff] at hl; omega
        | some b =>
          cases b with
          | true =>
            have := hcl j oj hjn hoj hl e he hb
            rw [hon, hun] at this; cases this
          | false => exact ih (t - j) (by omega) j rfl hjn hl t (Nat.le_refl _) hr
    · have h1 := List.all_eq_true.1 hs.2 t (List.mem_range.2 htl)
      simp only [Bool.or_eq_true, decide_eq_true_eq] at h1
      rcases h1 with h1 | h1
      · omega
      · obtain ⟨j, hj, hj2⟩ := List.any_eq_true.1 h1
        simp only [Bool.and_eq_true, decide_eq_true_eq] at hj2
        obtain ⟨o', ho', e, he, hb, hon⟩ := waits_spec hj2.2
        obtain rfl : o' = ot := Option.some.inj (ho'.symm.trans hot')
        have h2 := hall e he hb
        rw [hon, tailF j hj2.1 (by have := List.mem_range.1 hj; omega)] at h2
        cases h2

theorem head_of {i : Nat} {o : Oper} (hh : headB md L n = true) (hi : i < n) (ho : L[i]? = some o) :
    (∀ e ∈ o.after, Region.binds md e = true → e.on < i) ∧ (∀ j b, o.guard = some (j, b) → j < n) := by
  have h1 := List.all_eq_true.1 hh i (List.mem_range.2 hi)
  rw [ho] at h1
  simp only [Option.map_some, Option.getD_some, Bool.and_eq_true] at h1
  refine ⟨fun e he hb => ?_, fun j b hg => ?_⟩
  · have := Array.all_eq_true_iff_forall_mem.1 h1.1 e he
    simpa [hb] using this
  · have := h1.2
    rw [hg] at this
    simpa using this

/-- The least one that isn't listed may come up. -/
theorem some_ready (hh : headB md L n = true) (hn : n ≤ L.length) {listed : List Bool} (hsz : listed.length = n) : ∀ i, i < n → listed[i]? = some false → Region.ready md (L.take n).toArray listed.toArray ≠ [] := by
  intro i
  induction i using Nat.strongRecOn with
  | _ i ih =>
    intro hi hun h0
    have ho : L[i]? = some L[i] := List.getElem?_eq_getElem (by omega)
    obtain ⟨h1, -⟩ := head_of hh hi ho
    by_cases hall : ∀ j, j < i → listed[j]? = some true
    · have : i ∈ Region.ready md (L.take n).toArray listed.toArray := by
        refine mem_ready.2 ⟨?_, L[i], ?_, fun e he hb => ?_⟩
        · simp [Array.getD_eq_getD_getElem?, hun]
        · simp [List.getElem?_take, hi, ho]
        · simp [Array.getD_eq_getD_getElem?, hall e.on (h1 e he hb)]
      rw [h0] at this
      cases this
    · have : ∃ j, j < i ∧ listed[j]? = some false := by
        apply Classical.byContradiction
        intro hno
        apply hall
        intro j hj
        cases hl : listed[j]? with
        | none => rw [List.getElem?_eq_none_iff] at hl; omega
        | some b =>
          cases b with
          | true => rfl
          | false => exact absurd ⟨j, hj, hl⟩ hno
      obtain ⟨j, hj, hl⟩ := this
      exact ih j hj (by omega) hl h0

theorem ready_same (hh : headB md L n = true) (hn : n ≤ L.length) {listed : List Bool} (hsz : listed.length = n) (g : Nat) {j : Nat} (hj : j < n) :
    j ∈ Region.ready md L.toArray (listed ++ List.replicate g false).toArray ↔ j ∈ Region.ready md (L.take n).toArray listed.toArray := by
  have ho : L[j]? = some L[j] := List.getElem?_eq_getElem (by omega)
  obtain ⟨h1, -⟩ := head_of hh hj ho
  have e1 : ∀ d, ((listed ++ List.replicate g false).toArray).getD j d = listed.toArray.getD j d := fun d => by
    simp only [Array.getD_eq_getD_getElem?, List.getElem?_toArray]
    rw [List.getElem?_append_left (by omega)]
  have e2 : ∀ k, k < n → ((listed ++ List.replicate g false).toArray).getD k false = listed.toArray.getD k false := fun k hk => by
    simp only [Array.getD_eq_getD_getElem?, List.getElem?_toArray]
    rw [List.getElem?_append_left (by omega)]
  rw [mem_ready, mem_ready, e1]
  constructor
  · rintro ⟨h2, o, ho', h3⟩
    have ho2 : L[j]? = some o := by simpa using ho'
    obtain rfl : L[j] = o := Option.some.inj (ho.symm.trans ho2)
    refine ⟨h2, L[j], by simp [List.getElem?_take, hj, ho], fun e he hb => ?_⟩
    rw [← e2 e.on (by have := h1 e he hb; omega)]; exact h3 e he hb
  · rintro ⟨h2, o, ho', h3⟩
    have ho2 : L[j]? = some o := by simpa [List.getElem?_take, hj] using ho'
    obtain rfl : L[j] = o := Option.some.inj (ho.symm.trans ho2)
    refine ⟨h2, L[j], by simp, fun e he hb => ?_⟩
    rw [e2 e.on (by have := h1 e he hb; omega)]; exact h3 e he hb

theorem yielded_same {tmps : Array Value} {j : Nat} (hj : j < n) : yielded (L.take n).toArray tmps j = yielded L.toArray tmps j := by
  unfold yielded
  simp [List.getElem?_take, hj]
theorem wanted_same (hh : headB md L n = true) {i : Nat} {o : Oper} (hi : i < n) (ho : L[i]? = some o) (tmps : Array Value) : Region.wanted o (yielded (L.take n).toArray tmps) = Region.wanted o (yielded L.toArray tmps) := by
  obtain ⟨-, h2⟩ := head_of hh hi ho
  unfold Region.wanted
  cases hg : o.guard with
  | none => rfl
  | some p =>
    obtain ⟨j, b⟩ := p
    simp only [yielded_same (h2 j b hg)]

theorem wpAny_lift (hh : headB md L n = true) (hs : sinksB md L n = true) (hn : n < L.length) {g : Nat} (hg : n + g = L.length) {Q : Act → Prop} {Q' : Exit → Act → World → Prop}
    (hQ : ∀ a w, C w → Q a → wpAny P md L.toArray Q' g (List.replicate n true ++ List.replicate g false).toArray a w) :
    ∀ (fuel : Nat) (listed : List Bool) (a : Act) (w : World), listed.length = n → closed md L n listed → listed.count false = fuel → C w →
      wpAnyQ P md (L.take n).toArray C Q fuel listed.toArray a → wpAny P md L.toArray Q' (fuel + g) (listed ++ List.replicate g false).toArray a w
  | 0, listed, a, w, hsz, _, hc, hC, h => by
    have hall : listed = List.replicate n true := by
      rw [List.eq_replicate_iff]
      refine ⟨hsz, fun b hb => ?_⟩
      cases b with
      | true => rfl
      | false => exact absurd hb (List.count_eq_zero.1 hc)
    rw [hall, Nat.zero_add]
    exact hQ a w hC h.2
  | fuel + 1, listed, a, w, hsz, hcl, hc, hC, h => by
    have hmem : false ∈ listed := List.count_pos_iff.1 (by omega)
    obtain ⟨i0, hi0, hun0⟩ := List.mem_iff_getElem.1 hmem
    have hun0' : listed[i0]? = some false := by rw [List.getElem?_eq_getElem hi0, hun0]
    have hne := some_ready (md := md) hh (by omega) hsz i0 (by omega) hun0'
    rw [show fuel + 1 + g = (fuel + g) + 1 by omega]
    refine ⟨fun h0 => ?_, fun i hi => ?_⟩
    · obtain ⟨j, hj⟩ := List.exists_mem_of_ne_nil _ hne
      have hjn : j < n := by
        have := (mem_ready.1 hj).2
        obtain ⟨o, ho, _⟩ := this
        have := (Array.getElem?_eq_some_iff.1 ho).1
        simp at this; omega
      have := (ready_same hh (by omega) hsz g hjn).2 hj
      rw [h0] at this; cases this
    · have hin : i < n := by
        rcases Nat.lt_or_ge i n with h' | h'
        · exact h'
        · exact absurd hi (tail_not_ready hs hn hsz hcl hg _ i0 rfl (by omega) hun0' i h')
      have hiB := (ready_same hh (by omega) hsz g hin).1 hi
      have ho : L[i]? = some L[i] := List.getElem?_eq_getElem (by omega)
      obtain ⟨hun, o', ho', hall⟩ := mem_ready.1 hiB
      obtain rfl : L[i] = o' := by
        have : L[i]? = some o' := by simpa [List.getElem?_take, hin] using ho'
        exact Option.some.inj (ho.symm.trans this)
      have hunl : listed[i]? = some false := by
        rw [List.getElem?_eq_getElem (by omega)]
        simp [Array.getD_eq_getD_getElem?, show i < listed.length by omega] at hun
        rw [hun]
      have h2 := h.2 i hiB
      have hset : listed.toArray.setIfInBounds i true = (listed.set i true).toArray := by simp
      have hset2 : ((listed ++ List.replicate g false).toArray).setIfInBounds i true = (listed.set i true ++ List.replicate g false).toArray := by
        simp [List.set_append_left, show i < listed.length by omega]
      rw [hset2]
      rw [hset] at h2
      have hcl2 : closed md L n (listed.set i true) := by
        intro j o hj hoj hl e he hb
        by_cases hij : i = j
        · subst hij
          obtain rfl : L[i] = o := Option.some.inj (ho.symm.trans hoj)
          have h3 := hall e he hb
          obtain ⟨h4, -⟩ := head_of hh hj hoj
          have h5 := h4 e he hb
          rw [List.getElem?_set_ne (by omega)]
          simp [Array.getD_eq_getD_getElem?] at h3
          cases hl2 : listed[e.on]? with
          | none => rw [hl2] at h3; cases h3
          | some b => rw [hl2] at h3; simp at h3; rw [h3]
        · rw [List.getElem?_set_ne hij] at hl
          have := hcl j o hj hoj hl e he hb
          rw [List.getElem?_set]
          split
          · simp; omega
          · exact this
      have hc2 : (listed.set i true).count false = fuel := by have := count_set listed i hunl; omega
      have IH := fun (a' : Act) (w' : World) (hC' : C w') (hK : wpAnyQ P md (L.take n).toArray C Q fuel (listed.set i true).toArray a') => wpAny_lift hh hs hn hg hQ fuel (listed.set i true) a' w' (by simp [hsz]) hcl2 hc2 hC' hK
      unfold qOp at h2
      unfold wpOp
      have hA : L.toArray[i]? = some L[i] := by simp
      rw [ho'] at h2
      rw [hA]
      simp only [wanted_same hh hin ho] at h2
      simp only
      split
      · rename_i hw
        simp only [hw, if_true] at h2
        exact .inl (Oper.wp_of_quiet hC IH h2)
      · rename_i hw
        simp only [hw] at h2
        exact IH _ _ hC h2

/-- The whole check, for the kernel to reckon. -/
def midB (md : Region.Mode) (L : List Oper) (n : Nat) : Bool :=
  decide (n < L.length) && headB md L n && sinksB md L n && Region.noSelect L.toArray && Region.noSelect (L.take n).toArray && Region.lexFrom md (L.take n).toArray n 0 (Array.replicate n false) &&
    decide (Region.ready md L.toArray (List.replicate n true ++ List.replicate (L.length - n) false).toArray = [n]) &&
    Region.lexFrom md L.toArray (L.length - (n + 1)) (n + 1) ((List.replicate n true ++ List.replicate (L.length - n) false).toArray.setIfInBounds n true)

theorem wp_region_mid {id : Nat} {Q : Exit → Act → World → Prop} {a : Act} {w : World} (n : Nat) (o : Oper) (ho : L[n]? = some o) (hgd : o.guard = none) (hm : P.follows .mixedOrders = true) (hB : midB .any L n = true) (hC : C { w with drawn := w.drawn + 1 })
    (h : wpQuiet P (L.take n).toArray C (fun a' => ∀ w', C w' → ∀ K : Act → World → Prop, (∀ a'' w'', wpQuiet P L.toArray (fun w3 => w3 = w'') (fun a3 => Q .normal a3 w'') (L.drop (n + 1)) a'' → K a'' w'') → o.wp P a' w' K Q) (L.take n) a) :
    (Code.region id L.toArray true).wp P Q a w := by
  simp only [midB, Bool.and_eq_true, decide_eq_true_eq] at hB
  obtain ⟨⟨⟨⟨⟨⟨⟨hn, hh⟩, hs⟩, hsel⟩, hsel1⟩, hlex1⟩, hready⟩, hlex2⟩ := hB
  have hg : n + (L.length - n) = L.length := by omega
  have hlen : (L.take n).length = n := by simp; omega
  have hq := wpAnyQ_lex (C := C) (md := .any) hsel1 (L.take n) 0 (Array.replicate n false) a (by intro j; simp) (by rw [hlen]; exact hlex1) h
  rw [hlen] at hq
  have hlift := wpAny_lift (P := P) (C := C) hh hs hn hg (Q' := Q) (Q := fun a' => ∀ w', C w' → ∀ K : Act → World → Prop, (∀ a'' w'', wpQuiet P L.toArray (fun w3 => w3 = w'') (fun a3 => Q .normal a3 w'') (L.drop (n + 1)) a'' → K a'' w'') → o.wp P a' w' K Q) ?_
    n (List.replicate n false) a { w with drawn := w.drawn + 1 } (by simp) (fun j o hj _ hl => by rw [List.getElem?_replicate_of_lt hj] at hl; cases hl) (by simp) hC (by simpa using hq)
  · refine wp_region_any hm ?_
    have e1 : (List.replicate n false ++ List.replicate (L.length - n) false).toArray = Array.replicate L.toArray.size false := by
      rw [List.replicate_append_replicate, hg]; simp
    rw [e1, hg] at hlift
    simpa using hlift
  · intro a' w' hC' hK
    have hg1 : L.length - n = (L.length - (n + 1)) + 1 := by omega
    have key : ∀ f, f = (L.length - (n + 1)) + 1 → wpAny P .any L.toArray Q f (List.replicate n true ++ List.replicate (L.length - n) false).toArray a' w' := by
      intro f hf
      subst hf
      refine ⟨fun h0 => (by rw [hready] at h0; cases h0), fun i hi => ?_⟩
      rw [hready] at hi
      have hin : i = n := by simpa using hi
      subst hin
      unfold wpOp
      have ho' : L.toArray[i]? = some o := by simpa using ho
      rw [ho']
      have hw : Region.wanted o (yielded L.toArray a'.tmps) = true := by unfold Region.wanted; rw [hgd]
      simp only [hw, if_true]
      refine .inl (hK w' hC' _ fun a'' w'' hq2 => ?_)
      have := wpAnyQ_lex (C := fun w3 => w3 = w'') (Q := fun a3 => Q .normal a3 w'') (md := .any) hsel (L.drop (i + 1)) (i + 1) _ a'' (by intro j; simp) (by rw [List.length_drop]; exact hlex2) hq2
      rw [List.length_drop] at this
      exact wpAny_of_quiet (C := fun w3 => w3 = w'') (Q := fun a3 => Q .normal a3 w'') (fun a3 w3 hw3 hq3 => by subst hw3; exact hq3) _ _ _ _ rfl this
    exact key _ hg1

end
end Go.Proofs.Ytdmhaajekmaadaa
