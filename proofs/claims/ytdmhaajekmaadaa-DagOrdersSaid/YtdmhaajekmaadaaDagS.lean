/- DagOrders: what its walk wants besides: vertices held against each other; a copy of the vertices that came in; two of them exchanged. No condition. -/
import Derived.Test.YtdmhaajekmaadaaDagI
import Derived.Test.YtdmhaajekmaadaaDagQ
namespace Go.Proofs.Ytdmhaajekmaadaa
open Go.RowKit Go.Shelf

theorem run_part_v (a : V) (w : World) : (part 32 (vcells a) 0).run Try.prog w = .ok (.agg (hcells a.id)) w ∧ (part 32 (vcells a) 32).run Try.prog w = .ok (.agg (hcells a.parent)) w ∧
    (part 3 (vcells a) 64).run Try.prog w = .ok (.int .i64 a.depth) w ∧ (part 3 (vcells a) 65).run Try.prog w = .ok (.int .i64 a.data) w := by
  refine ⟨?_, ?_, ?_, ?_⟩
  · simp [part, Sem.run_bind, Try.isAgg32, Try.sizeOf32, Result.andThen]
  · simp [part, Sem.run_bind, Try.isAgg32, Try.sizeOf32, Result.andThen]
  · simp [part, Sem.run_bind, Try.isAgg3, Result.andThen]
  · simp [part, Sem.run_bind, Try.isAgg3, Result.andThen]
theorem run_eq_int (d : Nat) (x y : Int) (w : World) : (Op.equalIn (d + 1) 3 (.int .i64 x) (.int .i64 y)).run Try.prog w = .ok (x == y) w := by
  simp [Op.equalIn, Sem.run_bind, run_underlying Try.underlying3, Result.andThen]
theorem run_eq_byte (d : Nat) (x y : Int) (w : World) : (Op.equalIn (d + 1) 5 (.int .u8 x) (.int .u8 y)).run Try.prog w = .ok (x == y) w := by
  simp [Op.equalIn, Sem.run_bind, run_underlying Try.underlying5, Result.andThen]
theorem run_eq_h (d : Nat) (x y : H32) (w : World) : (Op.equalIn (d + 1 + 1) 32 (.agg (hcells x)) (.agg (hcells y))).run Try.prog w = .ok (decide (x = y)) w := by
  have := run_equalIn_rowS (d + 1) 32 Try.underlying32 Try.underlying5 Try.sizeOf5 (run_eq_byte d) x.l y.l x.len y.len w
  have e : decide (x = y) = decide (x.l = y.l) := by cases x; cases y; simp
  rw [e]; exact this
theorem eqV (a b : V) (w : World) : (Op.equalIn 10000 35 (.agg (vcells a)) (.agg (vcells b))).run Try.prog w = .ok (decide (a = b)) w := by
  have pa := run_part_v a
  have pb := run_part_v b
  have e1 := run_eq_h 9997
  have e2 := run_eq_int 9998
  have hd : decide (a = b) = decide (a.id = b.id ∧ a.parent = b.parent ∧ a.depth = b.depth ∧ a.data = b.data) := by
    cases a; cases b; simp
  rw [hd]
  unfold Op.equalIn
  simp only [Sem.run_bind, run_underlying Try.underlying35, Result.andThen_ok]
  by_cases h1 : a.id = b.id
  · by_cases h2 : a.parent = b.parent
    · by_cases h3 : a.depth = b.depth
      · by_cases h4 : a.data = b.data
        · simp [Sem.run_bind, pa, pb, e1, e2, Result.andThen, h1, h2, h3, h4]
        · simp [Sem.run_bind, pa, pb, e1, e2, Result.andThen, h1, h2, h3, h4]
      · simp [Sem.run_bind, pa, pb, e1, e2, Result.andThen, h1, h2, h3]
    · simp [Sem.run_bind, pa, pb, e1, e2, Result.andThen, h1, h2]
  · simp [Sem.run_bind, pa, pb, e1, e2, Result.andThen, h1]
@[go_sem ↓] theorem neqV_self (a : V) (w : World) : (binOp .neq 35 (.agg (vcells a)) (.agg (vcells a))).run Try.prog w = .ok (.bool false) w := by
  rw [run_neq_struct, eqV]; simp [Result.andThen]

@[go_sem ↓] theorem bsR0 (n : Nat) (ps : Array (Nat × Value)) : Instr.buildSlice 22 n ps = bsRow 22 n ps := rfl
@[go_sem] theorem bsRn (w : World) : (bsRow 22 0 #[]).run Try.prog w = .ok (.slice (some ⟨w.heap.size, 0, none⟩) 0 0) (w.alloc (.cells #[] 34)) := by kernel_rfl

theorem elemR : ElemInfo Try.prog 34 66 80 := elemInfo_of (z := .agg (vcells V.zero)) (by kernel_rfl) (by simp [Value.cells])

/-- Two of a row's elements: one is overwritten. -/
theorem ownsRow_splice {α : Type} {enc : α → Array Value} {k : Nat} (hk : ∀ v, (enc v).size = k) (k0 : 0 < k) {w : World} {base : Nat} {e : TypeId} {g n cap : Nat} {l : List α} (h : w.ownsRow base e k (.slice (some ⟨g, 0, none⟩) n cap) n (flat enc l)) (x : Nat) (hx : x < l.length) (u : α) :
    (splice w g (x * k) (enc u)).ownsRow base e k (.slice (some ⟨g, 0, none⟩) n cap) n (flat enc (l.set x u)) ∧ canPut w g (x * k) k = true := by
  have hn : l.length = n := by
    have := h.1
    rw [length_flat hk] at this
    exact Nat.eq_of_mul_eq_mul_right k0 this
  rcases h.2 with ⟨hv, _⟩ | ⟨g', cap', cur, hv, hbg, hg, hnc, hcm, hcs, htake⟩
  · cases hv
  · cases hv
    have hxk : x * k + k ≤ n * k := by
      have : (x + 1) * k ≤ n * k := Nat.mul_le_mul_right _ (by omega)
      rwa [Nat.add_mul, Nat.one_mul] at this
    have hnk : n * k ≤ cap * k := Nat.mul_le_mul_right _ hnc
    have hle : x * k + (enc u).size ≤ cur.size := by rw [hk, hcs]; omega
    refine ⟨⟨by rw [length_flat hk, List.length_set, hn], .inr ⟨g, cap, spl cur (x * k) (enc u), rfl, hbg, ?_, hnc, hcm, by rw [size_spl _ _ _ hle]; exact hcs, ?_⟩⟩, canPut_of hg _ _ (by rw [hk] at hle; exact hle)⟩
    · rw [heap_splice, if_pos rfl, hg]; rfl
    · apply List.ext_getElem?
      intro i
      rw [List.getElem?_take]
      by_cases hi : i < n * k
      · rw [if_pos hi]
        have hsp := getElem?_spl cur (x * k) (enc u) hle i
        rw [Array.getElem?_toList, hsp]
        have hdm : i / k * k + i % k = i := by rw [Nat.mul_comm]; exact Nat.div_add_mod i k
        have hm : i % k < k := Nat.mod_lt _ k0
        have hf := getElem?_flat hk k0 (l.set x u) (i / k) (i % k) hm
        rw [hdm] at hf
        rw [hf, List.getElem?_set]
        have hdn : i / k < n := Nat.div_lt_of_lt_mul (by rw [Nat.mul_comm]; exact hi)
        by_cases hix : x * k ≤ i ∧ i < x * k + (enc u).size
        · rw [if_pos hix]
          have hik : i / k = x := by
            rw [hk] at hix
            exact Nat.div_eq_of_lt_le hix.1 (by rw [Nat.add_mul, Nat.one_mul]; exact hix.2)
          rw [if_pos hik.symm, if_pos hx]
          have : i - x * k = i % k := by rw [← hik]; omega
          rw [this]; rfl
        · rw [if_neg hix]
          have hik : ¬ x = i / k := by
            intro e
            apply hix
            rw [hk, e]; omega
          rw [if_neg hik]
          have hf2 := getElem?_flat hk k0 l (i / k) (i % k) hm
          rw [hdm] at hf2
          rw [← hf2, ← htake, List.getElem?_take, if_pos hi, Array.getElem?_toList]
      · rw [if_neg hi, List.getElem?_eq_none]
        rw [length_flat hk, List.length_set, hn]; omega

/-- m := append([]T{}, l...): a row of its own that holds what l holds. -/
theorem copy_rows {w : World} (p : Option Addr) (cap : Nat) (vs : List V) (hlen : vs.length ≤ 60) (hp : ∀ (k : Nat) (x : V), vs[k]? = some x → ∃ g o, p = some ⟨g, o, none⟩ ∧ g < w.heap.size ∧ rowAt w g (o + k * 66) 66 = some (vcells x)) (hnil : p = none → cap = 0 ∧ vs = []) :
    ∃ g cap' w', (Builtin.append_ #[22, 22] 22 #[.slice (some ⟨w.heap.size, 0, none⟩) 0 0, .slice p vs.length cap]).run Try.prog (w.alloc (.cells #[] 34)) = .ok (.slice (some ⟨g, 0, none⟩) vs.length cap') w' ∧
      w'.ownsRow w.heap.size 34 66 (.slice (some ⟨g, 0, none⟩) vs.length cap') vs.length (flat vcells vs) ∧ Below w.heap.size w w' := by
  have hown := World.ownsRow_made (base := w.heap.size) (e := 34) (size := 66) w #[] 0 (Nat.le_refl _) (by simp [maxLen]) rfl
  have hb1 : Below w.heap.size w (w.alloc (.cells #[] 34)) := (Below.refl _ _).alloc (Nat.le_refl _) _
  obtain ⟨i, z, e1, e2, e3, e4, e5⟩ := elemR
  cases p with
  | none =>
    obtain ⟨rfl, rfl⟩ := hnil rfl
    exact ⟨_, _, _, run_append_owned_none _ _ _ _ _ i 66 Try.underlying22 e1 _ _ _ hown, by simpa [flat] using hown, hb1⟩
  | some a =>
    have hnews : ∀ j u, (flat vcells vs)[j]? = some u → (w.alloc (.cells #[] 34)).cell? (a.add j) = some u := by
      intro j u hu
      have hj : j < vs.length * 66 := by
        have := (List.getElem?_eq_some_iff.1 hu).1
        rwa [length_flat size_vcells] at this
      have hjd : j / 66 < vs.length := by omega
      obtain ⟨g, o, ha, hg, hr⟩ := hp (j / 66) _ (List.getElem?_eq_getElem hjd)
      cases ha
      have hdm : j / 66 * 66 + j % 66 = j := by omega
      have hf := getElem?_flat size_vcells (by decide) vs (j / 66) (j % 66) (Nat.mod_lt _ (by decide))
      rw [hdm, hu, List.getElem?_eq_getElem hjd] at hf
      have hc := cell_of_rowAt hr (j % 66) (Nat.mod_lt _ (by decide))
      rw [Addr.add_mid, hb1.cell (p := ⟨g, o + j, none⟩) hg]
      rw [show o + j / 66 * 66 + j % 66 = o + j by omega] at hc
      rw [hc]
      exact hf.symm
    have hones : ∀ u ∈ flat vcells vs, u.oneCell' = true := by
      intro u hu
      obtain ⟨v, -, hm⟩ := List.mem_flatMap.1 hu
      exact mem_allOne (one_vcells v) u (by simpa using hm)
    obtain ⟨v', w', h1, h2, h3, h4⟩ := run_append_own (P := Try.prog) (w.alloc (.cells #[] 34)) w.heap.size 22 22 34 i z 66 80 Try.underlying22 e1 e2 e3 e4 e5 (by decide) _ 0 [] hown a vs.length cap (flat vcells vs) (length_flat size_vcells vs) hnews hones (by simp only [maxLen]; omega) (by omega) (by simp)
    have hv' : ∃ g cap', v' = .slice (some ⟨g, 0, none⟩) vs.length cap' := by
      rcases h2.2 with ⟨hv, _⟩ | ⟨g, c, cur, hv, _⟩
      · have := h4.1 hv
        simp at this
      · simp only [Nat.zero_add] at hv
        exact ⟨g, c, hv⟩
    obtain ⟨g, cap', rfl⟩ := hv'
    simp only [Nat.zero_add, List.nil_append] at h2
    exact ⟨g, cap', w', h1, h2, hb1.grown h3 (by simp) (fun k hk => by simp [Value.ownBlock] at hk; omega)⟩

end Go.Proofs.Ytdmhaajekmaadaa
