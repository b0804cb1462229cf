/- Rows of aggregates: appending to them, sorting them; what a loop over an iterator may write while the iterator rests. For any program. No condition. -/
import Derived.Test.YtdmhaajekmaadaaKitE
import Derived.RangeFuncNested
import Derived.Laws.OwnMore
import Derived.OwnWalkIn
import Derived.RangeFuncBox
import Derived.Shelf.GgSortFunc.InsertionK
namespace Go.Proofs.Ytdmhaajekmaadaa
open Go.RowKit
variable {α : Type}

/-- A run of cells that are there is a row. -/
theorem rowAt_of_cells {w : World} {b o n : Nat} {cs : Array Value} (hn : 0 < n) (hs : cs.size = n) (h : ∀ j, (hj : j < n) → w.cell? ⟨b, o + j, none⟩ = some (cs[j]'(by omega))) : rowAt w b o n = some cs := by
  have h0 := h 0 hn
  unfold World.cell? at h0
  cases hb : w.heap[b]? with
  | none => simp [hb] at h0
  | some x =>
    cases x with
    | cells c t fr =>
      have hc : ∀ j, (hj : j < n) → c[o + j]? = some (cs[j]'(by omega)) := fun j hj => by
        have := h j hj
        rw [cell_of_row w b (o + j) c t fr hb] at this
        exact this
      have hle : o + n ≤ c.size := by
        have := hc (n - 1) (by omega)
        have := (Array.getElem?_eq_some_iff.1 this).1
        omega
      rw [rowAt_of hb o n hle]
      congr 1
      apply Array.ext
      · simp; omega
      · intro i h1 h2
        have := hc i (by omega)
        have := (Array.getElem?_eq_some_iff.1 this).2
        simp [this]
    | _ => simp [hb] at h0

set_option maxHeartbeats 400000 in
theorem run_append_own2 {P : Program} (w : World) (base : Nat) (t ty e : TypeId) (i : TypeInfo) (z : Value) (size bytes : Nat) (ht : P.underlying t = some (.slice e)) (hi : P.info? e = some i) (hz : i.zero = some z)
    (hsize : i.size = size) (hby : i.bytes = bytes) (hzs : z.cells.size = size) (hsz : 0 < size)
    (v : Value) (n : Nat) (xs : List Value) (hown : w.ownsRow base e size v n xs)
    (a : Addr) (c : Nat) (news : List Value) (hl : news.length = 1 * size) (hnews : ∀ j u, news[j]? = some u → w.cell? (a.add j) = some u) (h1 : ∀ u ∈ news, u.oneCell' = true)
    (h63 : n + 1 ≤ maxLen) (hbytes : (n + 1) * bytes ≤ 140737488355328) (hbase : base ≤ w.heap.size) :
    ∃ g cap w', (Builtin.append_ #[t, t] ty #[v, .slice (some a) 1 c]).run P w = .ok (.slice (some ⟨g, 0, none⟩) (n + 1) cap) w' ∧ w'.ownsRow base e size (.slice (some ⟨g, 0, none⟩) (n + 1) cap) (n + 1) (xs ++ news) ∧ w.grownBy w' v.ownBlock ∧
      (v.ownBlock = some g ∨ w.heap.size ≤ g) := by
  subst hsize
  subst hby
  have hlen : (xs ++ news).length = (n + 1) * i.size := by rw [List.length_append, hown.1, hl, Nat.add_mul]
  have grown : ∀ (old : Nat), old < n + 1 → ∀ (row : Option Nat),
      (w.drew.alloc (.cells (xs.toArray ++ news.toArray ++ Builtin.zeroCells z.cells (grownCap w (n + 1) old e - (n + 1))) e)).ownsRow base e i.size
        (.slice (some ⟨w.heap.size, 0, none⟩) (n + 1) (grownCap w (n + 1) old e)) (n + 1) (xs ++ news) ∧
      w.grownBy (w.drew.alloc (.cells (xs.toArray ++ news.toArray ++ Builtin.zeroCells z.cells (grownCap w (n + 1) old e - (n + 1))) e)) row := by
    intro old ho row
    have hge := grownCap_ge w (n + 1) old e
    have hcm : grownCap w (n + 1) old e ≤ maxLen := grownCap_le_maxLen w (n + 1) old e h63
    refine ⟨⟨hlen, .inr ⟨w.heap.size, _, _, rfl, hbase, heap_alloc_new w.drew _, hge, hcm, ?_, ?_⟩⟩, ⟨rfl, rfl, rfl, by simp, fun k hk _ => by rw [heap_alloc, if_neg (by simpa using Nat.ne_of_lt hk)]; rfl⟩⟩
    · simp only [Array.size_append, List.size_toArray, size_zeroCells, hzs, hown.1, hl, ← Nat.add_mul]
      congr 1
      omega
    · simp only [Array.toList_append, List.append_assoc]
      rw [← List.append_assoc, ← hlen]
      exact List.take_left
  rcases hown.2 with ⟨rfl, rfl⟩ | ⟨g, cap, cur, rfl, hbg, hg, hnc, hcm, hcs, htake⟩
  · have hx : xs = [] := List.eq_nil_of_length_eq_zero (by simpa using hown.1)
    subst hx
    have hr := run_append_nil (P := P) w t ty e i z ht hi hz a 1 c news hl hnews (by omega) (by decide) (by have hb := hbytes; simp only [Nat.zero_add] at hb; omega)
    have hgr := grown 0 (by omega) (Value.ownBlock (.slice none 0 0))
    simp only [Nat.zero_add, List.nil_append, Array.empty_append] at hgr ⊢
    exact ⟨_, _, _, hr, hgr.1, hgr.2, .inr (Nat.le_refl _)⟩
  · by_cases hroom : n + 1 ≤ cap
    · obtain ⟨w', hr, h2, h3⟩ := run_append_fits (P := P) w base t ty e i i.size ht hi rfl g n cap xs hown a 1 c news hl hnews h1 hroom
      exact ⟨g, cap, w', hr, h2, h3, .inl rfl⟩
    · have holds : ∀ j u, xs[j]? = some u → w.cell? ((⟨g, 0, none⟩ : Addr).add j) = some u := hown.cells (g := g) rfl
      have hsm : n + 1 ≤ 9223372036854775807 := by simp only [maxLen] at h63; omega
      have hr := run_append_grow (P := P) w t ty e i z ht hi hz ⟨g, 0, none⟩ n cap xs hown.1 holds a 1 c news hl hnews (by omega) (by omega) (growslice_fits (by omega) hbytes)
      have hgr := grown cap (by omega) (Value.ownBlock (.slice (some ⟨g, 0, none⟩) n cap))
      exact ⟨_, _, _, hr, hgr.1, hgr.2, .inr (Nat.le_refl _)⟩

/-- The cells of a row of elements, one behind the other. -/
def flat (enc : α → Array Value) (l : List α) : List Value := l.flatMap fun v => (enc v).toList
theorem flat_snoc (enc : α → Array Value) (l : List α) (v : α) : flat enc (l ++ [v]) = flat enc l ++ (enc v).toList := by simp [flat]
theorem length_flat {enc : α → Array Value} {k : Nat} (hk : ∀ v, (enc v).size = k) : ∀ l : List α, (flat enc l).length = l.length * k
  | [] => by simp [flat]
  | v :: r => by
    have := length_flat hk r
    unfold flat at this ⊢
    rw [List.flatMap_cons, List.length_append, this, Array.length_toList, hk, List.length_cons, Nat.add_mul]; omega
theorem getElem?_flat {enc : α → Array Value} {k : Nat} (hk : ∀ v, (enc v).size = k) (k0 : 0 < k) : ∀ (l : List α) (j i : Nat), i < k → (flat enc l)[j * k + i]? = (l[j]?).bind fun v => (enc v)[i]?
  | [], j, i, _ => by simp [flat]
  | v :: r, 0, i, hi => by
    unfold flat
    rw [List.flatMap_cons, List.getElem?_append_left (by simp [hk]; omega)]
    simp
  | v :: r, j + 1, i, hi => by
    have := getElem?_flat hk k0 r j i hi
    unfold flat at this ⊢
    rw [List.flatMap_cons, List.getElem?_append_right (by simp [hk, Nat.add_mul]; omega)]
    rw [show (j + 1) * k + i - (enc v).toList.length = j * k + i by simp [hk, Nat.add_mul]; omega, this]
    simp

/-- Element j of a row that a slice owns. -/
theorem rowAt_owned {enc : α → Array Value} {k : Nat} (hk : ∀ v, (enc v).size = k) (k0 : 0 < k) {w : World} {base : Nat} {e : TypeId} {g n cap : Nat} {l : List α} (h : w.ownsRow base e k (.slice (some ⟨g, 0, none⟩) n cap) n (flat enc l)) (j : Nat) (x : α) (hj : l[j]? = some x) : rowAt w g (j * k) k = some (enc x) := by
  refine rowAt_of_cells k0 (hk x) fun i hi => ?_
  have hc := h.cells (g := g) rfl (j * k + i) ((enc x)[i]'(by rw [hk]; exact hi)) (by
    rw [getElem?_flat hk k0 l j i hi, hj]; simp [hk, hi])
  rw [Addr.add_mid] at hc
  simpa using hc

theorem holdsK_owned [Inhabited α] {enc : α → Array Value} {k : Nat} (hk : ∀ v, (enc v).size = k) (k0 : 0 < k) {w : World} {base : Nat} {e : TypeId} {g n cap : Nat} {l : List α} (h : w.ownsRow base e k (.slice (some ⟨g, 0, none⟩) n cap) n (flat enc l)) : Sort.HoldsK (fun v => (enc v).toList) k w g 0 l.toArray := by
  have hn : n = l.length := by
    have := h.1
    rw [length_flat hk] at this
    exact (Nat.eq_of_mul_eq_mul_right k0 this).symm
  subst hn
  unfold Sort.HoldsK Sort.Holds
  intro t ht
  rw [Sort.size_flatK] at ht
  rw [Sort.get_flatK _ _ _ _ ht]
  simp at ht
  have hdiv : t / k < l.length := Nat.div_lt_of_lt_mul (by rw [Nat.mul_comm]; exact ht)
  have hmod : t % k < k := Nat.mod_lt _ k0
  have hx : l[t / k]? = some l[t / k] := List.getElem?_eq_getElem hdiv
  have ht' : t / k * k + t % k = t := by rw [Nat.mul_comm]; exact Nat.div_add_mod t k
  refine ⟨?_, ?_⟩
  · have hc := h.cells (g := g) rfl t ((enc l[t / k])[t % k]'(by rw [hk]; exact hmod)) (by
      have hf := getElem?_flat hk k0 l (t / k) (t % k) hmod
      rw [ht', hx] at hf
      rw [hf]; simp [hk, hmod])
    rw [Addr.add_mid] at hc
    rw [hc]
    simp [hdiv, hk, hmod]
  · rcases h.2 with ⟨hv, _⟩ | ⟨g', cap', cur, hv, -, hg, -⟩
    · cases hv
    · cases hv
      simp [World.frozen?, hg]

theorem rowAt_holdsK [Inhabited α] {enc : α → Array Value} {k : Nat} (hk : ∀ v, (enc v).size = k) (k0 : 0 < k) {w : World} {g : Nat} {d : Array α} (h : Sort.HoldsK (fun v => (enc v).toList) k w g 0 d) (j : Nat) (hj : j < d.size) : rowAt w g (j * k) k = some (enc d[j]) := by
  refine rowAt_of_cells k0 (hk _) fun i hi => ?_
  have ht : j * k + i < d.size * k := by
    have : (j + 1) * k ≤ d.size * k := Nat.mul_le_mul_right _ hj
    rw [Nat.add_mul] at this; omega
  have := (h (j * k + i) (by rw [Sort.size_flatK]; exact ht)).1
  rw [Sort.get_flatK _ _ _ _ ht] at this
  rw [Nat.zero_add] at this
  rw [this]
  have h1 : (j * k + i) / k = j := by rw [Nat.mul_comm, Nat.mul_add_div k0, Nat.div_eq_of_lt hi]; omega
  have h2 : (j * k + i) % k = i := by rw [Nat.mul_comm, Nat.mul_add_mod]; exact Nat.mod_eq_of_lt hi
  rw [h1, h2]
  have h3 : d[j]! = d[j] := getElem!_pos d j hj
  simp [h3, id, hk, hi]

/-! ### What a round may write -/

/-- Own W k: block k is the caller's own in world W. What is asked of such a word. -/
structure Owns (n₀ : Nat) (Own : World → Nat → Prop) : Prop where
  low : ∀ W W' k, Below n₀ W W' → (Own W' k ↔ Own W k)

/-- A round leaves as it lay whatever cells and walks aren't its caller's own. -/
structure KpO (Own : World → Nat → Prop) (W W' : World) : Prop where
  size : W.heap.size ≤ W'.heap.size
  same : ∀ (k : Nat) (o : Obj), W.heap[k]? = some o → (o.isCells = true ∨ o.isWalk = true) → ¬ Own W k → W'.heap[k]? = some o
  own : ∀ k, k < W.heap.size → Own W' k → Own W k

theorem KpO.trans {Own : World → Nat → Prop} {A B C : World} (h : KpO Own A B) (k : KpO Own B C) : KpO Own A C :=
  ⟨Nat.le_trans h.size k.size, fun i o hi ho hn => k.same i o (h.same i o hi ho hn) ho (fun e => hn (h.own i (Array.getElem?_eq_some_iff.1 hi).1 e)),
    fun i hi e => h.own i hi (k.own i (Nat.lt_of_lt_of_le hi h.size) e)⟩
theorem KpO.putObj {n₀ : Nat} {Own : World → Nat → Prop} (hO : Owns n₀ Own) (W : World) (l : Nat) (o o' : Obj) (hn : n₀ ≤ l) (h : W.heap[l]? = some o) (hc : o.isCells = false) (hw : o.isWalk = false) : KpO Own W (W.putObj l o') := by
  have hb : Below n₀ W (W.putObj l o') := ⟨rfl, rfl, rfl, by simp, fun k hk => World.putObj_heap_other (by omega)⟩
  refine ⟨by simp, fun k o2 hk ho _ => ?_, fun k _ e => (hO.low W _ k hb).1 e⟩
  by_cases e : k = l
  · subst e; rw [h] at hk; cases hk; rw [hc, hw] at ho; simp at ho
  · exact (World.putObj_heap_other e).trans hk
theorem KpO.of_below {n₀ : Nat} {Own : World → Nat → Prop} (hO : Owns n₀ Own) {W W' : World} (hn : n₀ ≤ W.heap.size) (hb : Below W.heap.size W W') : KpO Own W W' :=
  ⟨hb.size, fun k o hk _ _ => (hb.block k (Array.getElem?_eq_some_iff.1 hk).1).trans hk, fun k _ e => (hO.low W W' k (hb.mono hn)).1 e⟩

def bsRow (T : TypeId) (n : Nat) (parts : Array (Nat × Value)) : Sem Value := Instr.buildSlice T n parts

/-- A slice of one element, laid. -/
theorem run_buildSlice_one {P : Program} {t e : TypeId} {k : Nat} (ht : P.underlying t = some (.slice e)) (hT : RowType P e k) {z : Array Value} (hz : ∀ w, (zeroValue e).run P w = .ok (.agg z) w) (hzs : z.size = k) (k0 : 0 < k) (hk : k ≤ 16777216) (w : World) (cs : Array Value) (hc : cs.size = k) :
    (Instr.buildSlice t 1 #[(0, .agg cs)]).run P w = .ok (.slice (some ⟨w.heap.size, 0, none⟩) 1 1) (w.alloc (.cells cs e)) := by
  have hf := fill_cons (fun i => some (i * k, k)) ((Array.range (1 * k)).map fun x => z[x % z.size]!) 0 (.agg cs) [] 0 k (by simp) (by simp [Value.cells, hc]) (by simp)
  have hfill : Instr.fill (fun i => some (i * k, k)) ((Array.range (1 * k)).map fun x => z[x % z.size]!) [(0, .agg cs)] = some cs := by
    rw [hf]; simp only [Instr.fill, Value.cells]
    rw [spl_full _ _ (by simp [hc])]
  have hn : ¬ (1 * k > 2 ^ 24) := by simp; omega
  have h0 : ¬ (1 * k = 0) := by omega
  unfold Instr.buildSlice
  simp only [Sem.run_bind, run_underlying ht, Result.andThen_ok, hT.size, if_neg hn, if_neg h0, hz, Sem.run_pure, Value.cells, hfill]
  rfl

/-- The element's type, as append reads it. -/
def ElemInfo (P : Program) (e : TypeId) (size bytes : Nat) : Prop := ∃ i z, P.info? e = some i ∧ i.zero = some z ∧ i.size = size ∧ i.bytes = bytes ∧ z.cells.size = size
theorem elemInfo_of {P : Program} {e : TypeId} {z : Value} {size bytes : Nat} (h : (P.info? e).map (fun i => (i.zero, i.size, i.bytes)) = some (some z, size, bytes)) (hz : z.cells.size = size) : ElemInfo P e size bytes := by
  obtain ⟨i, h1, h2, h3, h4⟩ := info_parts h
  exact ⟨i, z, h1, h2, h3, h4, hz⟩

theorem run_append_elem {P : Program} {t ty e : TypeId} {size : Nat} (ht : P.underlying t = some (.slice e)) {bytes : Nat} (E : ElemInfo P e size bytes) (k0 : 0 < size) {enc : α → Array Value} (hk : ∀ v, (enc v).size = size) (h1 : ∀ v, allOne (enc v) = true)
    {w : World} {base : Nat} {v : Value} {n : Nat} {l : List α} (hown : w.ownsRow base e size v n (flat enc l)) (x : α) (b : Nat) (c : Nat) (hb : rowAt w b 0 size = some (enc x)) (hn : (n + 1) * bytes ≤ 140737488355328) (hm : n + 1 ≤ maxLen) (hbase : base ≤ w.heap.size) :
    ∃ g cap w', (Builtin.append_ #[t, t] ty #[v, .slice (some ⟨b, 0, none⟩) 1 c]).run P w = .ok (.slice (some ⟨g, 0, none⟩) (n + 1) cap) w' ∧ w'.ownsRow base e size (.slice (some ⟨g, 0, none⟩) (n + 1) cap) (n + 1) (flat enc (l ++ [x])) ∧ w.grownBy w' v.ownBlock ∧
      (v.ownBlock = some g ∨ w.heap.size ≤ g) := by
  rw [flat_snoc]
  obtain ⟨i, z, e1, e2, e3, e4, e5⟩ := E
  refine run_append_own2 w base t ty e i z size bytes ht e1 e2 e3 e4 e5 k0 v n (flat enc l) hown ⟨b, 0, none⟩ c (enc x).toList (by simp [hk]) ?_ ?_ hm hn hbase
  · obtain ⟨-, hr⟩ := rowAt_range hb
    intro j u hu
    rw [Addr.add_mid]
    have := hr j u hu
    simpa using this
  · intro u hu
    exact mem_allOne (h1 x) u (by simpa using hu)

theorem below_of_grownBy {B : Nat} {a w w' : World} {row : Option Nat} (h : Below B a w) (hB : B ≤ w.heap.size) (hg : w.grownBy w' row) (hr : ∀ k, row = some k → B ≤ k) : Below B a w' := h.grown hg hB hr

theorem below_sortWorldK [Inhabited α] (enc : α → List Value) (k : Nat) (w : World) (blk off n : Nat) (d : Array α) (os : Array Obj) (B : Nat) (hB : B ≤ blk) (hb : B ≤ w.heap.size) : Below B w (sortWorldK enc k w blk off n d os) := by
  refine ⟨rfl, rfl, rfl, ?_, ?_⟩
  · simp [sortWorldK, Sort.grow, Sort.putRowK, Sort.putRow, Sort.mapBlock, Sort.ahead]
  · intro j hj
    simp only [sortWorldK, Sort.grow, Sort.putRowK, Sort.putRow, Sort.mapBlock, Sort.ahead]
    rw [Array.getElem?_append_left (by simp; omega), Array.getElem?_modify, if_neg (by omega)]

/-- One builtin's call whose run is known: inside a fence, and plain. -/
theorem wpListIn_builtin_run {F : Fence} {n : Nat} {P : Program} {w : World} {ops : Array Oper} {rest : List Oper} {o : Oper} {a : Act} {Q : Exit → Act → World → Prop}
    (hg : o.guard = none) (s x : Operand) (t : TypeId) (hop : o.op = Op.call { callee := Callee.builtin Builtin.append, args := #[s, x], argTypes := #[t, t] })
    (v va : Value) (hs : a.eval s = v) (hx : a.eval x = va) (v' : Value) (w' : World) (hrun : (Builtin.append_ #[t, t] o.type #[v, va]).run P w = .ok v' w')
    (hK : wpListIn F n P ops Q rest (a.put o.dst v') w') : wpListIn F n P ops Q (o :: rest) a w := by
  refine wpListIn_plain hg fun K hK' => ?_
  unfold Oper.wpIn
  refine ⟨?_, ?_⟩
  · simp [Oper.about, hop, resolve, Target.leads, Sem.run_pure]
  · rw [Oper.semAt_plain F _ _ (by rw [hop]; intro c hc'; cases hc')]
    simp [execOp, hop, resolve, invoke, builtin, hs, hx, hrun, Result.andThen]
    exact hK' _ _ hK
theorem wpList_builtin_run {P : Program} {w : World} {ops : Array Oper} {rest : List Oper} {o : Oper} {a : Act} {Q : Exit → Act → World → Prop}
    (hg : o.guard = none) (s x : Operand) (t : TypeId) (hop : o.op = Op.call { callee := Callee.builtin Builtin.append, args := #[s, x], argTypes := #[t, t] })
    (v va : Value) (hs : a.eval s = v) (hx : a.eval x = va) (v' : Value) (w' : World) (hrun : (Builtin.append_ #[t, t] o.type #[v, va]).run P w = .ok v' w')
    (hK : wpList P ops Q rest (a.put o.dst v') w') : wpList P ops Q (o :: rest) a w := by
  refine wpList_plain hg fun K hK' => ?_
  unfold Oper.wp execOp
  simp only [hop, resolve, invoke, builtin, Sem.run_bind, Sem.run_pure, Result.andThen_ok, List.map_toArray, List.map_cons, List.map_nil, hs, hx, hrun]
  exact hK' _ _ hK

/-- The box B of a slice that a loop's body appends to, and that slice's row. -/
def OwnBox (B : Nat) (W : World) (k : Nat) : Prop := k = B ∨ ∃ o m c, W.cell? ⟨B, 0, none⟩ = some (.slice (some ⟨k, o, none⟩) m c)
theorem owns_box {B n₀ : Nat} (h : B < n₀) : Owns n₀ (OwnBox B) :=
  ⟨fun W W' k hb => by unfold OwnBox; rw [hb.cell (p := ⟨B, 0, none⟩) h]⟩
theorem ownBox_of {B : Nat} {W : World} {t e : TypeId} {size N : Nat} {v : Value} {k : Nat} {xs : List Value} (hv : Boxed W B t v) (hrow : W.ownsRow N e size v k xs) (j : Nat) : OwnBox B W j ↔ j = B ∨ v.ownBlock = some j := by
  unfold OwnBox
  rw [hv.cell]
  rcases hrow.2 with ⟨rfl, _⟩ | ⟨g, cap, cur, rfl, _, hgb, _⟩
  · simp [Value.ownBlock]
  · simp [Value.ownBlock]
theorem only_grown {b : Nat} {w0 A B : World} {row : Option Nat} (h : Only b w0 A) (hg : A.grownBy B row) (hr : ∀ r, row = some r → w0.heap.size ≤ r) : Only b w0 B :=
  ⟨hg.os.trans h.os, hg.tape.trans h.tape, hg.output.trans h.output, Nat.le_trans h.size hg.size, fun k hk hn => (hg.block k (Nat.lt_of_lt_of_le hk h.size) (fun e => by have := hr k e.symm; omega)).trans (h.block k hk hn)⟩
theorem size_setCell (w : World) (a : Addr) (v : Value) : (w.setCell a v).heap.size = w.heap.size := by
  show (w.heap.modify _ _).size = _; simp

theorem Boxed.collected {W w1 : World} {N B : Nat} {t e : TypeId} {size : Nat} {v : Value} {g cap k m : Nat} {xs ys : List Value} {tmp : Obj}
    (hv : Boxed W B t v) (hte : t ≠ e) (hrow : W.ownsRow N e size v k xs) (hN : N ≤ W.heap.size) (hB : B < N)
    (hown' : w1.ownsRow N e size (.slice (some ⟨g, 0, none⟩) m cap) m ys) (hgrow : (W.alloc tmp).grownBy w1 v.ownBlock) (hg : v.ownBlock = some g ∨ (W.alloc tmp).heap.size ≤ g) :
    Boxed w1 B t v ∧ Boxed (w1.setCell ⟨B, 0, none⟩ (.slice (some ⟨g, 0, none⟩) m cap)) B t (.slice (some ⟨g, 0, none⟩) m cap) ∧ (w1.setCell ⟨B, 0, none⟩ (.slice (some ⟨g, 0, none⟩) m cap)).ownsRow N e size (.slice (some ⟨g, 0, none⟩) m cap) m ys ∧
      KeepsOthers W (w1.setCell ⟨B, 0, none⟩ (.slice (some ⟨g, 0, none⟩) m cap)) ∧ KpO (OwnBox B) W (w1.setCell ⟨B, 0, none⟩ (.slice (some ⟨g, 0, none⟩) m cap)) ∧
      (∀ W0 : World, W0.heap.size ≤ N → Only B W0 W → Only B W0 (w1.setCell ⟨B, 0, none⟩ (.slice (some ⟨g, 0, none⟩) m cap))) := by
  have hv1 : Boxed w1 B t v := (hv.alloc tmp).kept hgrow (hv.not_row hte hrow)
  have hsz : W.heap.size + 1 ≤ w1.heap.size := by have := hgrow.size; simpa using this
  have hrlt := hrow.lt
  have hblk : ∀ j, j < W.heap.size → j ≠ B → v.ownBlock ≠ some j → (w1.setCell ⟨B, 0, none⟩ (.slice (some ⟨g, 0, none⟩) m cap)).heap[j]? = W.heap[j]? := fun j hj h1 h2 => by
    rw [Below.heap_setCell _ _ _ j h1, hgrow.block j (by simp; omega) (fun e => h2 e.symm), heap_alloc, if_neg (by omega)]
  have hv2 := hv1.set (.slice (some ⟨g, 0, none⟩) m cap)
  have hr2 : (w1.setCell ⟨B, 0, none⟩ (.slice (some ⟨g, 0, none⟩) m cap)).ownsRow N e size (.slice (some ⟨g, 0, none⟩) m cap) m ys := hown'.kept (grownBy_setCell' w1 B _) (.inr (hv1.not_row hte hown').symm)
  refine ⟨hv1, hv2, hr2, ?_, ⟨?_, ?_, ?_⟩, ?_⟩
  · refine ((KeepsOthers.alloc W tmp).trans (KeepsOthers.of_grownBy hgrow fun j o ej hj => ?_)).trans (KeepsOthers.setCell _ _ _)
    rcases (hrow.alloc tmp).2 with ⟨rfl, _⟩ | ⟨g, cap, cur, rfl, _, hgb, _⟩
    · simp [Value.ownBlock] at ej
    · obtain rfl : g = j := by simpa [Value.ownBlock] using ej
      rw [hgb] at hj; cases hj; rfl
  · rw [size_setCell]; omega
  · intro j o hj _ hno
    rw [ownBox_of hv hrow] at hno
    simp only [not_or] at hno
    exact (hblk j (Array.getElem?_eq_some_iff.1 hj).1 hno.1 hno.2).trans hj
  · intro j hj ho
    rw [ownBox_of hv2 hr2] at ho
    rw [ownBox_of hv hrow]
    rcases ho with rfl | ho
    · exact .inl rfl
    · right
      obtain rfl : g = j := by simpa [Value.ownBlock] using ho
      rcases hg with hg | hg
      · exact hg
      · simp at hg; omega
  · intro W0 h0 hO
    have hos : W.os = W0.os := hO.os
    refine ⟨?_, ?_, ?_, ?_, ?_⟩
    · exact (show w1.os = W.os from hgrow.os).trans hO.os
    · exact (show w1.tape = W.tape from hgrow.tape).trans hO.tape
    · exact (show w1.output = W.output from hgrow.output).trans hO.output
    · rw [size_setCell]; have := hO.size; omega
    · intro j hj hne
      rw [hblk j (by have := hO.size; omega) hne (fun e => by have := (hrlt j e).1; omega)]
      exact hO.block j hj hne

end Go.Proofs.Ytdmhaajekmaadaa
