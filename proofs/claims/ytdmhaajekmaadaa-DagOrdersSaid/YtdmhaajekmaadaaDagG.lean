/- The store of vertices: Insert. No condition but that the store lies as New and Insert lay it. -/
import Derived.Test.YtdmhaajekmaadaaDagF
import Derived.Shelf.RegionOpen
import Derived.RangeFuncCalls
namespace Go.Proofs.Ytdmhaajekmaadaa
open Go.RowKit Go.Shelf

attribute [local go_sem] Oper.semAt_some

/-- The list behind an Insert. -/
def putIn (keep : Int) (l : List V) (v : V) : List V := (l ++ [v]).filter fun x => !decide (x.depth < floorOf keep (l ++ [v]))
def gone (keep : Int) (l : List V) (v : V) : List V := goneOf (floorOf keep (l ++ [v])) (l ++ [v])
def insOf (keep : Int) (l : List V) (v : V) : List V := if checkOf keep l v = 0 then putIn keep l v else l
def goneN (keep : Int) (l : List V) (v : V) : Nat := if checkOf keep l v = 0 then (gone keep l v).length else 0

theorem check_zero {keep : Int} {l : List V} {v : V} (h : checkOf keep l v = 0) : 0 ≤ v.depth ∧ v.depth ≤ 4611686018427387903 ∧ findV v.id l = none := by
  unfold checkOf at h
  by_cases c0 : v.depth < 0 ∨ 4611686018427387903 < v.depth ∨ v.parent = v.id
  · rw [if_pos c0] at h; omega
  · rw [if_neg c0] at h
    simp only [not_or] at c0
    cases hf : findV v.id l with
    | none => exact ⟨by omega, by omega, rfl⟩
    | some u => rw [hf] at h; simp at h
theorem apart_snoc {l : List V} {v : V} (h : Apart l) (hf : findV v.id l = none) : Apart (l ++ [v]) := by
  refine List.pairwise_append.2 ⟨h, by simp, fun a ha b hb => ?_⟩
  have : b = v := by simpa using hb
  subst this
  exact findV_none hf a ha
theorem bd_snoc {l : List V} {v : V} (h : Bd l) (h1 : 0 ≤ v.depth) (h2 : v.depth ≤ 4611686018427387903) : Bd (l ++ [v]) := by
  intro u hu
  rcases List.mem_append.1 hu with hu | hu
  · exact h u hu
  · have : u = v := by simpa using hu
    subst this; exact ⟨h1, h2⟩
theorem putK_ventry {l : List V} {v : V} (hf : findV v.id l = none) : putK v.id (.agg (vcells v)) (l.map ventry) = (l ++ [v]).map ventry := by
  rw [putK_none, List.map_append]; rfl
  intro hm
  simp only [List.map_map, List.mem_map, Function.comp] at hm
  obtain ⟨u, hu, e⟩ := hm
  exact findV_none hf u hu e
theorem delK_ventry (id : H32) : ∀ l : List V, Apart l → delK id (l.map ventry) = (l.filter fun x => !decide (x.id = id)).map ventry
  | [], _ => rfl
  | v :: r, h => by
    obtain ⟨h1, h2⟩ := List.pairwise_cons.1 h
    have ih := delK_ventry id r h2
    by_cases e : id = v.id
    · subst e
      rw [List.filter_cons_of_neg (by simp), List.filter_eq_self.2]
      · show delK v.id ((v.id, _) :: r.map ventry) = _
        unfold delK; rw [if_pos rfl]
      · intro u hu
        simpa using fun e => h1 u hu e.symm
    · rw [List.filter_cons_of_pos (by simpa using fun h => e h.symm), List.map_cons, List.map_cons, ← ih]
      show delK id ((v.id, _) :: r.map ventry) = (v.id, _) :: _
      conv => lhs; unfold delK
      rw [if_neg e]

/-- Who is left when some Ids were struck. -/
def remain (ks : List H32) (L : List V) : List V := L.filter fun x => !decide (x.id ∈ ks)
theorem remain_nil (L : List V) : remain [] L = L := by simp [remain]
theorem remain_snoc (ks : List H32) (k : H32) (L : List V) : (remain ks L).filter (fun x => !decide (x.id = k)) = remain (ks ++ [k]) L := by
  unfold remain
  rw [List.filter_filter]
  apply List.filter_congr
  intro x _
  by_cases h1 : x.id = k <;> by_cases h2 : x.id ∈ ks <;> simp [h1, h2]
theorem remain_gone {fl : Int} {L G : List V} (hap : Apart L) (hG : G.Perm (goneOf fl L)) : remain (G.map (·.id)) L = L.filter fun x => !decide (x.depth < fl) := by
  unfold remain
  apply List.filter_congr
  intro x hx
  congr 1
  apply decide_eq_decide.2
  constructor
  · intro h
    obtain ⟨y, hy, e⟩ := List.mem_map.1 h
    have hy' := hG.mem_iff.1 hy
    simp only [goneOf, List.mem_filter, decide_eq_true_eq] at hy'
    rw [← hap.inj hy'.1 hx e]; exact hy'.2
  · intro h
    exact List.mem_map.2 ⟨x, hG.mem_iff.2 (by simp [goneOf, hx, h]), rfl⟩
theorem Apart.filter {l : List V} (h : Apart l) (p : V → Bool) : Apart (l.filter p) := List.Pairwise.filter p h

theorem below_only {w w1 w2 : World} {b : Nat} (h1 : Below w.heap.size w w1) (h2 : Only b w1 w2) : Only b w w2 := (Below.only h1 b).trans h2

set_option maxHeartbeats 4000000 in
set_option maxRecDepth 100000 in
theorem Insert_no (bs bm : Nat) (keep : Int) (hk1 : 1 ≤ keep) (hk2 : keep ≤ 64) (l : List V) (hap : Apart l) (hbd : Bd l) (v : V) (w : World) (h : St w bs bm keep l) (hne : checkOf keep l v ≠ 0) :
    Calls Try.prog 7 #[.pointer (some ⟨bs, 0, none⟩), .agg (vcells v)] w fun e w' =>
      e = .returned (.tuple #[.slice none 0 0, .int .i64 (checkOf keep l v)]) ∧ Below w.heap.size w w' := by
  obtain ⟨W1, hW1⟩ : ∃ W1, w.alloc (Obj.cells (vcells v) 35) = W1 := ⟨_, rfl⟩
  have hB1 : Below w.heap.size w W1 := by subst hW1; exact (Below.refl _ _).alloc (Nat.le_refl _) _
  have hv1 : W1.heap[w.heap.size]? = some (.cells (vcells v) 35) := by subst hW1; rw [heap_alloc, if_pos rfl]
  have h1 := h.later hB1
  have hchk := Check_any bs bm keep hk1 hk2 l hap hbd v W1 h1
  have hne' : (checkOf keep l v != 0) = true := by simpa using hne
  obtain ⟨k1, -, -, -, -, -⟩ := vblock hv1
  refine (callsIn_wide (n := 5)).1 ?_
  refine callsIn_of_wp_marks Try.func7 rfl trivial ?_ rfl
  simp only [Try.ntmps7, List.size_toArray, List.length_cons, List.length_nil, Nat.reduceAdd, Nat.reduceSub, Array.replicate_succ, Array.replicate_zero, List.push_toArray, List.append_toArray, List.nil_append, List.cons_append]
  gi_wp2_with (refine ⟨trivial, ?_⟩; gi_at_call 13; refine (callsIn_wide.2 hchk).mono ?_; clear hchk; rintro e W2 ⟨rfl, hB2⟩)
  refine ⟨_, results_tmp2 rfl _ _ _, ?_⟩
  exact ⟨rfl, hB1.trans (hB2.mono hB1.size)⟩

set_option maxHeartbeats 4000000 in
set_option maxRecDepth 100000 in
theorem Insert_ok (bs bm : Nat) (keep : Int) (hk1 : 1 ≤ keep) (hk2 : keep ≤ 64) (l : List V) (hap : Apart l) (hbd : Bd l) (hlen : l.length ≤ 100) (v : V) (w : World) (h : St w bs bm keep l) (he : checkOf keep l v = 0) :
    Calls Try.prog 7 #[.pointer (some ⟨bs, 0, none⟩), .agg (vcells v)] w fun e w' =>
      (∃ p cap, e = .returned (.tuple #[.slice p (gone keep l v).length cap, .int .i64 0])) ∧ St w' bs bm keep (putIn keep l v) ∧ Only bm w w' := by
  obtain ⟨W1, hW1⟩ : ∃ W1, w.alloc (Obj.cells (vcells v) 35) = W1 := ⟨_, rfl⟩
  have hB1 : Below w.heap.size w W1 := by subst hW1; exact (Below.refl _ _).alloc (Nat.le_refl _) _
  have hv1 : W1.heap[w.heap.size]? = some (.cells (vcells v) 35) := by subst hW1; rw [heap_alloc, if_pos rfl]
  have h1 := h.later hB1
  have hs1 : W1.heap.size = w.heap.size + 1 := by subst hW1; simp
  have hchk := Check_any bs bm keep hk1 hk2 l hap hbd v W1 h1
  rw [he] at hchk
  obtain ⟨d1, d2, hf⟩ := check_zero he
  have hapn := apart_snoc hap hf
  have hbdn := bd_snoc hbd d1 d2
  have hput := putK_ventry hf
  obtain ⟨k1, -, -, -, -, -⟩ := vblock hv1
  have HHB1 := Lib.hid hB1
  refine (callsIn_wide (n := 5)).1 ?_
  refine callsIn_of_wp_marks Try.func7 rfl trivial ?_ rfl
  simp only [Try.ntmps7, List.size_toArray, List.length_cons, List.length_nil, Nat.reduceAdd, Nat.reduceSub, Array.replicate_succ, Array.replicate_zero, List.push_toArray, List.append_toArray, List.nil_append, List.cons_append]
  gi_wp2_with (refine ⟨trivial, ?_⟩; gi_at_call 13; refine (callsIn_wide.2 hchk).mono ?_; clear hchk; rintro e W2 ⟨rfl, hB2⟩)
  have hB : Below w.heap.size w W2 := hB1.trans (hB2.mono (by omega))
  have hs2 := h1.later hB2
  have hv2 := (hB2.block _ (by omega)).trans hv1
  obtain ⟨W3, hup, hm3, ho3, hsz3⟩ := run_update_of (P := Try.prog) keyH Try.underlying46 (w := W2.drew) hs2.map v.id (.agg (vcells v))
  obtain ⟨p1, p2, -, -, -, -⟩ := vblock hv2
  have c1 := hs2.c1
  change (Instr.mapUpdate _ _ (.agg (hcells v.id)) _).run _ _ = _ at hup
  gi_region
  have hs3 : St W3 bs bm keep (l ++ [v]) := ⟨(ho3.block bs hs2.lt hs2.ne).trans hs2.blk, by rw [show (l ++ [v]).map (fun v => (v.id, Value.agg (vcells v))) = _ from hput.symm]; exact hm3⟩
  have hO3 : Only bm w W3 := below_only (hB.trans (Below.refl _ _).drew) ho3
  have hfl := Floor_any bs bm keep hk1 hk2 (l ++ [v]) hapn hbdn W3 hs3
  have HPUT := Lib.hid hput
  clear hup hm3 ho3 hsz3 p1 p2 c1 hv2 hs2 hB hB2 k1 HHB1 hW1 hB1 hv1 h1 hs1 hput
  gi_wp2_with (first | (refine ⟨trivial, ?_⟩; gi_at_call 10; refine (callsIn_wide.2 hfl).mono ?_; clear hfl; rintro e W4 ⟨rfl, hB4⟩) | (refine ⟨trivial, ?_⟩; gi_at_call 9; refine (callsIn_wide.2 (All_any bs _)).mono ?_; rintro e W5 ⟨rfl, hW5⟩))
  have hs5 : St W5 bs bm keep (l ++ [v]) := by
    subst hW5
    exact (hs3.later hB4).later (((((Below.refl _ _).alloc (Nat.le_refl _) _).alloc (by simp) _).alloc (by simp; omega) _))
  have hlt4 := (hs3.later hB4).lt
  have hltm4 := (hs3.later hB4).ltm
  have hO5 : Only bm w W5 := by
    subst hW5
    exact only_alloc (only_alloc (only_alloc (only_below hO3 hB4) _) _) _
  have hsz5 : W5.heap.size = W4.heap.size + 3 := by subst hW5; simp
  have hb7 : W5.heap[W4.heap.size]? = some (.cells #[.int .i64 (floorOf keep (l ++ [v]))] 3) := by
    subst hW5; rw [heap_alloc, if_neg (by simp; omega), heap_alloc, if_neg (by simp), heap_alloc, if_pos rfl]
  have hb8 : Boxed W5 (W4.heap.size + 1) 28 (.slice none 0 0) := by
    subst hW5; unfold Boxed; rw [heap_alloc, if_neg (by simp), heap_alloc, if_pos (by simp)]
  have hbn : W5.heap[W4.heap.size + 2]? = some (.cells #[.pointer (some ⟨bs, 0, none⟩)] 24) := by
    subst hW5; rw [heap_alloc, if_pos (by simp)]
  have hlw : w.heap.size ≤ W4.heap.size := by have h1 := hO3.size; have h2 := hB4.size; omega
  rw [← hW5]
  clear hW5 hB4 hs3 hO3
  generalize W4.heap.size = S4 at *
  have hstops := All1_stops bs bm keep (l ++ [v]) hbdn (by simp; omega) (S4 + 2) 4 (by omega) (OwnBox (S4 + 1)) W5 hbn hs5 (owns_box (by omega)) (by
    rintro k (rfl | ⟨o, m, c, hk⟩)
    · omega
    · rw [hb8.cell] at hk; cases hk)
  refine wpIn_rangeFunc_ownH rfl (by omega) (gf := 15) (lb := #[.pointer (some ⟨S4 + 2, 0, none⟩)]) rfl trivial (enters_of Try.func15 (by kernel_rfl) rfl) hstops
    (fun h k => h.trans k) (fun W l o o' hl ho hc hw => KpO.putObj (owns_box (n₀ := W5.heap.size) (by omega)) W l o o' hl ho hc hw) (Below.refl _ _) (fun _ => rfl)
    (fun pre W => ∃ v', Boxed W (S4 + 1) 28 v' ∧ W.ownsRow W5.heap.size 35 66 v' (goneOf (floorOf keep (l ++ [v])) (vals pre)).length (flat vcells (goneOf (floorOf keep (l ++ [v])) (vals pre))) ∧ Only (S4 + 1) W5 W)
    (fun _ _ _ => False) ?hI (fun _ _ _ _ _ hs _ _ => hs) ⟨_, hb8, World.ownsRow_nil _ _ _ _, Only.refl _ _⟩
    (fun (x : { u // u ∈ l ++ [v] }) (a' : Act) (W : World) => ∃ Bx : Nat, W.heap[Bx]? = some (Obj.cells (vcells x.1) 35) ∧ a' = { tmps := #[Value.pointer (some ⟨bs, 0, none⟩), Value.agg (vcells v), undef, Value.pointer (some ⟨w.heap.size, 0, none⟩), Value.slice none 0 0, Value.int IntKind.i64 0, Value.int IntKind.i64 0, Value.pointer (some ⟨S4, 0, none⟩), Value.pointer (some ⟨S4 + 1, 0, none⟩), Value.pointer (some ⟨Bx, 0, none⟩), undef, undef, Value.pointer (some ⟨bs, 0, none⟩), Value.agg (vcells v), Value.int IntKind.i64 0, Value.int IntKind.i64 0, Value.bool false, undef, Value.pointer (some ⟨bs, 0, none⟩), Value.pointer (some ⟨bs, 0, none⟩), Value.pointer (some ⟨bs, 1, none⟩), Value.map (some bm), Value.pointer (some ⟨w.heap.size, 0, none⟩), Value.agg (hcells v.id), Value.agg (vcells v), Value.pointer (some ⟨bs, 0, none⟩), Value.int IntKind.i64 (floorOf keep (l ++ [v])), Value.pointer (some ⟨bs, 0, none⟩), Value.func (Fn.func 15) #[] #[Value.pointer (some ⟨S4 + 1 + 1, 0, none⟩)], Value.agg (vcells x.val), undef, undef, undef, undef, undef, undef, undef, undef, undef, undef, undef, undef, undef, undef, undef, undef, undef, undef, undef, undef, undef, undef], defers := [] }) ?hAx ?assign ?body ?done ?stop
  case hI =>
    rintro pre A B row ⟨v', h1, h2, h3⟩ hg hr
    have hne : ∀ j, A.heap[j]?.any (·.isCells) → row ≠ some j := by
      intro j hj e
      obtain ⟨_, o, ho, hc⟩ := hr j e
      rw [ho] at hj; simp [hc] at hj
    refine ⟨v', h1.kept hg (fun e => hne _ (by rw [show A.heap[S4 + 1]? = _ from h1]; rfl) e.symm), h2.kept hg ?_, ?_⟩
    · rcases h2.2 with ⟨rfl, _⟩ | ⟨g, cap, cur, rfl, _, hgb, _⟩
      · exact .inl rfl
      · exact .inr (fun e => hne g (by rw [hgb]; rfl) e.symm)
    · exact only_grown h3 hg (fun r e => (hr r e).1)
  case hAx =>
    rintro x a' _ A B row ⟨Bx, h1, h2⟩ hg hr
    refine ⟨Bx, (hg.block Bx (Array.getElem?_eq_some_iff.1 h1).1 (fun e => ?_)).trans h1, h2⟩
    obtain ⟨_, o, ho, hc⟩ := hr Bx e.symm
    rw [h1] at ho; cases ho; cases hc
  case assign =>
    intro l' pre x W K hI hK
    obtain ⟨v', i1, i2, i3⟩ := hI
    have hNW : W5.heap.size ≤ W.heap.size := i3.size
    gi_wp2
    refine hK _ _ ((KeepsOthers.alloc W _).from _) (KpO.of_below (owns_box (n₀ := W5.heap.size) (by omega)) hNW ((Below.refl _ _).alloc (Nat.le_refl _) _)) ⟨v', i1.alloc _, i2.alloc _, only_alloc i3 _⟩ ⟨W.heap.size, ?_, rfl⟩
    rw [heap_alloc, if_pos rfl]
  case body =>
    rintro l' pre x a' W hl' ⟨r, hr⟩ ⟨v', i1, i2, i3⟩ ⟨Bx, hBx, rfl⟩ hplen
    have hNW : W5.heap.size ≤ W.heap.size := i3.size
    have hfc : W.cell? ⟨S4, 0, none⟩ = some (.int .i64 (floorOf keep (l ++ [v]))) := by
      have := (i3.block S4 (by omega) (by omega)).trans hb7
      simp [World.cell?, this]
    obtain ⟨p1, -, -, p4, -, -⟩ := vblock hBx
    have hbc := i1.cell
    by_cases hd : x.val.depth < floorOf keep (l ++ [v])
    · have hd' : decide (x.val.depth < floorOf keep (l ++ [v])) = true := by simpa using hd
      have hlen1 : (goneOf (floorOf keep (l ++ [v])) (vals pre)).length + 1 ≤ 101 := by
        have h1 := goneOf_length (floorOf keep (l ++ [v])) (vals pre)
        rw [length_vals] at h1
        simp at hplen; omega
      have hrow1 : rowAt (W.alloc (Obj.cells (vcells x.val) 35)) W.heap.size 0 66 = some (vcells x.val) := by
        rw [rowAt_of (c := vcells x.val) (t := 35) (fr := (0, 0)) (by rw [heap_alloc, if_pos rfl]) 0 66 (by simp)]; simp
      obtain ⟨g, cap, W3, happ, ho3, hg3, hgg⟩ := run_append_elem (P := Try.prog) (ty := 28) Try.underlying28 elemV (by decide) size_vcells one_vcells (i2.alloc (Obj.cells (vcells x.val) 35)) x.val W.heap.size 1 hrow1 (by omega) (by simp only [maxLen]; omega) (by simp; omega)
      obtain ⟨c1, c2, c3, c4, c5, c6⟩ := Boxed.collected i1 (by decide) i2 hNW (by omega) ho3 hg3 hgg
      have hc1 := c1.cell
      have hf1 := c1.frozen
      have hsn := goneOf_snoc (l := vals pre) hd
      have hlsn : (goneOf (floorOf keep (l ++ [v])) (vals pre ++ [x.val])).length = (goneOf (floorOf keep (l ++ [v])) (vals pre)).length + 1 := by rw [hsn]; simp
      rw [← hsn] at c3
      have C2 := Lib.hid c2
      have C3 := Lib.hid c3
      have C4 := Lib.hid (c4.from W5.heap.size)
      have C5 := Lib.hid c5
      have C6 := Lib.hid (c6 W5 (Nat.le_refl _) i3)
      have HL := Lib.hid hlsn
      clear c1 c2 c3 c4 c5 c6 i1 i2 i3 hr hg3 hgg ho3 hd hsn hlsn hBx hl'
      gi_wp2_with (gi_at_builtin; refine wpListIn_builtin_run rfl _ _ _ rfl _ _ rfl rfl _ _ happ ?_)
      refine ⟨C4.out, C5.out, _, C2.out, ?_, C6.out⟩
      rw [vals_snoc, HL.out]
      exact C3.out
    · have hd' : decide (x.val.depth < floorOf keep (l ++ [v])) = false := by simpa using hd
      gi_wp2
      refine ⟨KeepsFrom.refl _ _, ⟨Nat.le_refl _, fun _ _ h _ _ => h, fun _ _ h => h⟩, v', i1, ?_, i3⟩
      rw [vals_snoc, goneOf_snoc_no (l := vals pre) (x := x.val) (by omega), ← hsz5]
      exact i2
  case done =>
    rintro D xs W hD hS ⟨v', i1, i2, i3⟩ hK
    have hGP : (goneOf (floorOf keep (l ++ [v])) (vals xs)).Perm (goneOf (floorOf keep (l ++ [v])) (l ++ [v])) := goneOf_perm hS
    have hrem := remain_gone (L := l ++ [v]) hapn hGP
    have hglen : (goneOf (floorOf keep (l ++ [v])) (vals xs)).length = (gone keep l v).length := hGP.length_eq
    have hg101 : (goneOf (floorOf keep (l ++ [v])) (vals xs)).length ≤ 101 := by
      have h1 := goneOf_length (floorOf keep (l ++ [v])) (vals xs)
      have h2 := hS.length_eq
      simp at h2; omega
    generalize goneOf (floorOf keep (l ++ [v])) (vals xs) = G at *
    obtain ⟨q, cap, rfl, hrows⟩ : ∃ q cap, v' = .slice q G.length cap ∧ ∀ (k : Nat) (x : V), G[k]? = some x → ∃ g, q = some ⟨g, 0, none⟩ ∧ W5.heap.size ≤ g ∧ g < W.heap.size ∧ rowAt W g (k * 66) 66 = some (vcells x) := by
      rcases i2.2 with ⟨h1, h2⟩ | ⟨g, cap, cur, h1, h2, h3, h4⟩
      · have : G = [] := List.eq_nil_of_length_eq_zero h2
        subst this
        exact ⟨_, _, h1, fun k x h => by simp at h⟩
      · subst h1
        refine ⟨_, _, rfl, fun k x hk => ⟨g, rfl, h2, (Array.getElem?_eq_some_iff.1 h3).1, rowAt_owned size_vcells (by decide) i2 k x hk⟩⟩
    have hc8 := i1.cell
    have hs6 : St W bs bm keep (l ++ [v]) := by
      refine ⟨(i3.block bs (by omega) (by omega)).trans hs5.blk, ?_⟩
      obtain ⟨es, c, e1, e2⟩ := hs5.map
      exact ⟨es, c, (i3.block bm (by omega) (by omega)).trans e1, e2⟩
    have hO6 : Only bm w W := by
      have h1 := hO5
      have h2 : W5.heap.size ≤ W.heap.size := i3.size
      exact ⟨i3.os.trans h1.os, i3.tape.trans h1.tape, i3.output.trans h1.output, Nat.le_trans h1.size h2, fun k hk hn => (i3.block k (by omega) (by omega)).trans (h1.block k hk hn)⟩
    have hWsz : W5.heap.size ≤ W.heap.size := i3.size
    have hDlt := (Array.getElem?_eq_some_iff.1 hK).1
    have HS6 := Lib.hid hs6
    have HO6 := Lib.hid hO6
    have HK := Lib.hid hK
    have HR := Lib.hid hrows
    have HREM := Lib.hid hrem
    have HGL := Lib.hid hglen
    clear i1 i2 i3 hstops hs5 hO5 hs6 hO6 hK hrows hrem hglen hS hGP hb7 hb8 hbn hf h
    gi_wp2
    gi_loopw [40] (fun i wr => ∃ k : Nat, k ≤ G.length ∧ i = .int .i64 k ∧ Hid (St wr bs bm keep (remain ((G.take k).map (·.id)) (l ++ [v]))) ∧ Hid (Only bm W wr)) (fun i _ => G.length - (intOf i).toNat)
    case atStart => exact ⟨0, by omega, rfl, by rw [List.take_zero]; show St _ _ _ _ (remain [] _); rw [remain_nil]; exact HS6.out, Only.refl _ _⟩
    case round =>
      obtain ⟨k, hk, rfl, hst, hon⟩ := hrel
      by_cases hlt : k < G.length
      · have hx : G[k]? = some G[k] := List.getElem?_eq_getElem hlt
        obtain ⟨g, rfl, g1, g2, g3⟩ := HR.out k _ hx
        have htk : (G.take (k + 1)).map (·.id) = (G.take k).map (·.id) ++ [G[k].id] := by rw [List.take_add_one, hx, List.map_append]; rfl
        generalize G[k] = x at *
        have hrow : rowAt wr g (k * 66) 66 = some (vcells x) := by
          have := hon.out.block g g2 (by omega)
          unfold rowAt at g3 ⊢
          rw [this]; exact g3
        obtain ⟨W7, hW7⟩ : ∃ W7, wr.alloc (Obj.cells (vcells x) 35) = W7 := ⟨_, rfl⟩
        have hB7 : Below wr.heap.size wr W7 := by subst hW7; exact (Below.refl _ _).alloc (Nat.le_refl _) _
        have hx7 : W7.heap[wr.heap.size]? = some (.cells (vcells x) 35) := by subst hW7; rw [heap_alloc, if_pos rfl]
        obtain ⟨-, q2, -, -, -, -⟩ := vblock hx7
        have hs7 := hst.out.later hB7
        have c7 := hs7.c1
        obtain ⟨W8, hdel, hm8, ho8, hsz8⟩ := run_delete_of (P := Try.prog) keyH Try.underlying46 (w := W7.drew) hs7.map x.id 0 #[46, 32] rfl
        have hs8 : St W8 bs bm keep (remain ((G.take (k + 1)).map (·.id)) (l ++ [v])) := by
          refine ⟨(ho8.block bs hs7.lt hs7.ne).trans hs7.blk, ?_⟩
          rw [htk, ← remain_snoc]
          have := delK_ventry x.id (remain ((G.take k).map (·.id)) (l ++ [v])) (hapn.filter _)
          rw [show (remain ((G.take k).map (·.id)) (l ++ [v])).map (fun v => (v.id, Value.agg (vcells v))) = (remain ((G.take k).map (·.id)) (l ++ [v])).map ventry from rfl, this] at hm8
          exact hm8
        have hO8 : Only bm W W8 := (only_below hon.out hB7).trans ⟨ho8.os, ho8.tape, ho8.output, ho8.size, ho8.block⟩
        have HS8 := Lib.hid hs8
        have HO8 := Lib.hid hO8
        change (Builtin.delete_ _ _ #[_, .agg (hcells x.id)]).run _ _ = _ at hdel
        clear hst hon hx htk g1 g2 g3 hB7 hx7 hs7 hm8 ho8 hsz8 hs8 hO8
        gi_wp2
        gi_region
        gi_wp2
        go_roundw
        case rel => exact ⟨k + 1, by omega, by simp, HS8, HO8⟩
        case measure => simp [intOf]; omega
      · obtain rfl : k = G.length := by omega
        rw [List.take_length, HREM.out] at hst
        have hc8' : wr.cell? ⟨S4 + 1, 0, none⟩ = some (.slice q G.length cap) := by
          have := hon.out.block (S4 + 1) (by omega) (by omega)
          unfold World.cell? at hc8 ⊢
          rw [this]; exact hc8
        have hK' : wr.heap[D]? = some (.deferred (some [])) := (hon.out.block D hDlt (by omega)).trans HK.out
        have hon' := HO6.out.trans hon.out
        have HST := Lib.hid hst.out
        have HON := Lib.hid hon'
        have HK' := Lib.hid hK'
        clear hst hon hK' hon' HR HREM HS6 HO6 HK
        gi_wp2
        refine ⟨by simp, .inl ⟨_, _, rfl, run_takeDeferred HK'.out, ?_⟩⟩
        refine ⟨_, results_tmp2 rfl _ _ _, ⟨q, cap, ?_⟩, ?_, ?_⟩
        · rw [← HGL.out]; rfl
        · exact HST.out.below (B := D) ⟨rfl, rfl, rfl, by simp, fun k hk => World.putObj_heap_other (by omega)⟩ (by omega) (by omega)
        · exact only_grown HON.out (grownBy_putObj' wr D _) (fun r e => by cases e; omega)
  case stop =>
    rintro D c pre W _ _ h _
    exact h.elim

theorem Insert_any (bs bm : Nat) (keep : Int) (hk1 : 1 ≤ keep) (hk2 : keep ≤ 64) (l : List V) (hap : Apart l) (hbd : Bd l) (hlen : l.length ≤ 100) (v : V) (w : World) (h : St w bs bm keep l) :
    Calls Try.prog 7 #[.pointer (some ⟨bs, 0, none⟩), .agg (vcells v)] w fun e w' =>
      (∃ p cap, e = .returned (.tuple #[.slice p (goneN keep l v) cap, .int .i64 (checkOf keep l v)])) ∧ St w' bs bm keep (insOf keep l v) ∧ Only bm w w' := by
  unfold goneN insOf
  by_cases he : checkOf keep l v = 0
  · rw [if_pos he, if_pos he, he]
    exact Insert_ok bs bm keep hk1 hk2 l hap hbd hlen v w h he
  · rw [if_neg he, if_neg he]
    exact (Insert_no bs bm keep hk1 hk2 l hap hbd v w h he).mono fun e w' ⟨h1, h2⟩ => ⟨⟨_, _, h1⟩, h.later h2, Below.only h2 bm⟩

theorem insOf_apart {keep : Int} {l : List V} {v : V} (h : Apart l) : Apart (insOf keep l v) := by
  unfold insOf
  split
  · rename_i he
    exact (apart_snoc h (check_zero he).2.2).filter _
  · exact h
theorem insOf_bd {keep : Int} {l : List V} {v : V} (h : Bd l) : Bd (insOf keep l v) := by
  unfold insOf
  split
  · rename_i he
    obtain ⟨h1, h2, _⟩ := check_zero he
    intro u hu
    exact bd_snoc h h1 h2 u (List.mem_filter.1 hu).1
  · exact h
theorem insOf_length (keep : Int) (l : List V) (v : V) : (insOf keep l v).length ≤ l.length + 1 := by
  unfold insOf
  split
  · have := List.length_filter_le (fun x : V => !decide (x.depth < floorOf keep (l ++ [v]))) (l ++ [v])
    simpa [putIn] using this
  · omega

end Go.Proofs.Ytdmhaajekmaadaa
