/- The store of vertices: All, whose rounds come once for each vertex. Of a loop's body is asked that it leaves as it lay what isn't its own. -/
import Derived.Test.YtdmhaajekmaadaaDagE
import Derived.Test.YtdmhaajekmaadaaKitF
import Derived.Test.YtdmhaajekmaadaaShelf
import Derived.Shelf.SlSortCmp.NoneTotal
import Derived.RangeFuncBox
import Derived.RangeFuncLeaves
import Derived.Shelf.Abstract
import Derived.WalkKit
import Derived.OwnWalkIn
import Derived.TacticsInMore
import Derived.LoopNIn
import Derived.LoopIn
namespace Go.Proofs.Ytdmhaajekmaadaa
open Go.RowKit Go.Shelf

attribute [local go_sem] Oper.semAt_some

set_option maxHeartbeats 400000 in
theorem All_any (bs : Nat) (w : World) :
    Calls Try.prog 9 #[.pointer (some ⟨bs, 0, none⟩)] w fun e w' => e = .returned (.func (.func 15) #[] #[.pointer (some ⟨w.heap.size, 0, none⟩)]) ∧ w' = w.alloc (.cells #[.pointer (some ⟨bs, 0, none⟩)] 24) := by
  go_enter Try.func9, Try.ntmps9
  go_wp2
  go_ret
  exact ⟨rfl, rfl⟩

/-- What came, as vertices. -/
def vals {l : List V} (xs : List { u // u ∈ l }) : List V := xs.map (·.1)
theorem vals_snoc {l : List V} (xs : List { u // u ∈ l }) (x : { u // u ∈ l }) : vals (xs ++ [x]) = vals xs ++ [x.1] := by simp [vals]
theorem length_vals {l : List V} (xs : List { u // u ∈ l }) : (vals xs).length = xs.length := by simp [vals]
/-- Who lies below a floor. -/
def goneOf (fl : Int) (l : List V) : List V := l.filter fun x => decide (x.depth < fl)
theorem goneOf_snoc {fl : Int} {l : List V} {x : V} (h : x.depth < fl) : goneOf fl (l ++ [x]) = goneOf fl l ++ [x] := by simp [goneOf, h]
theorem goneOf_snoc_no {fl : Int} {l : List V} {x : V} (h : ¬ x.depth < fl) : goneOf fl (l ++ [x]) = goneOf fl l := by simp [goneOf, h]
theorem goneOf_length (fl : Int) (l : List V) : (goneOf fl l).length ≤ l.length := List.length_filter_le _ _
theorem goneOf_perm {fl : Int} {l m : List V} (h : l.Perm m) : (goneOf fl l).Perm (goneOf fl m) := h.filter _

/-- A vertex whose depth may be. -/
abbrev BV := { v : V // 0 ≤ v.depth ∧ v.depth ≤ 4611686018427387903 }
instance : Inhabited BV := ⟨⟨V.zero, by simp [V.zero]⟩⟩
def bvenc (x : BV) : Array Value := vcells x.1
theorem size_bvenc (x : BV) : (bvenc x).size = 66 := size_vcells _
theorem one_bvenc (x : BV) : allOne (bvenc x) = true := one_vcells _
def bvcmp (x y : BV) : Int := if x.1.depth = y.1.depth then hcmp x.1.id y.1.id else x.1.depth - y.1.depth

theorem bvcmp_neg (x y : BV) : bvcmp x y < 0 ↔ x.1.depth < y.1.depth ∨ x.1.depth = y.1.depth ∧ hcmp x.1.id y.1.id < 0 := by
  unfold bvcmp
  split <;> rename_i h
  · constructor
    · intro h2; exact .inr ⟨h, h2⟩
    · rintro (h2 | h2)
      · omega
      · exact h2.2
  · omega

theorem bv_swo : Sort.SWO (Go.Proofs.ltOf bvcmp) := by
  refine ⟨fun x => ?_, fun x y z h1 h2 => ?_, fun x y z h1 h2 => ?_⟩
  · simp [ltOf, bvcmp, hcmp_self]
  · simp only [ltOf, decide_eq_true_eq, bvcmp_neg] at *
    rcases h1 with h1 | ⟨h1, h1'⟩ <;> rcases h2 with h2 | ⟨h2, h2'⟩
    · left; omega
    · left; omega
    · left; omega
    · right; exact ⟨by omega, hcmp_trans h1' h2'⟩
  · simp only [ltOf, decide_eq_false_iff_not, bvcmp_neg, not_or, not_and, Int.not_lt] at *
    obtain ⟨a1, a2⟩ := h1
    obtain ⟨b1, b2⟩ := h2
    refine ⟨by omega, fun e => ?_⟩
    have e1 : x.1.depth = y.1.depth := by omega
    have e2 : y.1.depth = z.1.depth := by omega
    have c1 := a2 e1
    have c2 := b2 e2
    have s1 := hcmp_swap x.1.id y.1.id
    have s2 := hcmp_swap y.1.id z.1.id
    have s3 := hcmp_swap x.1.id z.1.id
    have hz1 := @hcmp_zero x.1.id y.1.id
    have hz2 := @hcmp_zero y.1.id z.1.id
    by_cases q1 : hcmp x.1.id y.1.id = 0
    · rw [hz1 q1]; exact c2
    · by_cases q2 : hcmp y.1.id z.1.id = 0
      · rw [← hz2 q2]; exact c1
      · have := @hcmp_trans z.1.id y.1.id x.1.id (by omega) (by omega)
        omega

theorem bv_lift : ∀ ps : List V, Bd ps → ∃ qs : List BV, qs.map (·.1) = ps
  | [], _ => ⟨[], rfl⟩
  | v :: r, h => by
    obtain ⟨qs, e⟩ := bv_lift r (fun u hu => h u (by simp [hu]))
    exact ⟨⟨v, h v (by simp)⟩ :: qs, by simp [e]⟩
theorem bv_flat (qs : List BV) : flat vcells (qs.map (·.1)) = flat bvenc qs := by simp [flat, bvenc, List.flatMap_map]

theorem bv_cmpLays (blk off size : Nat) (w : World) : CmpLays Try.prog 17 #[] (fun v => (bvenc v).toList) 66 bvcmp blk off size w := by
  intro m os dk _ x y
  have := cmpV_any x.1 y.1 x.2 y.2 (sortWorldK (fun v => (bvenc v).toList) 66 w blk off m dk os)
  simpa [bvenc, bvcmp] using this

theorem elemV : ElemInfo Try.prog 35 66 80 := elemInfo_of (z := .agg (vcells V.zero)) (by kernel_rfl) (by simp [Value.cells])

@[go_sem ↓] theorem bsV0 (n : Nat) (ps : Array (Nat × Value)) : Instr.buildSlice 28 n ps = bsRow 28 n ps := rfl
@[go_sem] theorem bsV (w : World) (v : V) : (bsRow 28 1 #[(0, .agg (vcells v))]).run Try.prog w = .ok (.slice (some ⟨w.heap.size, 0, none⟩) 1 1) (w.alloc (.cells (vcells v) 35)) :=
  run_buildSlice_one Try.underlying28 rowV zeroV (by simp) (by decide) (by decide) w (vcells v) (by simp)

/-- What a sorted slice holds. -/
structure SortedAt (R : Nat) (w : World) (g : Nat) (o : Obj) (qs : List V) : Prop where
  ge : R ≤ g
  obj : w.heap[g]? = some o
  cells : o.isCells = true
  row : ∀ j x, qs[j]? = some x → rowOf o (j * 66) 66 = some (vcells x)

theorem Sort_any (R : Nat) (wr : World) (g cap : Nat) (ps : List V) (hbd : Bd ps) (hlen : ps.length ≤ 1000) (ho : wr.ownsRow R 35 66 (.slice (some ⟨g, 0, none⟩) ps.length cap) ps.length (flat vcells ps)) (hR : R ≤ wr.heap.size) :
    Calls Try.prog 16 #[.slice (some ⟨g, 0, none⟩) ps.length cap, .func (.func 17) #[] #[]] wr fun e w' => e = .returned (.tuple #[]) ∧ Below R wr w' ∧ ∃ qs o, qs.Perm ps ∧ SortedAt R w' g o qs := by
  obtain ⟨bs, rfl⟩ := bv_lift ps hbd
  rw [bv_flat] at ho
  have hH := holdsK_owned size_bvenc (by decide) ho
  have hlt := ho.lt g rfl
  have hsz : (bs.toArray).size = (bs.map (·.1)).length := by simp
  have hc := AnyQ.slices_SortFunc (P := Try.prog) Try.sortV 66 Try.isAgg35 Try.sizeOf35 (fun v : BV => (bvenc v).toList) (fun x => by simp [bvenc]) (fun x v hv => mem_allOne (one_bvenc x) v (by simpa using hv)) bvcmp bv_swo 17 #[] g 0 cap bs.toArray wr
    (enters_of Try.func17 (by kernel_rfl) rfl) (bv_cmpLays g 0 _ wr) hH hlt.2 (by rw [hsz]; omega)
  rw [hsz] at hc
  refine hc.mono ?_
  rintro e w' ⟨rfl, d', n, os, hp, -, rfl⟩
  have hB := below_sortWorldK (fun v : BV => (bvenc v).toList) 66 wr g 0 n d' os R hlt.1 hR
  have hd : d'.size = bs.length := by have := hp.1; simpa using this
  have hH' : Sort.HoldsK (fun v : BV => (bvenc v).toList) 66 (sortWorldK (fun v : BV => (bvenc v).toList) 66 wr g 0 n d' os) g 0 d' :=
    holdsK_sortWorldK_c _ 66 wr g 0 bs.toArray d' n os hH hlt.2 (by simpa using hp.1)
  have hperm : (d'.toList.map (·.1)).Perm (bs.map (·.1)) := by
    have := hp.2.2
    simp only [List.size_toArray, List.length_map] at this
    have e1 : d'.extract 0 bs.length = d' := by rw [← hd]; simp
    rw [e1] at this
    simp at this
    exact this.map _
  refine ⟨rfl, hB, d'.toList.map (·.1), ?_⟩
  have hrow : ∀ j x, (d'.toList.map (·.1))[j]? = some x → rowAt (sortWorldK (fun v : BV => (bvenc v).toList) 66 wr g 0 n d' os) g (j * 66) 66 = some (vcells x) := by
    intro j x hx
    have hj : j < d'.size := by
      by_cases h : j < d'.size
      · exact h
      · rw [List.getElem?_eq_none (by simp; omega)] at hx; cases hx
    rw [rowAt_holdsK size_bvenc (by decide) hH' j hj]
    simp [hj] at hx
    simp [bvenc, hx]
  have hob : ∃ o, (sortWorldK (fun v : BV => (bvenc v).toList) 66 wr g 0 n d' os).heap[g]? = some o ∧ o.isCells = true := by
    rcases ho.2 with ⟨hv, _⟩ | ⟨g', cap', cur, hv, -, hg, -⟩
    · cases hv
    · cases hv
      simp only [sortWorldK, Sort.grow, Sort.putRowK, Sort.putRow, Sort.mapBlock, Sort.ahead]
      rw [Array.getElem?_append_left (by simp; exact hlt.2), Array.getElem?_modify, if_pos rfl, hg]
      exact ⟨_, rfl, rfl⟩
  obtain ⟨o, ho1, ho2⟩ := hob
  refine ⟨o, hperm, ⟨hlt.1, ho1, ho2, fun j x hx => ?_⟩⟩
  have := hrow j x hx
  unfold rowAt at this
  rw [ho1] at this
  cases o <;> first | exact this | cases this

set_option maxHeartbeats 2000000 in
set_option maxRecDepth 100000 in
/-- The function that All answers: every vertex comes once. -/
theorem All1_stops (bs bm : Nat) (keep : Int) (l : List V) (hbd : Bd l) (hlen : l.length ≤ 1000) (Bn n : Nat) (hn : 1 ≤ n) (Own : World → Nat → Prop) (w : World) (hBn : w.heap[Bn]? = some (.cells #[.pointer (some ⟨bs, 0, none⟩)] 24)) (h : St w bs bm keep l)
    (hO : Owns w.heap.size Own) (hOw : ∀ k, Own w k → k < w.heap.size) :
    SeqStopsK Fence.wide n Try.prog 15 #[.pointer (some ⟨Bn, 0, none⟩)] (fun x : { v // v ∈ l } => #[.agg (vcells x.1)]) (KpO Own) (fun xs => (vals xs).Perm l) (fun _ => True) l.length w := by
  intro L J Jx W hW hJ hJx hY h0
  have hBlt : Bn < w.heap.size := (Array.getElem?_eq_some_iff.1 hBn).1
  have hc0 : W.cell? ⟨Bn, 0, none⟩ = some (.pointer (some ⟨bs, 0, none⟩)) := by
    have := (hW.block Bn hBlt).trans hBn
    simp [World.cell?, this]
  have hs := h.later hW
  have hc1 := hs.c1
  obtain ⟨x, hrange, hit, hrow⟩ := run_range_map (P := Try.prog) (MT := 46) Try.underlying46 hs.map
  obtain ⟨R, hR⟩ : ∃ R, W.heap.size = R := ⟨_, rfl⟩
  obtain ⟨W1, hW1⟩ : ∃ W1, W.alloc x = W1 := ⟨_, rfl⟩
  have hB1 : Below R W W1 := by subst hW1; rw [← hR]; exact (Below.refl _ _).alloc (Nat.le_refl _) _
  have hbR : bm < R := by rw [← hR]; exact hs.ltm
  rw [hR, hW1] at hrange hit
  have HIT := Lib.hid hit
  have HB1 := Lib.hid hB1
  have HW := Lib.hid hW
  have HBD := Lib.hid hbd
  clear h hs hrow hit hB1 hW1 hW hbd
  refine callsIn_of_wp Try.func15 rfl trivial ?_ rfl
  simp only [Try.ntmps15, List.size_toArray, List.length_cons, List.length_nil, Nat.reduceAdd, Nat.reduceSub, Array.replicate_succ, Array.replicate_zero, List.push_toArray, List.append_toArray, List.nil_append, List.cons_append]
  gi_wp2
  gi_loopw [3] (fun v wr => ∃ ps left : List V, Hid ((ps ++ left).Perm l) ∧ Hid (IterAt hval wr R bm (l.map ventry) (left.map ventry)) ∧ Hid (wr.ownsRow R 35 66 v ps.length (flat vcells ps)) ∧ Hid (Below R W wr)) (fun _ wr => iterLeft wr R bm)
  case atStart => exact ⟨[], l, by simp [Hid], HIT.out, World.ownsRow_nil _ _ _ _, HB1.out⟩
  case round =>
    obtain ⟨ps, left, hp, hi, ho, hb⟩ := hrel
    clear HIT HB1 hrange hc0 hc1
    rcases run_next_map (P := Try.prog) hi.out (by omega) 0 with ⟨hl, hn'⟩ | ⟨j, p, w', hj, hn', hi', hlast, honly, hsz⟩
    · have hl' : left = [] := by simpa using hl
      subst hl'
      have hpl : ps.Perm l := by simpa using hp.out
      have hbp : Bd ps := fun v hv => HBD.out v (hpl.mem_iff.1 hv)
      have hll : ps.length = l.length := hpl.length_eq
      have hRr : R ≤ wr.heap.size := by have := hb.out.size; omega
      clear hi hl hp
      cases ps with
      | nil =>
        obtain ⟨p, cap, rfl⟩ : ∃ p cap, u3 = .slice p 0 cap := by
          rcases ho.out.2 with ⟨h, _⟩ | ⟨g, cap, _, h, _⟩
          · exact ⟨_, _, h⟩
          · exact ⟨_, _, h⟩
        have hsort := AnyF.slices_SortFunc_none (P := Try.prog) Try.sortV p cap (.func (.func 17) #[] #[]) wr
        have hJ2 : J [] wr := hJ [] W wr none h0 ⟨hb.out.os, hb.out.tape, hb.out.output, hb.out.size, fun k hk _ => hb.out.block k (by omega)⟩ (by simp)
        obtain rfl : l = [] := List.nil_perm.1 hpl
        clear hb ho hRr hpl hbp hll h0 HBD
        gi_wp2_with (refine ⟨trivial, ?_⟩; gi_at_call 16; refine (callsIn_wide.2 hsort).mono ?_; rintro e W2 ⟨rfl, rfl⟩)
        gi_loopw [27] (fun i wr2 => i = .int .i64 0 ∧ J [] wr2) (fun i _ => 0)
        case atStart => exact ⟨rfl, hJ2⟩
        case round =>
          obtain ⟨rfl, hJs⟩ := hrel
          gi_wp2
          go_end0
          exact ⟨⟨_, rfl⟩, .inl ⟨[], by simp [vals], hJs⟩⟩
      | cons v0 ps =>
        obtain ⟨g, cap, rfl⟩ := ownsRow_succ ho.out
        have hsort := Sort_any R wr g cap (v0 :: ps) hbp (by omega) ho.out hRr
        simp only [List.length_cons] at hsort
        have hps : ps.length ≤ 1000 := by simp at hll; omega
        gi_wp2_with (refine ⟨trivial, ?_⟩; gi_at_call 16; refine (callsIn_wide.2 hsort).mono ?_; rintro e W2 ⟨rfl, hB2, qs, o, hq, hsa⟩)
        have hwR : w.heap.size ≤ R := by rw [← hR]; exact HW.out.size
        have hBW2 : Below R W W2 := hb.out.trans hB2
        have hJ2 : J [] W2 := hJ [] W W2 none h0 ⟨hBW2.os, hBW2.tape, hBW2.output, hBW2.size, fun k hk _ => hBW2.block k (by omega)⟩ (by simp)
        have hOw2 : ¬ Own W2 g := fun e => by
          have h1 := hOw g ((hO.low w W2 g (HW.out.trans (hBW2.mono hwR))).1 e)
          have h2 := hsa.ge
          omega
        have hql : qs.Perm l := hq.trans hpl
        have hqlen : qs.length = ps.length + 1 := by simpa using hq.length_eq
        have hsz2 : R ≤ W2.heap.size := by have := hBW2.size; omega
        have HSA := Lib.hid hsa
        have HO2 := Lib.hid hOw2
        have HQ := Lib.hid hql
        clear hb hn' hRr hpl hbp ho hsort hB2 hq hsa hOw2 hql h0 HBD
        gi_loopw [27] (fun i wr2 => ∃ (k : Nat) (pre : List { v // v ∈ l }), k ≤ ps.length + 1 ∧ i = .int .i64 k ∧ Hid (pre.map (·.1) = qs.take k) ∧ J pre wr2 ∧ Hid (wr2.heap[g]? = some o) ∧ Hid (¬ Own wr2 g) ∧ R ≤ wr2.heap.size) (fun i _ => (ps.length + 1) - (intOf i).toNat)
        case atStart => exact ⟨0, [], by omega, rfl, by simp [Hid], hJ2, HSA.out.obj, HO2, hsz2⟩
        case round =>
          obtain ⟨k, pre, hk, rfl, hpre, hJs, hob, hown, hsz⟩ := hrel
          by_cases hlt : k < ps.length + 1
          · have hv : qs[k]? = some qs[k] := List.getElem?_eq_getElem (by omega)
            have hmem : qs[k] ∈ l := HQ.out.mem_iff.1 (List.getElem_mem _)
            have hsnoc : (pre ++ [(⟨qs[k], hmem⟩ : { v // v ∈ l })]).map (·.1) = qs.take (k + 1) := by
              rw [List.map_append, hpre.out, List.take_add_one, hv]; rfl
            have hprel : pre.length < l.length := by
              have h1 := congrArg List.length hpre.out
              have h2 := HQ.out.length_eq
              simp at h1; omega
            have hrow : rowAt wr (g) (k * 66) 66 = some (vcells qs[k]) := by
              have := HSA.out.row k _ hv
              unfold rowAt; rw [hob.out]
              cases o <;> first | exact this | cases this
            generalize qs[k] = v at *
            have hrow1 : rowAt (wr.alloc (Obj.cells (vcells v) 35)) wr.heap.size 0 66 = some (vcells v) := by
              rw [rowAt_of (c := vcells v) (t := 35) (fr := (0, 0)) (by rw [heap_alloc, if_pos rfl]) 0 66 (by simp)]; simp
            have hJ' : J pre (wr.alloc (Obj.cells (vcells v) 35)) := hJ _ _ _ none hJs (World.grownBy_alloc wr _ none) (by simp)
            obtain ⟨fn, tmps, assign, body, hy, hR3⟩ := hY pre ⟨v, hmem⟩ _ hJ' hprel
            have hg4 : (wr.alloc (Obj.cells (vcells v) 35)).heap[g]? = some o := by rw [heap_alloc, if_neg (by have := (Array.getElem?_eq_some_iff.1 hob.out).1; omega)]; exact hob.out
            have hown4 : ¬ Own (wr.alloc (Obj.cells (vcells v) 35)) g := fun e => hown.out ((hO.low _ _ g ((Below.refl _ _).alloc (by omega) _)).1 e)
            have HG4 := Lib.hid hg4
            have HO4 := Lib.hid hown4
            have HSN := Lib.hid hsnoc
            clear hv hsnoc hg4 hown4 hob hown hpre
            gi_wp2
            refine hR3.mono ?_
            rintro e W3 (⟨rfl, hJ3, hk3⟩ | ⟨rfl, hJx3⟩)
            · have hg3 : W3.heap[g]? = some o := hk3.same g o HG4.out (.inl HSA.out.cells) HO4.out
              have hown3 : ¬ Own W3 g := fun e => HO4.out (hk3.own g (Array.getElem?_eq_some_iff.1 HG4.out).1 e)
              have hsz3 : R ≤ W3.heap.size := by have := hk3.size; simp at this; omega
              gi_wp2
              go_roundw
              case rel => exact ⟨k + 1, _, by omega, by simp, HSN, hJ3, hg3, hown3, hsz3⟩
              case measure => simp [intOf]; omega
            · gi_wp2
              refine bodyPost_ret (results_none rfl _ _ _) rfl ?_
              exact ⟨⟨_, rfl⟩, .inr ⟨_, trivial, hJx3⟩⟩
          · obtain rfl : k = ps.length + 1 := by omega
            gi_wp2
            go_end0
            refine ⟨⟨_, rfl⟩, .inl ⟨pre, ?_, hJs⟩⟩
            unfold vals
            rw [hpre.out, ← hqlen, List.take_length]
            exact HQ.out
    · have hent := run_entry_map (P := Try.prog) hlast
      obtain ⟨u, hu, rfl⟩ : ∃ u, left[j]? = some u ∧ p = ventry u := by
        rw [List.getElem?_map] at hj
        cases hu : left[j]? with
        | none => rw [hu] at hj; simp at hj
        | some u => rw [hu] at hj; exact ⟨u, rfl, by simpa using hj.symm⟩
      rw [← map_eraseIdx] at hi'
      have hperm : (ps ++ [u] ++ left.eraseIdx j).Perm l := by
        rw [List.append_assoc]
        exact (List.Perm.append_left ps (perm_eraseIdx _ _ _ hu)).trans hp.out
      have hplen : ps.length + 1 ≤ l.length := by have := hperm.length_eq; simp at this; omega
      have hRw : R ≤ w'.heap.size := by rw [hsz]; have := hb.out.size; omega
      have hb' : Below R W w' := hb.out.trans (honly.below (Nat.le_refl _) (by omega))
      have hne : u3.ownBlock ≠ some R := by
        intro e
        rcases ho.out.2 with ⟨rfl, _⟩ | ⟨g, cap, cur, rfl, _, hg, _⟩
        · simp [Value.ownBlock] at e
        · obtain rfl : g = R := by simpa [Value.ownBlock] using e
          obtain ⟨es, c, sn, -, -, h3, -⟩ := hi.out.it
          rw [hg] at h3; cases h3
      have ho' : w'.ownsRow R 35 66 u3 ps.length (flat vcells ps) := by
        refine ho.out.kept (row := some R) ⟨honly.os, honly.tape, honly.output, by omega, fun k hk e => honly.block k hk (fun e' => e (by rw [e']))⟩ (.inr hne)
      obtain ⟨W2, hW2⟩ : ∃ W2, (w'.alloc (Obj.cells (vcells u) 35)).alloc (Obj.cells (vcells u) 35) = W2 := ⟨_, rfl⟩
      have hb2 : Below w'.heap.size w' W2 := by subst hW2; exact ((Below.refl _ _).alloc (Nat.le_refl _) _).alloc (by simp) _
      have ho2 : W2.ownsRow R 35 66 u3 ps.length (flat vcells ps) := by subst hW2; exact (ho'.alloc _).alloc _
      have hrow2 : rowAt W2 (w'.heap.size + 1) 0 66 = some (vcells u) := by
        subst hW2
        rw [rowAt_of (c := vcells u) (t := 35) (fr := (0, 0)) (by rw [heap_alloc, if_pos (by simp)]) 0 66 (by simp)]; simp
      obtain ⟨g, cap, W3, happ, ho3, hg3, hgg⟩ := run_append_elem (P := Try.prog) (ty := 28) Try.underlying28 elemV (by decide) size_vcells one_vcells ho2 u (w'.heap.size + 1) 1 hrow2 (by omega) (by simp only [maxLen]; omega) (by have := hb2.size; omega)
      have hi2 : IterAt hval W2 R bm (l.map ventry) ((left.eraseIdx j).map ventry) := hi'.below hb2 hi'.lt.1 hi'.lt.2
      have hnb : u3.ownBlock ≠ some R ∧ u3.ownBlock ≠ some bm := by
        refine ⟨hne, fun e => ?_⟩
        rcases ho.out.2 with ⟨rfl, _⟩ | ⟨g, cap, cur, rfl, _, hg, _⟩
        · simp [Value.ownBlock] at e
        · obtain rfl : g = bm := by simpa [Value.ownBlock] using e
          obtain ⟨es, c, sn, h3, -⟩ := hi.out.it
          rw [hg] at h3; cases h3
      have hi3 : IterAt hval W3 R bm (l.map ventry) ((left.eraseIdx j).map ventry) := hi2.block (hg3.block bm hi2.lt.1 (fun e => hnb.2 e.symm)) (hg3.block R hi2.lt.2 (fun e => hnb.1 e.symm))
      have hb3 : Below R W W3 := by
        refine ((hb'.trans (hb2.mono hRw)).grown hg3 (by have := hb2.size; omega) fun k e => (ho.out.lt k e).1)
      have hrow1 : rowAt (w'.alloc (Obj.cells (vcells u) 35)) w'.heap.size 0 66 = some (vcells u) := by
        rw [rowAt_of (c := vcells u) (t := 35) (fr := (0, 0)) (by rw [heap_alloc, if_pos rfl]) 0 66 (by simp)]; simp
      rw [← hW2] at happ
      change _ = Result.ok (Value.tuple #[.bool true, hval u.id, .agg (vcells u)]) w' at hn'
      change _ = Result.ok (Value.tuple #[hval u.id, .agg (vcells u)]) w' at hent
      have HP := Lib.hid hperm
      have HI3 := Lib.hid hi3
      have HB3 := Lib.hid hb3
      have HO3 := Lib.hid ho3
      have HLC : Hid (iterLeft W3 R bm < iterLeft wr R bm) := by
        have h1 := hi.out.count
        have h2 := hi3.count
        have h3 := (perm_eraseIdx _ _ _ hu).length_eq
        simp at h1 h2 h3
        show iterLeft W3 R bm < iterLeft wr R bm
        omega
      clear hi hp hb ho hj hu hi' hlast honly hb' hperm hsz hne ho' hb2 ho2 hrow2 hi2 hnb hi3 hb3 ho3 hg3 hgg hW2 hRw
      gi_wp2_with (gi_at_builtin; refine wpListIn_builtin_run rfl _ _ _ rfl _ _ rfl rfl _ _ happ ?_)
      exact ⟨⟨ps ++ [u], left.eraseIdx j, HP, HI3, by simpa using HO3, HB3⟩, HLC.out⟩

end Go.Proofs.Ytdmhaajekmaadaa
