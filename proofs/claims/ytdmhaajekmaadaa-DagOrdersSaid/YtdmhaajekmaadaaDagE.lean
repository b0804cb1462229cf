/- The store of vertices: Check. No condition but that the store lies as New and Insert lay it. -/
import Derived.Test.YtdmhaajekmaadaaDagD
import Derived.Deep.RegionHeld3
import Derived.Deep.Cut
namespace Go.Proofs.Ytdmhaajekmaadaa
open Go.RowKit

/-- A vertex that is there and stands wrong to a new one. -/
def wrongTo (v x : V) : Bool := decide (x.parent = v.id) && decide (x.depth - 1 ≠ v.depth)
def parentWrong (v : V) (l : List V) : Bool := match findV v.parent l with | some p => decide (p.depth ≠ v.depth - 1) | none => false
/-- What Check says. -/
def checkOf (keep : Int) (l : List V) (v : V) : Int :=
  if v.depth < 0 ∨ 4611686018427387903 < v.depth ∨ v.parent = v.id then 1
  else if (findV v.id l).isSome then 8
  else if v.depth < floorOf keep l then 13
  else if parentWrong v l then 15
  else if l.any (wrongTo v) then 15 else 0

set_option maxHeartbeats 1000000 in
set_option maxRecDepth 100000 in
theorem Check_any (bs bm : Nat) (keep : Int) (hk1 : 1 ≤ keep) (hk2 : keep ≤ 64) (l : List V) (hap : Apart l) (hbd : Bd l) (v : V) (w : World) (h : St w bs bm keep l) :
    Calls Try.prog 13 #[.pointer (some ⟨bs, 0, none⟩), .agg (vcells v)] w fun e w' => e = .returned (.int .i64 (checkOf keep l v)) ∧ Below w.heap.size w w' := by
  obtain ⟨W1, hW1⟩ : ∃ W1, w.alloc (Obj.cells (vcells v) 35) = W1 := ⟨_, rfl⟩
  have hB1 : Below w.heap.size w W1 := by subst hW1; exact (Below.refl _ _).alloc (Nat.le_refl _) _
  have hv1 : W1.heap[w.heap.size]? = some (.cells (vcells v) 35) := by subst hW1; rw [heap_alloc, if_pos rfl]
  have hs1 : W1.heap.size = w.heap.size + 1 := by subst hW1; simp
  by_cases c0 : v.depth < 0 ∨ 4611686018427387903 < v.depth ∨ v.parent = v.id
  · have hc : checkOf keep l v = 1 := by unfold checkOf; rw [if_pos c0]
    have HC := Lib.hid hc
    obtain ⟨-, k2, k3, k4, -, -⟩ := vblock hv1
    have HB := Lib.hid hB1
    clear hc h hB1 hv1
    go_enter Try.func13, Try.ntmps13
    by_cases d0 : v.depth < 0
    · clear c0
      go_wp2
      go_ret
      exact ⟨by rw [HC.out]; rfl, HB.out⟩
    · by_cases d1 : 4611686018427387903 < v.depth
      · clear c0
        go_wp2
        go_ret
        exact ⟨by rw [HC.out]; rfl, HB.out⟩
      · have d2 : decide (v.parent = v.id) = true := decide_eq_true ((c0.resolve_left d0).resolve_left d1)
        clear c0
        go_wp2
        go_ret
        exact ⟨by rw [HC.out]; rfl, HB.out⟩
  · simp only [not_or] at c0
    obtain ⟨d0, d1, d2'⟩ := c0
    have d2 : decide (v.parent = v.id) = false := by simpa using d2'
    have hc : checkOf keep l v = if (findV v.id l).isSome then 8 else if v.depth < floorOf keep l then 13 else if parentWrong v l then 15 else if l.any (wrongTo v) then 15 else 0 := by
      unfold checkOf; rw [if_neg (by simp only [not_or]; exact ⟨d0, d1, d2'⟩)]
    clear d2'
    have h1 := h.later hB1
    obtain ⟨k1, k2, k3, k4, -, -⟩ := vblock hv1
    have m1 := h1.c1
    have mo := h1.mapOf
    have lt1 := h1.lt
    have lt2 := h1.ltm
    have ne2 : bm ≠ W1.heap.size := by omega
    have lt3 : w.heap.size < W1.heap.size := by omega
    have ne3 : w.heap.size ≠ W1.heap.size := by omega
    have hg := get?_find v.id l
    have HC := Lib.hid hc
    have HB := Lib.hid hB1
    have HS := Lib.hid hs1
    have HV := Lib.hid hv1
    have fact : ∀ W, Below W1.heap.size W1 W → St W bs bm keep l ∧ W.heap[w.heap.size]? = some (.cells (vcells v) 35) ∧ Below w.heap.size w W ∧ w.heap.size < W.heap.size := fun W hb =>
      ⟨h1.later hb, (hb.block _ (by omega)).trans hv1, hB1.trans (hb.mono (by omega)), by have := hb.size; omega⟩
    have FACT := Lib.hid fact
    clear hc hB1 hv1 h1 hs1 fact
    go_enter Try.func13, Try.ntmps13
    cases hf : findV v.id l with
    | some u =>
      rw [hf] at hg
      have HC2 : Hid (checkOf keep l v = 8) := by have := HC.out; rw [hf] at this; simpa [Hid] using this
      simp only [Option.map_some] at hg
      clear hf
      go_wp2
      go_region
      go_wp2
      go_ret
      exact ⟨by rw [HC2.out]; rfl, HB.out.trans ((((Below.refl _ _).alloc (Nat.le_refl _) _).drew).mono HB.out.size)⟩
    | none =>
      rw [hf] at hg
      simp only [Option.map_none] at hg
      have HC2 : Hid (checkOf keep l v = if v.depth < floorOf keep l then 13 else if parentWrong v l then 15 else if l.any (wrongTo v) then 15 else 0) := by have := HC.out; rw [hf] at this; simpa [Hid] using this
      clear hf HC
      go_wp2
      go_region
      go_wp2
      obtain ⟨W2, hW2⟩ : ∃ W2, (W1.alloc (Obj.cells (vcells V.zero) 35)).drew = W2 := ⟨_, rfl⟩
      have hB2 : Below W1.heap.size W1 W2 := by subst hW2; exact ((Below.refl _ _).alloc (Nat.le_refl _) _).drew
      rw [hW2]
      obtain ⟨s2, v2, b2, l2⟩ := FACT.out W2 hB2
      obtain ⟨-, -, -, p4, -, -⟩ := vblock v2
      have hfl := Floor_any bs bm keep hk1 hk2 l hap hbd W2.drew (s2.later (Below.refl _ _).drew)
      generalize hfo : floorOf keep l = fl at *
      have HBB := Lib.hid hB2
      have HBW := Lib.hid b2
      clear hW2 hB2 s2 v2 b2 hfo k1 k2 k3 k4 m1 mo lt1 lt2 ne2 lt3 ne3 hg
      go_region_held3 (fun w' => w'.cell? ⟨w.heap.size, 64, none⟩ = some (.int .i64 v.depth)) (go_keep)
        ((go_at_call 10; refine hfl.mono ?_; rintro e W3 ⟨rfl, hb3⟩; have hc3 : W3.cell? ⟨w.heap.size, 64, none⟩ = some (.int .i64 v.depth) := (hb3.cell (p := ⟨w.heap.size, 64, none⟩) l2).trans p4))
      have hB3 : Below W1.heap.size W1 W3 := HBB.out.trans (((Below.refl _ W2).drew.trans hb3).mono HBB.out.size)
      obtain ⟨s3, v3, b3, l3⟩ := FACT.out W3 hB3
      obtain ⟨-, q2, q3, q4, -, -⟩ := vblock v3
      have m3 := s3.c1
      have mo3 := s3.mapOf
      have lt1 := s3.lt
      have lt2 := s3.ltm
      have ne2 : bm ≠ W3.heap.size := by omega
      have ne3 : w.heap.size ≠ W3.heap.size := by omega
      have HB3 := Lib.hid hB3
      have HBW3 := Lib.hid b3
      clear hb3 hc3 hfl l2 p4 HBB HBW s3 v3 b3 hB3
      by_cases d3 : v.depth < fl
      · have HC3 : Hid (checkOf keep l v = 13) := by have := HC2.out; rw [if_pos d3] at this; exact this
        go_wp2
        go_ret
        exact ⟨by rw [HC3.out]; rfl, HBW3.out⟩
      · have HC3 : Hid (checkOf keep l v = if parentWrong v l = true then 15 else if l.any (wrongTo v) = true then 15 else 0) := by have := HC2.out; rw [if_neg d3] at this; exact this
        clear HC2
        iterate 7 go_step
        go_cut [] from 41 (fun wc => Below W1.heap.size W1 wc ∧ Hid (parentWrong v l = false))
        case first =>
          have hg := get?_find v.parent l
          have hpw : parentWrong v l = (match findV v.parent l with | some p => decide (p.depth ≠ v.depth - 1) | none => false) := rfl
          have hbp : ∀ p, findV v.parent l = some p → 0 ≤ p.depth ∧ p.depth ≤ 4611686018427387903 := fun p hp => hbd p (findV_some hp).1
          generalize hpq : parentWrong v l = pw at *
          generalize findV v.parent l = o at *
          clear hpq
          cases o with
          | none =>
            simp only [Option.map_none] at hg hpw
            clear hbp
            subst hpw
            go_wp2
            go_region
            go_wp2
            go_meet
            case rel => exact ⟨HB3.out.trans (((((Below.refl _ _).alloc (Nat.le_refl _) _).drew).mono HB3.out.size)), trivial⟩
          | some p =>
            obtain ⟨e1, e2⟩ := hbp p rfl
            simp only [Option.map_some] at hg hpw
            clear hbp
            by_cases d4 : p.depth = v.depth - 1
            · have d4' : (p.depth != v.depth - 1) = false := by simpa using d4
              have HPW := Lib.hid hpw
              have D4 := Lib.hid d4
              clear hpw d4
              go_wp2
              go_region
              go_wp2
              go_meet
              case rel => exact ⟨HB3.out.trans (((((Below.refl _ _).alloc (Nat.le_refl _) _).drew).mono HB3.out.size)), by rw [HPW.out]; simp [D4.out, Hid]⟩
            · have d4' : (p.depth != v.depth - 1) = true := by simpa using d4
              have HC4 : Hid (checkOf keep l v = 15) := by have := HC3.out; rw [hpw, if_pos (by simpa using d4)] at this; exact this
              clear hpw d4 HC3
              go_wp2
              go_region
              go_wp2

              go_ret
              exact ⟨by rw [HC4.out]; rfl, HBW3.out.trans (((((Below.refl _ _).alloc (Nat.le_refl _) _).drew).mono HBW3.out.size))⟩
        case rest =>
          obtain ⟨hBc, hpw⟩ := hcut
          have HC4 : Hid (checkOf keep l v = if l.any (wrongTo v) = true then 15 else 0) := by have := HC3.out; rw [hpw.out] at this; simpa [Hid] using this
          obtain ⟨sc, vc, bc, lc⟩ := FACT.out wc hBc
          have mc := sc.c1
          have szc := sc.ltm
          have ltc := sc.lt
          obtain ⟨x, hrange, hit, hrow⟩ := run_range_map (P := Try.prog) (MT := 46) Try.underlying46 sc.map
          obtain ⟨R, hR⟩ : ∃ R, wc.heap.size = R := ⟨_, rfl⟩
          obtain ⟨W4, hW4⟩ : ∃ W4, wc.alloc x = W4 := ⟨_, rfl⟩
          have hB4 : Below wc.heap.size wc W4 := by subst hW4; exact (Below.refl _ _).alloc (Nat.le_refl _) _
          rw [hR, hW4] at hrange hit
          have hbw4 : Below w.heap.size w W4 := bc.trans (hB4.mono (by omega))
          have hv4 : W4.heap[w.heap.size]? = some (.cells (vcells v) 35) := (hB4.block _ lc).trans vc
          have hAR : w.heap.size < R := by omega
          have hbR : bm < R := by omega
          clear hBc hpw HC3 vc bc lc hrow q2 q3 q4 m3 mo3 lt1 lt2 ne2 ne3 HB3 HBW3 FACT hB4 d2 HV HS HB l3 hR hW4 szc ltc sc
          have HIT := Lib.hid hit
          have HV4 := Lib.hid hv4
          have HW4 := Lib.hid hbw4
          clear hit hv4 hbw4
          go_wp2
          generalize hAe : w.heap.size = A at hAR HV4 ⊢
          have HA := Lib.hid hAe
          clear hAe
          go_loopw [70] (fun _ wr => ∃ ps left : List V, Hid ((ps ++ left).Perm l) ∧ Hid (IterAt hval wr R bm (l.map ventry) (left.map ventry)) ∧ Hid (ps.any (wrongTo v) = false) ∧ Hid (wr.heap[A]? = some (.cells (vcells v) 35)) ∧ Hid (Below w.heap.size w wr)) (fun _ wr => iterLeft wr R bm)
          case atStart => exact ⟨[], l, by simp [Hid], HIT.out, rfl, HV4.out, HW4.out⟩
          case round =>
            obtain ⟨ps, left, hp, hi, hw, hv, hbw⟩ := hrel
            clear HIT HV4 HW4
            rcases run_next_map (P := Try.prog) hi.out (by omega) 0 with ⟨hl, hn⟩ | ⟨j, p, w', hj, hn, hi', hlast, honly, hsz⟩
            · have hl' : left = [] := by simpa using hl
              subst hl'
              have hpl : ps.Perm l := by simpa using hp.out
              have HF : Hid (checkOf keep l v = 0) := by
                have := HC4.out
                rw [← hpl.any_eq, hw.out] at this
                simpa [Hid] using this
              clear hi hp hl hv hw
              go_wp2
              go_ret
              exact ⟨by rw [HF.out]; rfl, hbw.out⟩
            · have hent := run_entry_map (P := Try.prog) hlast
              obtain ⟨u, hu, rfl⟩ : ∃ u, left[j]? = some u ∧ p = ventry u := by
                rw [List.getElem?_map] at hj
                cases hu : left[j]? with
                | none => rw [hu] at hj; simp at hj
                | some u => rw [hu] at hj; exact ⟨u, rfl, by simpa using hj.symm⟩
              rw [← map_eraseIdx] at hi'
              have hszr := hi.out.lt
              have hv' : w'.heap[A]? = some (.cells (vcells v) 35) := (honly.block A (by omega) (by omega)).trans hv.out
              have hA' : A < w'.heap.size := by omega
              have hAn : A ≠ w'.heap.size := by omega
              have hbw' : Below w.heap.size w w' := hbw.out.trans (honly.below (by rw [HA.out]; omega) (by rw [HA.out]; omega))
              have hperm : (ps ++ [u] ++ left.eraseIdx j).Perm l := by
                rw [List.append_assoc]
                exact (List.Perm.append_left ps (perm_eraseIdx _ _ _ hu)).trans hp.out
              have hmem : u ∈ l := hperm.mem_iff.1 (by simp)
              obtain ⟨u1, u2⟩ := hbd u hmem
              obtain ⟨-, f2, f3, f4, -, -⟩ := vblock hv'
              have HLC : Hid (iterLeft w' R bm < iterLeft wr R bm) := by
                have h1 := hi.out.count
                have h2 := hi'.count
                have h3 := (perm_eraseIdx _ _ _ hu).length_eq
                simp at h1 h2 h3
                show iterLeft w' R bm < iterLeft wr R bm
                omega
              have HP := Lib.hid hperm
              have HI := Lib.hid hi'
              have HVV := Lib.hid hv'
              have HW := Lib.hid hbw'
              have HM := Lib.hid hmem
              change _ = Result.ok (Value.tuple #[.bool true, hval u.id, .agg (vcells u)]) w' at hn
              change _ = Result.ok (Value.tuple #[hval u.id, .agg (vcells u)]) w' at hent
              clear hp hi hj hu hi' hlast honly hv hv' hbw' hperm hsz hszr hmem hbw
              have goes : ∀ W : World, Below w'.heap.size w' W → wrongTo v u = false → (∃ ps left : List V, Hid ((ps ++ left).Perm l) ∧ Hid (IterAt hval W R bm (l.map ventry) (left.map ventry)) ∧ Hid (ps.any (wrongTo v) = false) ∧ Hid (W.heap[A]? = some (.cells (vcells v) 35)) ∧ Hid (Below w.heap.size w W)) ∧ iterLeft W R bm < iterLeft wr R bm := by
                intro W hO hwr
                have hl2 := HI.out.lt
                have hi2 := HI.out.below hO hl2.1 hl2.2
                refine ⟨⟨ps ++ [u], left.eraseIdx j, HP, hi2, ?_, ?_, ?_⟩, ?_⟩
                · show _ = _; rw [List.any_append, hw.out]; simp [hwr]
                · exact (hO.block A hA').trans HVV.out
                · exact HW.out.trans (hO.mono (by rw [HA.out]; omega))
                · have h1 := hi2.count
                  have h2 := HI.out.count
                  have h3 := HLC.out
                  omega
              have GO := Lib.hid goes
              clear goes
              by_cases c1 : u.parent = v.id
              · have c1' : decide (u.parent = v.id) = true := by simpa using c1
                by_cases c2 : u.depth - 1 = v.depth
                · have c2' : (u.depth - 1 != v.depth) = false := by simpa using c2
                  have C2 := Lib.hid c2
                  clear c1 c2
                  go_wp2
                  exact GO.out _ ((Below.refl _ _).alloc (Nat.le_refl _) _) (by simp [wrongTo, C2.out])
                · have c2' : (u.depth - 1 != v.depth) = true := by simpa using c2
                  have HF : Hid (checkOf keep l v = 15) := by
                    have := HC4.out
                    have ha : l.any (wrongTo v) = true := List.any_eq_true.2 ⟨u, HM.out, by simp [wrongTo, c1, c2]⟩
                    rw [ha] at this
                    simpa [Hid] using this
                  clear c1 c2
                  go_wp2
                  go_ret
                  exact ⟨by rw [HF.out]; rfl, HW.out.trans (((Below.refl _ _).alloc (Nat.le_refl _) _).mono HW.out.size)⟩
              · have c1' : decide (u.parent = v.id) = false := by simpa using c1
                have C1 := Lib.hid c1
                clear c1
                go_wp2
                exact GO.out _ ((Below.refl _ _).alloc (Nat.le_refl _) _) (by simp [wrongTo, C1.out])

end Go.Proofs.Ytdmhaajekmaadaa
