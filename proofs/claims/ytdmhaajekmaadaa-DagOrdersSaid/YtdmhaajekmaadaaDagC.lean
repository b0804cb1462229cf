/- The store of vertices: Head. No condition but that the store lies as New and Insert lay it, its Ids being apart. -/
import Derived.Test.YtdmhaajekmaadaaDagB
import Derived.Test.YtdmhaajekmaadaaDagM
namespace Go.Proofs.Ytdmhaajekmaadaa
open Go.RowKit

def ventry (v : V) : H32 × Value := (v.id, Value.agg (vcells v))
theorem ventry_inj {a b : V} (h : ventry a = ventry b) : a = b := by
  simp only [ventry, Prod.mk.injEq, Value.agg.injEq] at h
  exact vcells_inj h.2

set_option maxHeartbeats 1000000 in
set_option maxRecDepth 100000 in
theorem Head_any (bs bm : Nat) (keep : Int) (l : List V) (hap : Apart l) (w : World) (h : St w bs bm keep l) :
    Calls Try.prog 8 #[.pointer (some ⟨bs, 0, none⟩)] w fun e w' => e = .returned (.tuple #[.agg (vcells ((headOf l).getD V.zero)), .bool (headOf l).isSome]) ∧ Below w.heap.size w w' := by
  go_enter Try.func8, Try.ntmps8
  obtain ⟨W1, hW1⟩ : ∃ W1, (w.alloc (Obj.cells (vcells V.zero) 35)).alloc (Obj.cells (vcells V.zero) 35) = W1 := ⟨_, rfl⟩
  have hB1 : Below w.heap.size w W1 := by subst hW1; exact ((Below.refl _ _).alloc (Nat.le_refl _) _).alloc (by simp) _
  have hs1 : W1.heap.size = w.heap.size + 2 := by subst hW1; simp
  have hr1 : W1.heap[w.heap.size + 1]? = some (.cells (vcells V.zero) 35) := by subst hW1; rw [heap_alloc, if_pos (by simp)]
  have hr0 : W1.heap[w.heap.size]? = some (.cells (vcells V.zero) 35) := by subst hW1; rw [heap_alloc, if_neg (by simp), heap_alloc, if_pos rfl]
  obtain ⟨x, hrange, hit, hrow⟩ := run_range_map (P := Try.prog) (MT := 46) Try.underlying46 (h.later hB1).map
  have c1 := (h.later hB1).c1
  have hlt := h.lt
  have hltm := h.ltm
  have HS := Lib.hid hs1
  have HR1 := Lib.hid hr1
  have HR0 := Lib.hid hr0
  clear h hs1 hr1 hr0
  go_wp2
  generalize hBe : w.heap.size + 1 = B
  generalize hAe : w.heap.size = A at hlt hltm ⊢ HR0
  obtain ⟨R, hRe⟩ : ∃ R, W1.heap.size = R := ⟨_, rfl⟩
  obtain ⟨W2, hW2⟩ : ∃ W2, W1.alloc x = W2 := ⟨_, rfl⟩
  rw [hW2, hRe] at hit
  rw [hRe, hW2]
  have hB2 : Below A w W2 := by
    subst hW2; rw [← hAe]; exact hB1.trans (((Below.refl _ _).alloc (Nat.le_refl _) _).mono (by rw [HS.out]; omega))
  have hb2 : W2.heap[B]? = some (.cells (vcells V.zero) 35) := by
    subst hW2; rw [heap_alloc, if_neg (by rw [HS.out]; omega), ← hBe]; exact HR1.out
  have ha2 : W2.heap[A]? = some (.cells (vcells V.zero) 35) := by
    subst hW2; rw [heap_alloc, if_neg (by rw [HS.out]; omega)]; exact HR0.out
  have hAB : A < B := by omega
  have hBR : B < R := by have := HS.out; omega
  clear hrange hrow c1 HS HR1 HR0 hB1 hW2 hRe hBe
  have HA := Lib.hid hAe
  clear hAe
  have HIT := Lib.hid hit
  have HB2 := Lib.hid hb2
  have HA2 := Lib.hid ha2
  clear hit hb2 ha2
  go_loopw [5] (fun f wr => ∃ ps left : List V, f = .bool (headOf ps).isSome ∧ Hid ((ps ++ left).Perm l) ∧ Hid (IterAt hval wr R bm (l.map ventry) (left.map ventry)) ∧
      Hid (wr.heap[B]? = some (.cells (vcells ((headOf ps).getD V.zero)) 35)) ∧ Hid (wr.heap[A]? = some (.cells (vcells V.zero) 35)) ∧ Below A w wr) (fun _ wr => iterLeft wr R bm)
  case atStart => exact ⟨[], l, rfl, by simp [Hid], HIT.out, HB2.out, HA2.out, hB2⟩
  case round =>
    obtain ⟨ps, left, rfl, hp, hi, hb, ha, hbw⟩ := hrel
    clear HIT HB2 HA2 hB2
    have hszr : R < wr.heap.size := hi.out.lt.2
    have hBs : B < wr.heap.size := by omega
    rcases run_next_map (P := Try.prog) hi.out (by omega) 0 with ⟨hl, hn⟩ | ⟨j, p, w', hj, hn, hi', hlast, honly, hsz⟩
    · have hl' : left = [] := by simpa using hl
      subst hl'
      have hpl : ps.Perm l := by simpa using hp.out
      obtain ⟨f1, -, -, -, -, -⟩ := vblock hb.out
      obtain ⟨-, -, -, -, -, f2⟩ := vblock ha.out
      have HE := Lib.hid (headOf_perm (hap.perm hpl.symm) hpl)
      generalize hho : headOf ps = o at *
      clear hi hb hp hl
      go_wp2
      refine bodyPost_ret (results_row_tmp rfl _ _ rowV (g := A) (cs := vcells (o.getD V.zero)) rfl ?_) rfl ?_
      · rw [rowAt_of (c := vcells (o.getD V.zero)) (t := 35) (fr := (0, 0)) _ 0 66 (by simp)]
        · simp
        · rw [heap_splice, if_pos rfl, ha.out]; simp [spl_vv]
      · rw [HE.out]
        exact ⟨rfl, by rw [HA.out]; exact below_splice hbw _ _ _ (Nat.le_refl _)⟩
    · have hent := run_entry_map (P := Try.prog) hlast
      obtain ⟨v, hv, rfl⟩ : ∃ v, left[j]? = some v ∧ p = ventry v := by
        rw [List.getElem?_map] at hj
        cases hv : left[j]? with
        | none => rw [hv] at hj; simp at hj
        | some v => rw [hv] at hj; exact ⟨v, rfl, by simpa using hj.symm⟩
      have hb' : w'.heap[B]? = some (.cells (vcells ((headOf ps).getD V.zero)) 35) := (honly.block B (by omega) (by omega)).trans hb.out
      have ha' : w'.heap[A]? = some (.cells (vcells V.zero) 35) := (honly.block A (by omega) (by omega)).trans ha.out
      have hbw' : Below A w w' := hbw.trans (honly.below (by omega) (by omega))
      rw [← map_eraseIdx] at hi'
      have hperm : (ps ++ [v] ++ left.eraseIdx j).Perm l := by
        have h1 : (v :: left.eraseIdx j).Perm left := perm_eraseIdx _ _ _ hv
        rw [List.append_assoc]
        exact (List.Perm.append_left ps h1).trans hp.out
      obtain ⟨f1, f2, -, f4, -, f6⟩ := vblock hb'
      have hBw : B < w'.heap.size := by omega
      have hBn : B ≠ w'.heap.size := by omega
      have HH := Lib.hid (headOf_snoc ps v)
      have HP := Lib.hid hperm
      have HI := Lib.hid hi'
      have HLC : Hid (iterLeft w' R bm < iterLeft wr R bm) := by
        have h1 := hi.out.count
        have h2 := hi'.count
        have h3 := (perm_eraseIdx _ _ _ hv).length_eq
        simp at h1 h2 h3
        show iterLeft w' R bm < iterLeft wr R bm
        omega
      have HB := Lib.hid hb'
      have HAA := Lib.hid ha'
      have HW := Lib.hid hbw'
      have HSZ := Lib.hid hsz
      change _ = Result.ok (Value.tuple #[.bool true, hval v.id, .agg (vcells v)]) w' at hn
      change _ = Result.ok (Value.tuple #[hval v.id, .agg (vcells v)]) w' at hent
      clear hp hi hb ha hbw hj hv hi' hlast honly hb' ha' hbw' hperm hsz
      have close : ∀ (W : World) (o : Option V), Only B w' W → W.heap[B]? = some (.cells (vcells (o.getD V.zero)) 35) → o = stepH (headOf ps) v →
          (∃ ps left : List V, Value.bool o.isSome = .bool (headOf ps).isSome ∧ Hid ((ps ++ left).Perm l) ∧ Hid (IterAt hval W R bm (l.map ventry) (left.map ventry)) ∧
            Hid (W.heap[B]? = some (.cells (vcells ((headOf ps).getD V.zero)) 35)) ∧ Hid (W.heap[A]? = some (.cells (vcells V.zero) 35)) ∧ Below A w W) ∧ iterLeft W R bm < iterLeft wr R bm := by
        intro W o hO hWB ho
        have hi2 := HI.out.block (hO.block bm (by have := HI.out.lt; omega) (by omega)) (hO.block R HI.out.lt.2 (by omega))
        refine ⟨⟨ps ++ [v], left.eraseIdx j, ?_, HP, hi2, ?_, ?_, ?_⟩, ?_⟩
        · rw [HH.out, ho]
        · show _ = _; rw [HH.out, ← ho]; exact hWB
        · exact (hO.block A (by omega) (by omega)).trans HAA.out
        · exact HW.out.trans (hO.below (by omega) (by omega))
        · have h1 := hi2.count
          have h2 := HI.out.count
          have h3 := HLC.out
          omega
      have CL := Lib.hid close
      clear close
      generalize ho : headOf ps = o at *
      clear ho
      cases o with
      | none =>
        simp only [Option.getD_none, Option.isSome_none] at *
        go_wp2
        exact CL.out _ (some v) (only_alloc (only_splice (Only.refl _ _) _ _) _) (by rw [heap_alloc, if_neg (by simpa using hBn), heap_splice, if_pos rfl, HB.out]; simp [spl_vv]) rfl
      | some b =>
        simp only [Option.getD_some, Option.isSome_some] at *
        have fin1 : ∀ W, Only B w' W → W.heap[B]? = some (.cells (vcells v) 35) → bet v b = true → _ := fun W h1 h2 h3 => CL.out W (some v) h1 h2 (by simp [stepH, h3])
        have fin2 : ∀ W, Only B w' W → W.heap[B]? = some (.cells (vcells b) 35) → bet v b = false → _ := fun W h1 h2 h3 => CL.out W (some b) h1 h2 (by simp [stepH, h3])
        have F1 := Lib.hid fin1
        have F2 := Lib.hid fin2
        clear fin1 fin2 CL
        by_cases c1 : b.depth < v.depth
        · go_wp2
          refine F1.out _ (only_alloc (only_splice (Only.refl _ _) _ _) _) (by rw [heap_alloc, if_neg (by simpa using hBn), heap_splice, if_pos rfl, HB.out]; simp [spl_vv]) ?_
          simp [bet, c1]
        · have c1' : decide (b.depth < v.depth) = false := by simpa using c1
          by_cases c2 : v.depth = b.depth
          · have c2' : (v.depth == b.depth) = true := by simpa using c2
            have hcp := Cmp_below v.id b.id (w'.alloc (Obj.cells (vcells v) 35))
            have C2 := Lib.hid c2
            clear c1 c2
            go_wp2_with fail
            refine hcp.mono ?_
            rintro e W3 ⟨rfl, hb3⟩
            have hs3 := hb3.size
            simp at hs3
            have g1 : W3.heap[w'.heap.size]? = some (.cells (vcells v) 35) := (hb3.block _ (by simp)).trans (by rw [heap_alloc, if_pos rfl])
            have g2 : W3.heap[B]? = some (.cells (vcells b) 35) := (hb3.block _ (by simp; omega)).trans (by rw [heap_alloc, if_neg hBn]; exact HB.out)
            have hO3 : Only B w' W3 := only_below (only_alloc (Only.refl _ _) _) hb3
            obtain ⟨k1, -, -, -, -, -⟩ := vblock g1
            obtain ⟨-, -, -, -, -, k2⟩ := vblock g2
            have G2 := Lib.hid g2
            have HO3 := Lib.hid hO3
            clear hcp hb3 g1 g2 hO3
            by_cases c3 : hcmp v.id b.id < 0
            · go_wp2
              refine F1.out _ (only_splice HO3.out _ _) (by rw [heap_splice, if_pos rfl, G2.out]; simp [spl_vv]) ?_
              rw [bet_iff]; exact .inr ⟨C2.out, c3⟩
            · go_wp2
              refine F2.out _ HO3.out G2.out ?_
              have := C2.out
              simp [bet, this, c3]
          · have c2' : (v.depth == b.depth) = false := by simpa using c2
            have C2 := Lib.hid c2
            clear c2
            go_wp2
            refine F2.out _ (only_alloc (Only.refl _ _) _) (by rw [heap_alloc, if_neg hBn]; exact HB.out) ?_
            simp [bet, c1, C2.out]

end Go.Proofs.Ytdmhaajekmaadaa
