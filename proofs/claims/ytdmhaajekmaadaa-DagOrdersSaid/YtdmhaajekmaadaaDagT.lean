/- DagOrders: the walk. No condition. -/
import Derived.Test.YtdmhaajekmaadaaDagS
import Derived.Deep.CutRange
import Derived.Deep.RegionWith
import Derived.Test.YtdmhaajekmaadaaKitH
namespace Go.Proofs.Ytdmhaajekmaadaa
open Go.RowKit Go.Shelf

attribute [local go_sem] Oper.semAt_some

theorem emod_cast (k n : Nat) : (k : Int) % (n : Int) = ((k % n : Nat) : Int) := (Int.natCast_emod k n).symm
theorem tmod_cast (t n : Nat) (h : t < 256) : (wrap64 (t : Int)).tmod (n : Int) = ((t % n : Nat) : Int) := by
  rw [IntWalk.wrap64_in _ ⟨by omega, by omega⟩]; exact (Int.ofNat_tmod t n).symm

/-- What holds of the two stores and of the copy. -/
structure OrdInv (A S bmA bmB g cap n : Nat) (keep : Int) (w : World) (LA LB ms : List V) (wr : World) : Prop where
  stA : St wr (bmA + 1) bmA keep LA
  stB : St wr (bmB + 1) bmB keep LB
  res : Boxed wr A 4 (.bool false)
  box : Boxed wr S 24 (.pointer (some ⟨bmB + 1, 0, none⟩))
  row : wr.ownsRow (S + 1) 34 66 (.slice (some ⟨g, 0, none⟩) n cap) n (flat vcells ms)
  bel : Below A w wr

theorem OrdInv.only {A S bmA bmB g cap n : Nat} {keep : Int} {w : World} {LA LB ms : List V} {wr : World} (h : OrdInv A S bmA bmB g cap n keep w LA LB ms wr) {w1 W : World} (hb : Below wr.heap.size wr w1) {b : Nat} (ho : Only b w1 W) (h1 : A < b) (h2 : b < S) :
    Boxed W A 4 (.bool false) ∧ Boxed W S 24 (.pointer (some ⟨bmB + 1, 0, none⟩)) ∧ W.ownsRow (S + 1) 34 66 (.slice (some ⟨g, 0, none⟩) n cap) n (flat vcells ms) ∧ Below A w W := by
  have hO : Only b wr W := (Below.only hb b).trans ho
  have hg := h.row.lt g rfl
  refine ⟨(hO.block A h.res.lt (by omega)).trans h.res, (hO.block S h.box.lt (by omega)).trans h.box, h.row.kept (row := some b) ⟨hO.os, hO.tape, hO.output, hO.size, fun k hk hn => hO.block k hk (fun e => hn (by rw [e]))⟩ (.inr (by simp [Value.ownBlock]; omega)), h.bel.trans (hO.below (by omega) (by have := h.res.lt; omega))⟩
theorem St.only {wr w1 W : World} {bs bm b : Nat} {keep : Int} {l : List V} (h : St wr bs bm keep l) (hb : Below wr.heap.size wr w1) (ho : Only b w1 W) (h1 : bs ≠ b) (h2 : bm ≠ b) : St W bs bm keep l := by
  have hO : Only b wr W := (Below.only hb b).trans ho
  refine ⟨(hO.block bs h.lt h1).trans h.blk, ?_⟩
  obtain ⟨es, c, e1, e2⟩ := h.map
  exact ⟨es, c, (hO.block bm h.ltm h2).trans e1, e2⟩

/-- The temporaries in a round of the loop over the vertices. -/
def bodyFrameO (A S Bx : Nat) (u : Nat → Value) : Array Value := List.toArray (u 0 :: u 1 :: u 2 :: u 3 :: u 4 :: u 5 :: Value.pointer (some ⟨A, 0, none⟩) :: u 7 :: u 8 :: u 9 :: Value.pointer (some ⟨S, 0, none⟩) :: u 11 :: u 12 :: u 13 :: u 14 :: u 15 :: u 16 :: u 17 :: u 18 :: u 19 :: u 20 :: u 21 :: u 22 :: u 23 :: u 24 :: u 25 :: Value.pointer (some ⟨Bx, 0, none⟩) :: u 27 :: u 28 :: u 29 :: u 30 :: u 31 :: u 32 :: u 33 :: u 34 :: u 35 :: u 36 :: u 37 :: u 38 :: u 39 :: u 40 :: u 41 :: u 42 :: u 43 :: u 44 :: u 45 :: u 46 :: u 47 :: u 48 :: u 49 :: u 50 :: u 51 :: u 52 :: u 53 :: u 54 :: u 55 :: u 56 :: u 57 :: u 58 :: u 59 :: u 60 :: u 61 :: u 62 :: u 63 :: u 64 :: u 65 :: u 66 :: u 67 :: u 68 :: u 69 :: u 70 :: u 71 :: u 72 :: u 73 :: u 74 :: u 75 :: u 76 :: u 77 :: u 78 :: u 79 :: u 80 :: u 81 :: u 82 :: u 83 :: u 84 :: u 85 :: u 86 :: u 87 :: u 88 :: u 89 :: u 90 :: u 91 :: u 92 :: u 93 :: u 94 :: u 95 :: u 96 :: u 97 :: u 98 :: u 99 :: u 100 :: u 101 :: u 102 :: u 103 :: u 104 :: u 105 :: u 106 :: u 107 :: u 108 :: u 109 :: u 110 :: u 111 :: u 112 :: u 113 :: u 114 :: u 115 :: u 116 :: u 117 :: u 118 :: u 119 :: u 120 :: u 121 :: u 122 :: u 123 :: u 124 :: u 125 :: u 126 :: u 127 :: u 128 :: u 129 :: u 130 :: u 131 :: u 132 :: u 133 :: u 134 :: u 135 :: u 136 :: u 137 :: u 138 :: u 139 :: u 140 :: u 141 :: u 142 :: u 143 :: u 144 :: u 145 :: u 146 :: u 147 :: u 148 :: u 149 :: u 150 :: u 151 :: u 152 :: u 153 :: u 154 :: u 155 :: u 156 :: u 157 :: u 158 :: u 159 :: u 160 :: u 161 :: u 162 :: u 163 :: u 164 :: u 165 :: u 166 :: u 167 :: u 168 :: u 169 :: u 170 :: u 171 :: u 172 :: u 173 :: u 174 :: u 175 :: u 176 :: u 177 :: u 178 :: u 179 :: u 180 :: u 181 :: u 182 :: u 183 :: u 184 :: u 185 :: u 186 :: u 187 :: u 188 :: u 189 :: u 190 :: u 191 :: u 192 :: u 193 :: u 194 :: u 195 :: u 196 :: u 197 :: u 198 :: u 199 :: u 200 :: u 201 :: u 202 :: [])

set_option maxHeartbeats 4000000 in
set_option maxRecDepth 100000 in
theorem DagOrders_any (kp : Nat) (hkp : kp < 256) (p : Option Addr) (cap : Nat) (vs : List V) (q : Option Addr) (cap2 : Nat) (ts : List UInt8) (w : World)
    (hp : ∀ (k : Nat) (x : V), vs[k]? = some x → ∃ g o, p = some ⟨g, o, none⟩ ∧ g < w.heap.size ∧ rowAt w g (o + k * 66) 66 = some (vcells x)) (hnil : p = none → cap = 0 ∧ vs = [])
    (hq : ∀ (k : Nat) (b : UInt8), ts[k]? = some b → ∃ g o, q = some ⟨g, o, none⟩ ∧ g < w.heap.size ∧ w.cell? ⟨g, o + k, none⟩ = some (u8 b)) :
    Calls Try.prog 4 #[.int .u8 kp, .slice p vs.length cap, .slice q ts.length cap2] w fun e w' => e = .returned (.bool true) ∧ Below w.heap.size w w' := by
  refine (callsIn_wide (n := 5)).1 ?_
  refine callsIn_of_wp_marks Try.func4 rfl trivial ?_ rfl
  refine wpIn_wide.2 ?_
  simp only [Try.ntmps4, List.size_toArray, List.length_cons, List.length_nil, Nat.reduceAdd, Nat.reduceSub, Array.replicate_succ, Array.replicate_zero, List.push_toArray, List.append_toArray, List.nil_append, List.cons_append]
  obtain ⟨W1, hW1⟩ : ∃ W1, w.alloc (Obj.cells #[.bool false] 4) = W1 := ⟨_, rfl⟩
  have hB1 : Below w.heap.size w W1 := by subst hW1; exact (Below.refl _ _).alloc (Nat.le_refl _) _
  have hb1 : Boxed W1 w.heap.size 4 (.bool false) := by subst hW1; exact Boxed.new _ _ _
  have hs1 : W1.heap.size = w.heap.size + 1 := by subst hW1; simp
  have haw := awake_any W1
  by_cases hlen : 60 < vs.length ∨ 60 < ts.length
  · have HB1 := Lib.hid hB1
    have hpost : ∀ W2, Below W1.heap.size W1 W2 → Boxed W2 w.heap.size 4 (.bool false) := fun W2 h => (h.block _ (by omega)).trans hb1
    clear hp hq hnil
    have aw2 := awake_any
    by_cases h60 : 60 < vs.length
    · have hd : decide (60 < (vs.length : Int)) = true := by simp; omega
      clear hlen
      go_wp2_with (go_at_call 5; refine haw.mono ?_; clear haw; rintro e W2 ⟨rfl, hB2⟩)
      go_wp2_with fail
      refine (aw2 W2).mono ?_
      rintro e W3 ⟨rfl, hB3⟩
      have hB31 : Below W1.heap.size W1 W3 := hB2.trans (hB3.mono hB2.size)
      have hb3 := hpost W3 hB31
      have hc3 := hb3.cell
      have hf3 := hb3.frozen
      go_wp2
      refine ⟨_, results_cell1 rfl _ _ Try.isAgg4 rfl (hb3.set _).cell, rfl, ?_⟩
      exact (HB1.out.trans (hB31.mono HB1.out.size)).setCell (p := ⟨w.heap.size, 0, none⟩) (Nat.le_refl _) _
    · have hd : decide (60 < (vs.length : Int)) = false := by simp; omega
      have hd2 : decide (60 < (ts.length : Int)) = true := by simp; omega
      clear hlen
      go_wp2_with (go_at_call 5; refine haw.mono ?_; clear haw; rintro e W2 ⟨rfl, hB2⟩)
      go_wp2_with fail
      refine (aw2 W2).mono ?_
      rintro e W3 ⟨rfl, hB3⟩
      have hB31 : Below W1.heap.size W1 W3 := hB2.trans (hB3.mono hB2.size)
      have hb3 := hpost W3 hB31
      have hc3 := hb3.cell
      have hf3 := hb3.frozen
      go_wp2
      refine ⟨_, results_cell1 rfl _ _ Try.isAgg4 rfl (hb3.set _).cell, rfl, ?_⟩
      exact (HB1.out.trans (hB31.mono HB1.out.size)).setCell (p := ⟨w.heap.size, 0, none⟩) (Nat.le_refl _) _
  · simp only [not_or] at hlen
    obtain ⟨hl1, hl2⟩ := hlen
    have hd : decide (60 < (vs.length : Int)) = false := by simp; omega
    have hd2 : decide (60 < (ts.length : Int)) = false := by simp; omega
    go_wp2_with (go_at_call 5; refine haw.mono ?_; clear haw; rintro e W2 ⟨rfl, hB2⟩)
    refine (New_ok (1 + (kp : Int) % 64) (by omega) (by omega) W2).mono ?_
    rintro e W3 ⟨rfl, hs3, hB3⟩
    go_wp2_with fail
    refine (New_ok (1 + (kp : Int) % 64) (by omega) (by omega) W3).mono ?_
    rintro e W4 ⟨rfl, hs4, hB4⟩
    obtain ⟨W5, hW5⟩ : ∃ W5, W4.alloc (Obj.cells #[.pointer (some ⟨W3.heap.size + 1, 0, none⟩)] 24) = W5 := ⟨_, rfl⟩
    have hB5 : Below W4.heap.size W4 W5 := by subst hW5; exact (Below.refl _ _).alloc (Nat.le_refl _) _
    have z2 := hB2.size
    have z3 := hB3.size
    have z4 := hB4.size
    have z3s := hs3.lt
    have z4s := hs4.lt
    have z5 : W5.heap.size = W4.heap.size + 1 := by subst hW5; simp
    have b12 : Below w.heap.size w W2 := hB1.trans (hB2.mono (by omega))
    have z1 : w.heap.size < W2.heap.size := by omega
    have b13 : Below w.heap.size w W3 := b12.trans (hB3.mono (by omega))
    have b14 : Below w.heap.size w W4 := b13.trans (hB4.mono (by omega))
    have b15 : Below w.heap.size w W5 := b14.trans (hB5.mono (by omega))
    obtain ⟨g, capm, W6, happ, hown, hB6⟩ := copy_rows (w := W5) p cap vs (by omega) (fun k x hx => by
      obtain ⟨g, o, e1, e2, e3⟩ := hp k x hx
      exact ⟨g, o, e1, by omega, (below_rowAt b15 e2 _ _).trans e3⟩) hnil
    have b16 : Below w.heap.size w W6 := b15.trans (hB6.mono (by omega))
    have hinv : OrdInv w.heap.size W4.heap.size W2.heap.size W3.heap.size g capm vs.length (1 + (kp : Int) % 64) w [] [] vs W6 := by
      refine ⟨((hs3.later hB4).later hB5).later hB6, (hs4.later hB5).later hB6, ?_, ?_, by rw [z5] at hown; exact hown, b16⟩
      · exact ((hB2.trans ((hB3.mono (by omega)).trans ((hB4.mono (by omega)).trans ((hB5.mono (by omega)).trans (hB6.mono (by omega)))))).block w.heap.size (by omega)).trans hb1
      · refine (hB6.block _ (by omega)).trans ?_
        subst hW5; exact Boxed.new _ _ _
    rw [← hW5] at happ
    simp only [hW5, z5] at happ
    have HIV := Lib.hid hinv
    have HQ := Lib.hid hq
    have HP := Lib.hid hp
    have HB := Lib.hid b12
    clear hp hq hnil hB1 hb1 hs1 hB2 hs3 hB3 hs4 hB4 hB5 b12 b13 b14 b15 b16 hinv hown hB6 hW1
    go_upto_region 7 with (at_builtin; refine wpList_builtin_run rfl _ _ _ rfl _ _ rfl rfl _ _ happ ?_)
    clear happ hW5
    generalize hA : w.heap.size = A at *
    generalize W5.heap.size = S5 at *
    generalize W4.heap.size = S at *
    generalize W3.heap.size = bmB at *
    generalize W2.heap.size = bmA at *
    generalize hkeep : (1 + (kp : Int) % 64) = keep at *
    iterate 7 go_step
    go_cut [] from 59 to 96 (fun wc => ∃ ms : List V, Hid (ms.Perm vs) ∧ Hid (OrdInv A S bmA bmB g capm vs.length keep w [] [] ms wc))
    case first =>
      go_wp2
      go_loopw [13] (fun i wr => ∃ (k : Nat) (ms : List V), k ≤ ts.length ∧ i = .int .i64 k ∧ Hid (ms.Perm vs) ∧ Hid (OrdInv A S bmA bmB g capm vs.length keep w [] [] ms wr)) (fun i _ => ts.length - (intOf i).toNat)
      case atStart => exact ⟨0, vs, by omega, rfl, by simp [Hid], HIV⟩
      case round =>
        obtain ⟨k, ms, hk, rfl, hms, hinv⟩ := hrel
        clear HIV
        by_cases hlt : k < ts.length
        · have hd3 : decide ((k : Int) < (ts.length : Int)) = true := by simp; omega
          by_cases hn : 0 < vs.length
          · have hd4 : decide (0 < (vs.length : Int)) = true := by simp; omega
            have htk : ts[k]? = some ts[k] := List.getElem?_eq_getElem hlt
            obtain ⟨g2, o2, rfl, hg2, hc2⟩ := HQ.out k _ htk
            generalize ts[k] = tb at *
            have hcW : wr.cell? ⟨g2, o2 + k, none⟩ = some (.int .u8 (tb.toNat : Int)) := (hinv.out.bel.cell (p := ⟨g2, o2 + k, none⟩) hg2).trans hc2
            have hn0 : (vs.length : Int) ≠ 0 := by omega
            have htb : tb.toNat < 256 := UInt8.toNat_lt tb
            clear hc2 htk HQ
            generalize tb.toNat = t at *
            go_wp2
            go_quiet (fail)
            rw [emod_cast k, emod_cast t]
            have hXl : k % vs.length < vs.length := Nat.mod_lt _ hn
            have hYl : t % vs.length < vs.length := Nat.mod_lt _ hn
            generalize k % vs.length = X at *
            generalize t % vs.length = Y at *
            obtain ⟨W8, hW8⟩ : ∃ W8, wr.drewN nq = W8 := ⟨_, rfl⟩
            have hinv8 : OrdInv A S bmA bmB g capm vs.length keep w [] [] ms W8 := by
              have bq : Below wr.heap.size wr W8 := by subst hW8; exact below_drewN (Below.refl _ _) _
              have i := hinv.out
              exact ⟨i.stA.later bq, i.stB.later bq, (bq.block A i.res.lt).trans i.res, (bq.block S i.box.lt).trans i.box, i.row.kept (row := none) ⟨bq.os, bq.tape, bq.output, bq.size, fun k hk _ => bq.block k hk⟩ (.inr (by simp [Value.ownBlock])), i.bel.trans (bq.mono (by have := i.res.lt; omega))⟩
            rw [hW8]
            clear hW8 hinv hcW
            have hml : ms.length = vs.length := hms.out.length_eq
            have hmX : ms[X]? = some ms[X] := List.getElem?_eq_getElem (by omega)
            have hmY : ms[Y]? = some ms[Y] := List.getElem?_eq_getElem (by omega)
            have hsw := (swap_perm ms X Y ms[X] ms[Y] hmX hmY).trans hms.out
            have hrX := rowAt_owned size_vcells (by decide) hinv8.row X _ hmX
            have hrY := rowAt_owned size_vcells (by decide) hinv8.row Y _ hmY
            generalize ms[X] = a at *
            generalize ms[Y] = b at *
            obtain ⟨W9, hW9⟩ : ∃ W9, W8.alloc (Obj.cells (vcells a) 34) = W9 := ⟨_, rfl⟩
            have hb9 : Below W8.heap.size W8 W9 := by subst hW9; exact (Below.refl _ _).alloc (Nat.le_refl _) _
            have hr9 := hinv8.row.kept (row := none) (w' := W9) ⟨hb9.os, hb9.tape, hb9.output, hb9.size, fun k hk _ => hb9.block k hk⟩ (.inr (by simp [Value.ownBlock]))
            have hglt := (hinv8.row.lt g rfl).2
            have hgge := (hinv8.row.lt g rfl).1
            have h9X := (rowAt_owned size_vcells (by decide) hr9 X _ hmX)
            have h9Y := (rowAt_owned size_vcells (by decide) hr9 Y _ hmY)
            have h9b : rowAt W9 W8.heap.size 0 66 = some (vcells a) := by
              subst hW9
              rw [rowAt_of (c := vcells a) (t := 34) (fr := (0, 0)) (by rw [heap_alloc, if_pos rfl]) 0 66 (by simp)]; simp
            obtain ⟨hr10, p9⟩ := ownsRow_splice size_vcells (by decide) hr9 X (by omega) b
            obtain ⟨W10, hW10⟩ : ∃ W10, splice W9 g (X * 66) (vcells b) = W10 := ⟨_, rfl⟩
            rw [hW10] at hr10
            have h10b : rowAt W10 W8.heap.size 0 66 = some (vcells a) := by
              subst hW10; rw [rowAt_splice_other _ _ _ _ _ _ _ (by omega)]; exact h9b
            obtain ⟨hr11, p10⟩ := ownsRow_splice size_vcells (by decide) hr10 Y (by simp; omega) a
            have hb11 : Below (S + 1) W8 (splice W10 g (Y * 66) (vcells a)) := by
              subst hW10
              exact below_splice (below_splice (hb9.mono (by omega)) _ _ _ hgge) _ _ _ hgge
            have hinv' : OrdInv A S bmA bmB g capm vs.length keep w [] [] ((ms.set X b).set Y a) (splice W10 g (Y * 66) (vcells a)) := by
              have i := hinv8
              have hAS : A ≤ S + 1 := by omega
              exact ⟨i.stA.below hb11 (by omega) (by omega), i.stB.below hb11 (by omega) (by omega), (hb11.block A (by omega)).trans i.res, (hb11.block S (by omega)).trans i.box, hr11, i.bel.trans (hb11.mono hAS)⟩
            have HI2 := Lib.hid hinv'
            have HS2 := Lib.hid hsw
            clear hms hinv8 hb9 hr9 hr10 hr11 hb11 hinv' hsw hmX hmY hrY hml h9b
            go_wp2
            go_roundw
            case rel => exact ⟨k + 1, _, by omega, by simp, HS2, HI2⟩
            case measure => simp [intOf]; omega
          · have hd4 : decide (0 < (vs.length : Int)) = false := decide_eq_false (by omega)
            go_wp2
            go_meet
            case rel => exact ⟨ms, hms, hinv⟩
        · have hd3 : decide ((k : Int) < (ts.length : Int)) = false := by simp; omega
          go_wp2
          go_meet
          case rel => exact ⟨ms, hms, hinv⟩
    case rest =>
      obtain ⟨ms, hms, hinv⟩ := hcut
      clear HIV HQ
      have hAp : ∀ (k : Nat) (x : V), vs[k]? = some x → ∃ g o, p = some ⟨g, o, none⟩ ∧ g < A ∧ ∀ W, Below A w W → rowAt W g (o + k * 66) 66 = some (vcells x) := fun k x hx => by
        obtain ⟨g, o, e1, e2, e3⟩ := HP.out k x hx
        exact ⟨g, o, e1, e2, fun W hW => (below_rowAt hW e2 _ _).trans e3⟩
      have HAP := Lib.hid hAp
      clear hAp HP
      have hml : ms.length = vs.length := hms.out.length_eq
      go_wp2
      go_loopw [17] (fun i wr => ∃ k : Nat, k ≤ vs.length ∧ i = .int .i64 k ∧ Hid (AllIn keep (vs.take k) ∧ AllIn keep (ms.take k)) ∧ Hid (OrdInv A S bmA bmB g capm vs.length keep w (after keep (vs.take k)) (after keep (ms.take k)) ms wr)) (fun i _ => vs.length - (intOf i).toNat)
      case atStart => exact ⟨0, by omega, rfl, ⟨AllIn.nil _, AllIn.nil _⟩, hinv⟩
      case round =>
        obtain ⟨k, hk, rfl, hall, hin⟩ := hrel
        clear hinv
        by_cases hlt : k < vs.length
        · have hd3 : decide ((k : Int) < (vs.length : Int)) = true := decide_eq_true (by omega)
          have hx : vs[k]? = some vs[k] := List.getElem?_eq_getElem hlt
          have hy : ms[k]? = some ms[k] := List.getElem?_eq_getElem (by omega)
          obtain ⟨g2, o2, rfl, hg2, hrows⟩ := HAP.out k _ hx
          have hvx : vs.take (k + 1) = vs.take k ++ [vs[k]] := by rw [List.take_add_one, hx]; rfl
          have hvy : ms.take (k + 1) = ms.take k ++ [ms[k]] := by rw [List.take_add_one, hy]; rfl
          generalize vs[k] = x at *
          generalize ms[k] = y at *
          obtain ⟨apA, bdA, lnA, -⟩ := after_ok keep (by omega) (vs.take k)
          obtain ⟨apB, bdB, lnB, -⟩ := after_ok keep (by omega) (ms.take k)
          have lnA' : (after keep (vs.take k)).length ≤ 60 := by simp at lnA; omega
          have lnB' : (after keep (ms.take k)).length ≤ 60 := by simp at lnB; omega
          obtain ⟨r1, r2, r3, r4⟩ := vrow (hrows wr hin.out.bel)
          have hg2w : g2 < wr.heap.size := by have := hin.out.res.lt; omega
          have hinsA : ∀ pg, _ := fun pg => Insert_any (bmA + 1) bmA keep (by omega) (by omega) (after keep (vs.take k)) apA bdA (by omega) x (gw wr pg) (hin.out.stA.later (below_gw wr pg))
          go_wp2
          refine wp_region_mid (C := fun w' => ∃ pg, w' = gw wr pg) 22 _ rfl rfl (by kernel_rfl) (by kernel_rfl) ⟨_, gw_drawn wr⟩ ?_
          simp only [List.take_succ_cons, List.take_zero, List.drop_succ_cons, List.drop_zero]
          repeat (go_big_quiet_step (fail))
          refine wpQuiet_nil ?_
          rintro _ ⟨pg, rfl⟩ K hK
          go_wp2_with fail
          refine (hinsA pg).mono ?_
          rintro e W5 ⟨⟨q1, cp1, rfl⟩, hs5, ho5⟩
          refine hK _ _ ?_
          clear hK K hinsA
          repeat (go_big_quiet_step (fail))
          refine wpQuiet_nil ?_
          obtain ⟨f1, f2, f3, f4⟩ := hin.out.only (below_gw wr pg) ho5 (by omega) (by omega)
          have hsB5 := hin.out.stB.only (below_gw wr pg) ho5 (by omega) (by omega)
          have hin5 : OrdInv A S bmA bmB g capm vs.length keep w (insOf keep (after keep (vs.take k)) x) (after keep (ms.take k)) ms W5 := ⟨hs5, hsB5, f1, f2, f3, f4⟩
          have hrm := rowAt_owned size_vcells (by decide) f3 k y hy
          obtain ⟨m1, m2, m3, m4⟩ := vrow hrm
          have hcS := f2.cell
          have hSlt := f2.lt
          have hglt := (f3.lt g rfl).2
          have HIN5 := Lib.hid hin5
          clear hin hs5 ho5 hin5 f1 f2 f3 f4 hsB5 r1 r2 r3 r4 hrm
          have hinsB : ∀ pg, _ := fun pg => Insert_any (bmB + 1) bmB keep (by omega) (by omega) (after keep (ms.take k)) apB bdB (by omega) y (gw W5 pg) (HIN5.out.stB.later (below_gw W5 pg))
          go_wp2
          refine wp_region_mid (C := fun w' => ∃ pg, w' = gw W5 pg) 22 _ rfl rfl (by kernel_rfl) (by kernel_rfl) ⟨_, gw_drawn W5⟩ ?_
          simp only [List.take_succ_cons, List.take_zero, List.drop_succ_cons, List.drop_zero]
          repeat (go_big_quiet_step (fail))
          refine wpQuiet_nil ?_
          rintro _ ⟨pg2, rfl⟩ K hK
          go_wp2_with fail
          refine (hinsB pg2).mono ?_
          rintro e W6 ⟨⟨q2, cp2, rfl⟩, hs6, ho6⟩
          refine hK _ _ ?_
          clear hK K hinsB
          repeat (go_big_quiet_step (fail))
          refine wpQuiet_nil ?_
          obtain ⟨f1, f2, f3, f4⟩ := HIN5.out.only (below_gw W5 pg2) ho6 (by omega) (by omega)
          have hsA6 := HIN5.out.stA.only (below_gw W5 pg2) ho6 (by omega) (by omega)
          have hin6 : OrdInv A S bmA bmB g capm vs.length keep w (insOf keep (after keep (vs.take k)) x) (insOf keep (after keep (ms.take k)) y) ms W6 := ⟨hsA6, hs6, f1, f2, f3, f4⟩
          have hcA := f1.cell
          have hfA := f1.frozen
          have HIN6 := Lib.hid hin6
          have HF1 := Lib.hid f1
          have HF4 := Lib.hid f4
          clear hs6 ho6 hin6 f1 f2 f3 f4 hsA6 HIN5 m1 m2 m3 m4 hcS hSlt hglt
          by_cases c1 : checkOf keep (after keep (vs.take k)) x = 0
          · by_cases c2 : checkOf keep (after keep (ms.take k)) y = 0
            · have HALL : Hid (AllIn keep (vs.take (k + 1)) ∧ AllIn keep (ms.take (k + 1))) := by
                show _ ∧ _
                rw [hvx, hvy]; exact ⟨hall.out.1.snoc c1, hall.out.2.snoc c2⟩
              have HIN7 : Hid (OrdInv A S bmA bmB g capm vs.length keep w (after keep (vs.take (k + 1))) (after keep (ms.take (k + 1))) ms W6) := by
                show OrdInv A S bmA bmB g capm vs.length keep w _ _ ms W6
                rw [hvx, hvy, after_snoc, after_snoc]; exact HIN6.out
              have c1' : (checkOf keep (after keep (vs.take k)) x != 0) = false := by simpa using c1
              have c2' : (checkOf keep (after keep (ms.take k)) y != 0) = false := by simpa using c2
              clear HIN6 hvx hvy hall lnA lnB lnA' lnB' apA apB bdA bdB c1 c2 hx hy hrows
              go_wp2
              go_roundw
              case rel => exact ⟨k + 1, by omega, by simp, HALL, HIN7⟩
              case measure => simp [intOf]; omega
            · have c1' : (checkOf keep (after keep (vs.take k)) x != 0) = false := by simpa using c1
              have c2' : (checkOf keep (after keep (ms.take k)) y != 0) = true := by simpa using c2
              clear HIN6 hvx hvy hall lnA lnB lnA' lnB' apA apB bdA bdB c1 c2 hx hy hrows
              go_wp2
              refine ⟨_, results_cell1 rfl _ _ Try.isAgg4 rfl (HF1.out.set _).cell, rfl, ?_⟩
              rw [hA]; exact HF4.out.setCell (p := ⟨A, 0, none⟩) (Nat.le_refl _) _
          · have c1' : (checkOf keep (after keep (vs.take k)) x != 0) = true := by simpa using c1
            clear HIN6 hvx hvy hall lnA lnB lnA' lnB' apA apB bdA bdB c1 hx hy hrows
            go_wp2
            refine ⟨_, results_cell1 rfl _ _ Try.isAgg4 rfl (HF1.out.set _).cell, rfl, ?_⟩
            rw [hA]; exact HF4.out.setCell (p := ⟨A, 0, none⟩) (Nat.le_refl _) _
        · obtain rfl : k = vs.length := by omega
          have htm : ms.take vs.length = ms := by rw [← hml, List.take_length]
          rw [List.take_length, htm] at hall hin
          have hk0 : (0 : Int) ≤ keep := by omega
          obtain ⟨apA, bdA, lnA, -⟩ := after_ok keep hk0 vs
          obtain ⟨apB, bdB, lnB, -⟩ := after_ok keep hk0 ms
          obtain ⟨e1, e2, e3⟩ := orders_same hk0 hms.out.symm hall.out.1 hall.out.2
          have lnA' : (after keep vs).length ≤ 60 := by omega
          have hheadA := Head_any (bmA + 1) bmA keep (after keep vs) apA wr hin.out.stA
          have hheadB : ∀ W, Below wr.heap.size wr W → _ := fun W hW => Head_any (bmB + 1) bmB keep (after keep ms) apB W (hin.out.stB.later hW)
          rw [← e1] at hheadB
          generalize after keep vs = LA at *
          generalize after keep ms = LB at *
          generalize headOf LA = oh at *
          have hres := hin.out.res
          have hbox := hin.out.box
          have hcS := hbox.cell
          have hSlt := hbox.lt
          have hAw : A < wr.heap.size := hres.lt
          clear hms hml hall htm lnA lnB e1 HAP
          go_wp2_with fail
          refine hheadA.mono ?_
          clear hheadA
          rintro e W7 ⟨rfl, hB7⟩
          generalize oh.getD V.zero = h at *
          generalize oh.isSome = bb at *
          obtain ⟨W8, hW8⟩ : ∃ W8, W7.alloc (Obj.cells (vcells h) 35) = W8 := ⟨_, rfl⟩
          have hB8 : Below wr.heap.size wr W8 := by subst hW8; exact hB7.trans (((Below.refl _ _).alloc (Nat.le_refl _) _).mono hB7.size)
          have h22 : W8.heap[W7.heap.size]? = some (.cells (vcells h) 35) := by subst hW8; rw [heap_alloc, if_pos rfl]
          have hcS8 : W8.cell? ⟨S, 0, none⟩ = some (.pointer (some ⟨bmB + 1, 0, none⟩)) := (hB8.cell (p := ⟨S, 0, none⟩) hSlt).trans hcS
          have hs8 : W8.heap.size = W7.heap.size + 1 := by subst hW8; simp
          have hhB := hheadB W8 hB8
          have hz7 := hB7.size
          clear hheadB hB7
          go_wp2_with fail
          refine hhB.mono ?_
          clear hhB
          rintro e W9 ⟨rfl, hB9⟩
          obtain ⟨W10, hW10⟩ : ∃ W10, W9.alloc (Obj.cells (vcells h) 35) = W10 := ⟨_, rfl⟩
          have hB10 : Below W8.heap.size W8 W10 := by subst hW10; exact hB9.trans (((Below.refl _ _).alloc (Nat.le_refl _) _).mono hB9.size)
          have h24 : W10.heap[W9.heap.size]? = some (.cells (vcells h) 35) := by subst hW10; rw [heap_alloc, if_pos rfl]
          have hs10 : W10.heap.size = W9.heap.size + 1 := by subst hW10; simp
          have h22' : W10.heap[W7.heap.size]? = some (.cells (vcells h) 35) := (hB10.block _ (by omega)).trans h22
          have hz9 := hB9.size
          have hBr : Below wr.heap.size wr W10 := hB8.trans (hB10.mono hB8.size)
          have hcS10 : W10.cell? ⟨S, 0, none⟩ = some (.pointer (some ⟨bmB + 1, 0, none⟩)) := (hBr.cell (p := ⟨S, 0, none⟩) hSlt).trans hcS
          obtain ⟨a1, -, -, -, -, -⟩ := vblock h22'
          obtain ⟨a2, -, -, -, -, -⟩ := vblock h24
          have hlenA : ∀ pg, Calls Try.prog 11 #[.pointer (some ⟨bmA + 1, 0, none⟩)] (gw W10 pg) fun e w'' => e = .returned (.int .i64 LA.length) ∧ ∃ q, w'' = gw W10 q := fun pg =>
            (Len_any (bmA + 1) bmA keep LA (gw W10 pg) ((hin.out.stA.later hBr).later (below_gw W10 pg))).mono fun e w' ⟨h1, h2⟩ => ⟨h1, pg, h2⟩
          have hlenB : ∀ pg, Calls Try.prog 11 #[.pointer (some ⟨bmB + 1, 0, none⟩)] (gw W10 pg) fun e w'' => e = .returned (.int .i64 LA.length) ∧ ∃ q, w'' = gw W10 q := fun pg =>
            (Len_any (bmB + 1) bmB keep LB (gw W10 pg) ((hin.out.stB.later hBr).later (below_gw W10 pg))).mono fun e w' ⟨h1, h2⟩ => ⟨by rw [h1, e2], pg, h2⟩
          have hW7s : W7.heap.size < W10.heap.size := by omega
          have hW9s : W9.heap.size < W10.heap.size := by omega
          have hS10 : S < W10.heap.size := by have := hBr.size; omega
          have HBR := Lib.hid hBr
          have hbb : (bb != bb) = false := by simp
          go_wp2
          try rw [hW10]
          clear hB8 h22 hcS8 hB9 hB10 h24 h22' hBr hres hbox hcS hW8 hW10 hs8 hs10 hz7 hz9
          refine wp_region_gw (by kernel_rfl) (by kernel_rfl) ?_
          iterate 10 (go_big_quiet_step (fail))
          go_big_quiet_step ((go_at_call 11; exact hlenA _))
          go_big_quiet_step (fail)
          go_big_quiet_step ((go_at_call 11; exact hlenB _))
          repeat (go_big_quiet_step (fail))
          refine wpQuiet_nil ?_
          rintro _ ⟨pg, rfl⟩
          have hB11 : Below wr.heap.size wr (gw W10 pg) := HBR.out.trans ((below_gw W10 pg).mono HBR.out.size)
          have hc11 : (gw W10 pg).cell? ⟨S, 0, none⟩ = some (.pointer (some ⟨bmB + 1, 0, none⟩)) := (cell_gw W10 pg S 0 hS10).trans hcS10
          generalize gw W10 pg = W11 at *
          clear hlenA hlenB a1 a2 hcS10
          have hSC : S < W11.heap.size := by have := hB11.size; omega
          have hwC : wr.heap.size ≤ W11.heap.size := hB11.size
          go_wp2_with (go_at_call 9; refine (All_any (bmA + 1) _).mono ?_; rintro e W12 ⟨rfl, hW12⟩)
          have hb12 : Below W11.heap.size W11 W12 := by rw [hW12]; exact (Below.refl _ _).alloc (Nat.le_refl _) _
          have hBr12 : Below wr.heap.size wr W12 := hB11.trans (hb12.mono hwC)
          have hbn : W12.heap[W11.heap.size]? = some (.cells #[.pointer (some ⟨bmA + 1, 0, none⟩)] 24) := by rw [hW12, heap_alloc, if_pos rfl]
          have hst12 := hin.out.stA.later hBr12
          have hstB12 := hin.out.stB.later hBr12
          have hc12 : W12.cell? ⟨S, 0, none⟩ = some (.pointer (some ⟨bmB + 1, 0, none⟩)) := (hb12.cell (p := ⟨S, 0, none⟩) hSC).trans hc11
          have hsz12 : W12.heap.size = W11.heap.size + 1 := by rw [hW12]; simp
          have hA12 : Boxed W12 A 4 (.bool false) := (hBr12.block A hAw).trans hin.out.res
          have hBA : Below A w W12 := hin.out.bel.trans (hBr12.mono (by omega))
          have HE3 := Lib.hid e3
          have HA12 := Lib.hid hA12
          have HBA := Lib.hid hBA
          have HSB := Lib.hid hstB12
          rw [← hW12]
          clear hW12 hb12 hB11 hc11 e3 hA12 hBA hin HBR hBr12 hstB12
          generalize W11.heap.size = C at *
          have hstops := All1_stops (bmA + 1) bmA keep LA bdA (by omega) C 4 (by omega) noOwn W12 hbn hst12 (owns_none _) (fun k hk => hk.elim)
          clear hbn hst12 apA bdA apB lnA'
          refine (wpIn_wide (n := 5)).1 ?_
          refine wpIn_rangeFunc_ownH rfl (by omega) (gf := 15) (lb := #[.pointer (some ⟨C, 0, none⟩)]) rfl trivial (enters_of Try.func15 (by kernel_rfl) rfl) hstops
            (fun h k => h.trans k) (fun W l o o' hl ho hc hw => KpO.putObj (owns_none W12.heap.size) W l o o' hl ho hc hw) (Below.refl _ _) (fun _ => rfl)
            (fun _ W => Below W12.heap.size W12 W)
            (fun _ _ _ => False) (ownFrom_below (Nat.le_refl _) (Nat.le_refl _)) (fun _ _ _ _ _ hs _ _ => hs) (Below.refl _ _)
            (fun (x : { u // u ∈ LA }) (a' : Act) (W : World) => ∃ Bx : Nat, W.heap[Bx]? = some (Obj.cells (vcells x.1) 35) ∧ ∃ u : Nat → Value, a' = { tmps := bodyFrameO A S Bx u, defers := [] }) ?hAx ?assign ?body ?done ?stop
          case hAx =>
            rintro x a' _ X Y row ⟨Bx, h1, h2⟩ hg hr
            refine ⟨Bx, (hg.block Bx (Array.getElem?_eq_some_iff.1 h1).1 (fun e => ?_)).trans h1, h2⟩
            obtain ⟨_, o, ho, hc⟩ := hr Bx e.symm
            rw [h1] at ho; cases ho; cases hc
          case assign =>
            intro l' pre x W K hI hK
            clear hstops
            gi_wp2
            refine hK _ _ ((KeepsOthers.alloc W _).from _) (KpO.of_below (owns_none W12.heap.size) hI.size ((Below.refl _ _).alloc (Nat.le_refl _) _)) (hI.alloc hI.size _) ⟨W.heap.size, ?_, ?_⟩
            · rw [heap_alloc, if_pos rfl]
            · exact act_eq rfl
          case body =>
            rintro l' pre x a' W hl' ⟨r, hr⟩ hI ⟨Bx, hBx, u, rfl⟩ hplen
            clear hstops
            have hcW : W.cell? ⟨S, 0, none⟩ = some (.pointer (some ⟨bmB + 1, 0, none⟩)) := (hI.cell (p := ⟨S, 0, none⟩) (by simp; omega)).trans hc12
            obtain ⟨q1, q2, -, -, -, -⟩ := vblock hBx
            have hBxW : Bx < W.heap.size := (Array.getElem?_eq_some_iff.1 hBx).1
            have hget := Get_any (bmB + 1) bmB keep LB x.1.id W (HSB.out.later hI)
            rw [HE3.out x.1 x.2] at hget
            simp only [Option.getD_some, Option.isSome_some] at hget
            have HI := Lib.hid hI
            clear hI hr hplen hc12
            simp only [bodyFrameO]
            generalize x.1 = y at *
            gi_wp2
            refine ⟨trivial, ?_⟩
            refine (CallsIn.inRound l' (callsIn_wide.2 hget)).mono ?_
            rintro e W13 ⟨rfl, hB13⟩
            have r13 : rowAt W13 Bx 0 66 = some (vcells y) := (below_rowAt hB13 hBxW _ _).trans q1
            have hx13 : Bx < W13.heap.size := by have := hB13.size; omega
            have H13 := Lib.hid hB13
            clear q1 q2 hBx hget hcW hB13
            gi_wp2
            have hbg : Below W.heap.size W (W13.alloc (Obj.cells (vcells y) 35)) := H13.out.trans (((Below.refl _ _).alloc (Nat.le_refl _) _).mono H13.out.size)
            exact ⟨((KeepsOthers.of_grownBy (row := none) ⟨hbg.os, hbg.tape, hbg.output, hbg.size, fun k hk _ => hbg.block k hk⟩ (by simp)).from _), KpO.of_below (owns_none W12.heap.size) HI.out.size hbg, HI.out.trans (hbg.mono HI.out.size)⟩
          case done =>
            rintro D xs W hD hS hI hK
            clear hstops hc12
            have hA13 : Boxed W A 4 (.bool false) := (hI.block A (by omega)).trans HA12.out
            have hca := Boxed.cell hA13
            have hfa := Boxed.frozen hA13
            have hBW : Below A w W := HBA.out.trans (hI.mono (by omega))
            have H1 := Lib.hid hA13
            have H2 := Lib.hid hBW
            have H3 := Lib.hid hK
            clear hI hK hA13 hBW hS
            go_wp2
            refine leaves_marks (by simp) [D] _ (by simp) (fun D' hD' => ?_) (fun W' hW' => ?_)
            · obtain rfl : D' = D := by simpa using hD'
              exact (Below.heap_setCell W ⟨A, 0, none⟩ _ D' (by simp; omega)).trans H3.out
            · have hbW := hW'.below (B := A + 1) (fun D' hD' => by
                obtain rfl : D' = D := by simpa using hD'
                omega)
              refine ⟨_, results_cell1 rfl _ _ Try.isAgg4 rfl ((hbW.cell (p := ⟨A, 0, none⟩) (by simp)).trans (H1.out.set _).cell), rfl, ?_⟩
              rw [hA]
              exact (H2.out.setCell (p := ⟨A, 0, none⟩) (Nat.le_refl _) _).trans (hbW.mono (by omega))
          case stop =>
            rintro D c pre W _ _ h _
            exact h.elim

end Go.Proofs.Ytdmhaajekmaadaa
