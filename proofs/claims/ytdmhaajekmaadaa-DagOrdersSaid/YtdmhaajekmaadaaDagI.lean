/- DagHead: the walk. No condition. -/
import Derived.Test.YtdmhaajekmaadaaDagH
import Derived.Test.YtdmhaajekmaadaaDagP
import Derived.Test.YtdmhaajekmaadaaKitG
import Derived.StillTailTactics
namespace Go.Proofs.Ytdmhaajekmaadaa
open Go.RowKit Go.Shelf

attribute [local go_sem] Oper.semAt_some

theorem rowAt_sub {w : World} {b o n : Nat} {cs : Array Value} (h : rowAt w b o n = some cs) (i m : Nat) (hi : i + m ≤ n) : rowAt w b (o + i) m = some (cs.extract i (i + m)) := by
  obtain ⟨c, t, fr, hb, hle, rfl⟩ := rowAt_some h
  rw [rowAt_of hb (o + i) m (by omega)]
  congr 1
  apply Array.ext_getElem?
  intro j
  simp only [Array.getElem?_extract]
  have hmin : min (o + n) c.size = o + n := by omega
  have hmin2 : min (o + i + m) c.size = o + i + m := by omega
  have hmin3 : min (i + m) (c.extract o (o + n)).size = i + m := by simp; omega
  rw [hmin, hmin2, hmin3]
  by_cases hj : j < m
  · rw [if_pos (by omega), if_pos (by omega), if_pos (by omega)]
    congr 1; omega
  · rw [if_neg (by omega), if_neg (by omega)]
theorem cell_of_rowAt {w : World} {b o n : Nat} {cs : Array Value} (h : rowAt w b o n = some cs) (i : Nat) (hi : i < n) : w.cell? ⟨b, o + i, none⟩ = cs[i]? := by
  obtain ⟨c, t, fr, hb, hle, rfl⟩ := rowAt_some h
  rw [cell_of_row w b (o + i) c t fr hb]
  simp only [Array.getElem?_extract]
  rw [if_pos (by omega)]

theorem vrow {w : World} {b o : Nat} {v : V} (h : rowAt w b o 66 = some (vcells v)) :
    rowAt w b o 32 = some (hcells v.id) ∧ rowAt w b (o + 32) 32 = some (hcells v.parent) ∧ w.cell? ⟨b, o + 64, none⟩ = some (.int .i64 v.depth) ∧ w.cell? ⟨b, o + 65, none⟩ = some (.int .i64 v.data) := by
  refine ⟨?_, ?_, ?_, ?_⟩
  · have := rowAt_sub h 0 32 (by omega); simpa using this
  · have := rowAt_sub h 32 32 (by omega); simpa using this
  · rw [cell_of_rowAt h 64 (by omega)]; exact vcells_64 v
  · rw [cell_of_rowAt h 65 (by omega)]; exact vcells_65 v

/-- A slice of the document's vertices, as it is handed over. -/
structure ArgR (w : World) (g o : Nat) (vs : List V) : Prop where
  row : ∀ (k : Nat) (x : V), vs[k]? = some x → g < w.heap.size ∧ rowAt w g (o + k * 66) 66 = some (vcells x)

/-- A vertex without its data. -/
def bare (v : V) : V := { v with data := 0 }
/-- The mark of a loop over an iterator. -/
def markOf (D : Nat) : Deferred := { target := .collected D, args := #[] }
structure Marks (B : Nat) (W : World) (Ds : List Nat) : Prop where
  nodup : Ds.Nodup
  ge : ∀ D ∈ Ds, B ≤ D
  obj : ∀ D ∈ Ds, W.heap[D]? = some (.deferred (some []))
structure Took (Ds : List Nat) (W W' : World) : Prop where
  os : W'.os = W.os
  tape : W'.tape = W.tape
  output : W'.output = W.output
  size : W'.heap.size = W.heap.size
  block : ∀ k, k ∉ Ds → W'.heap[k]? = W.heap[k]?

theorem leaves_marks {F : Fence} {n : Nat} {P : Program} {fn : Func} {tmps : Array Value} {R : Ending → World → Prop} {u : FrameMode} (hu : u ≠ .run) : ∀ (Ds : List Nat) (W : World), Ds.Nodup → (∀ D ∈ Ds, W.heap[D]? = some (.deferred (some []))) →
    (∀ W', Took Ds W W' → LeavesInM F n P fn tmps R [] u W') → LeavesInM F n P fn tmps R (Ds.map markOf) u W
  | [], W, _, _, h => h W ⟨rfl, rfl, rfl, rfl, fun _ _ => rfl⟩
  | D :: Ds, W, hn, ho, h => by
    obtain ⟨h1, h2⟩ := List.nodup_cons.1 hn
    refine ⟨hu, .inl ⟨_, _, rfl, run_takeDeferred (ho D (by simp)), ?_⟩⟩
    refine leaves_marks hu Ds _ h2 (fun D' hD' => ?_) (fun W' hW' => h W' ?_)
    · exact (World.putObj_heap_other (fun e => h1 (by rw [← e]; exact hD'))).trans (ho D' (by simp [hD']))
    · refine ⟨hW'.os, hW'.tape, hW'.output, hW'.size.trans (by simp), fun k hk => ?_⟩
      simp only [List.mem_cons, not_or] at hk
      exact (hW'.block k hk.2).trans (World.putObj_heap_other hk.1)
theorem Took.below {Ds : List Nat} {W W' : World} {B : Nat} (h : Took Ds W W') (hB : ∀ D ∈ Ds, B ≤ D) : Below B W W' :=
  ⟨h.os, h.tape, h.output, by rw [h.size]; exact Nat.le_refl _, fun k hk => h.block k (fun e => by have := hB k e; omega)⟩

theorem results_cell1 {P : Program} {fn : Func} {p : Tmp} {ty : TypeId} (h : fn.results = #[.cell p ty]) (tmps : Array Value) (w : World) (hna : ∀ w, (isAgg ty).run P w = .ok false w) {b : Nat} {v : Value}
    (hp : tmps.getD p undef = .pointer (some ⟨b, 0, none⟩)) (hc : w.cell? ⟨b, 0, none⟩ = some v) : (results fn tmps).run P w = .ok v w := by
  have hp' : tmps[p]?.getD undef = .pointer (some ⟨b, 0, none⟩) := by simpa using hp
  simp [results, h, hp', asAddr, loadVar, Sem.run_bind, hna, Result.andThen, load, Sem.run, hc]

/-- What holds ahead of round k of DagHead. -/
structure HeadInv (A S3 bm : Nat) (keep : Int) (w : World) (vs : List V) (k : Nat) (Ds : List Nat) (wr : World) : Prop where
  st : St wr (bm + 1) bm keep (after keep ((vs.map bare).take k))
  res : Boxed wr A 4 (.bool false)
  box : Boxed wr S3 24 (.pointer (some ⟨bm + 1, 0, none⟩))
  bel : Below A w wr
  marks : Marks (A + 1) wr Ds

/-- A digest's bytes as a string. -/
def sb (h : H32) : ByteArray := ⟨h.l.toArray⟩
def cvRow (a b : TypeId) (v : Value) : Sem Value := convert a b v
@[go_sem ↓] theorem cv0 (v : Value) : convert 42 9 v = cvRow 42 9 v := rfl
theorem run_cv {w : World} {b o : Nat} {h : H32} (hr : rowAt w b o 32 = some (hcells h)) (cap : Nat) : (cvRow 42 9 (.slice (some ⟨b, o, none⟩) 32 cap)).run Try.prog w = .ok (.string (sb h)) w := by
  have := run_convert_bytes_back (P := Try.prog) w 42 9 5 ⟨b, o, none⟩ cap h.l Try.underlying42 Try.underlying5 Try.underlying9 (fun j hj => by
    rw [Addr.add_mid, cell_of_rowAt hr j (by rw [h.len] at hj; exact hj)]
    show (bcells h.l)[j]? = _
    rw [getElem?_bcells, List.getElem?_eq_getElem hj]; rfl)
  rw [h.len] at this
  exact this
theorem toList_sb (h : H32) : (sb h).toList = h.l := by
  simp [sb]
theorem less_cmpB : ∀ (l m : List UInt8), l.length = m.length → Op.bytesLess l m = decide (cmpB l m < 0)
  | [], [], _ => by simp [Op.bytesLess, cmpB]
  | [], _ :: _, h => by simp at h
  | _ :: _, [], h => by simp at h
  | a :: l, b :: m, h => by
    have ih := less_cmpB l m (by simpa using h)
    unfold Op.bytesLess cmpB
    by_cases h1 : a.toNat < b.toNat
    · rw [if_pos h1]; simp [UInt8.lt_iff_toNat_lt, h1]
    · rw [if_neg h1]
      by_cases h2 : b.toNat < a.toNat
      · rw [if_pos h2]
        have : ¬ a = b := fun e => by rw [e] at h2; omega
        simp [UInt8.lt_iff_toNat_lt, h1, this]
      · rw [if_neg h2]
        have : a = b := UInt8.toNat_inj.1 (by omega)
        subst this
        simp [ih]
theorem less_sb (a b : H32) : Op.bytesLess (sb a).toList (sb b).toList = decide (hcmp a b < 0) := by
  rw [toList_sb, toList_sb]; exact less_cmpB _ _ (by rw [a.len, b.len])

theorem act_eq {t : Array Value} {ds : List Deferred} {f : (Nat → Value) → Array Value} (h : t = f (fun n => t.getD n undef)) : ∃ u, Act.mk t ds = Act.mk (f u) ds := ⟨_, by rw [← h]⟩

/-- The temporaries ahead of a round. -/
def headFrame (kp A S3 bm : Nat) (keep : Int) (p : Option Addr) (cap len : Nat) (hd : Int) (k : Nat) (u : Nat → Value) : Array Value :=
  List.toArray (Value.int IntKind.u8 (kp : Int) :: Value.slice p len cap :: undef :: undef :: Value.pointer (some ⟨A, 0, none⟩) :: Value.pointer (some ⟨S3, 0, none⟩) :: Value.int IntKind.i64 0 :: .int .i64 hd :: .int .i64 (k : Int) :: u 9 :: u 10 :: u 11 :: Value.bool true :: Value.bool false :: Value.bool false :: Value.slice p len cap :: Value.int IntKind.i64 (len : Int) :: Value.bool false :: Value.bool false :: undef :: Value.tuple #[Value.pointer (some ⟨bm + 1, 0, none⟩), Value.int IntKind.i64 0] :: Value.int IntKind.u8 (kp : Int) :: Value.int IntKind.i64 (kp : Int) :: Value.int IntKind.i64 ((kp : Int) % 64) :: Value.int IntKind.i64 keep :: Value.tuple #[Value.pointer (some ⟨bm + 1, 0, none⟩), Value.int IntKind.i64 0] :: Value.pointer (some ⟨bm + 1, 0, none⟩) :: Value.int IntKind.i64 0 :: u 28 :: u 29 :: u 30 :: u 31 :: u 32 :: u 33 :: u 34 :: u 35 :: u 36 :: u 37 :: u 38 :: u 39 :: u 40 :: u 41 :: u 42 :: u 43 :: u 44 :: u 45 :: u 46 :: u 47 :: u 48 :: u 49 :: u 50 :: u 51 :: u 52 :: u 53 :: u 54 :: u 55 :: u 56 :: u 57 :: u 58 :: u 59 :: u 60 :: u 61 :: u 62 :: u 63 :: u 64 :: u 65 :: u 66 :: u 67 :: u 68 :: u 69 :: u 70 :: u 71 :: u 72 :: u 73 :: u 74 :: u 75 :: u 76 :: u 77 :: u 78 :: u 79 :: u 80 :: u 81 :: u 82 :: u 83 :: u 84 :: u 85 :: u 86 :: u 87 :: u 88 :: u 89 :: u 90 :: u 91 :: u 92 :: u 93 :: u 94 :: u 95 :: [])

/-- The temporaries in a round of the loop over the vertices. -/
def bodyFrame (A S3 B9 Bx : Nat) (u : Nat → Value) : Array Value := List.toArray (u 0 :: u 1 :: u 2 :: u 3 :: Value.pointer (some ⟨A, 0, none⟩) :: Value.pointer (some ⟨S3, 0, none⟩) :: u 6 :: u 7 :: u 8 :: Value.pointer (some ⟨B9, 0, none⟩) :: u 10 :: Value.pointer (some ⟨Bx, 0, none⟩) :: u 12 :: u 13 :: u 14 :: u 15 :: u 16 :: u 17 :: u 18 :: u 19 :: u 20 :: u 21 :: u 22 :: u 23 :: u 24 :: u 25 :: u 26 :: u 27 :: u 28 :: u 29 :: u 30 :: u 31 :: u 32 :: u 33 :: u 34 :: u 35 :: u 36 :: u 37 :: u 38 :: u 39 :: u 40 :: u 41 :: u 42 :: u 43 :: u 44 :: u 45 :: u 46 :: u 47 :: u 48 :: u 49 :: u 50 :: u 51 :: u 52 :: u 53 :: u 54 :: u 55 :: u 56 :: u 57 :: u 58 :: u 59 :: u 60 :: u 61 :: u 62 :: u 63 :: u 64 :: u 65 :: u 66 :: u 67 :: u 68 :: u 69 :: u 70 :: u 71 :: u 72 :: u 73 :: u 74 :: u 75 :: u 76 :: u 77 :: u 78 :: u 79 :: u 80 :: u 81 :: u 82 :: u 83 :: u 84 :: u 85 :: u 86 :: u 87 :: u 88 :: u 89 :: u 90 :: u 91 :: u 92 :: u 93 :: u 94 :: u 95 :: [])
def noOwn (_ : World) (_ : Nat) : Prop := False
theorem owns_none (n₀ : Nat) : Owns n₀ noOwn := ⟨fun _ _ _ _ => Iff.rfl⟩

set_option maxHeartbeats 4000000 in
set_option maxRecDepth 100000 in
theorem DagHead_any (kp : Nat) (hkp : kp < 256) (p : Option Addr) (cap : Nat) (vs : List V) (w : World) (hp : ∀ (k : Nat) (x : V), vs[k]? = some x → ∃ g o, p = some ⟨g, o, none⟩ ∧ g < w.heap.size ∧ rowAt w g (o + k * 66) 66 = some (vcells x)) :
    Calls Try.prog 3 #[.int .u8 kp, .slice p vs.length cap] w fun e w' => e = .returned (.bool true) ∧ Below w.heap.size w w' := by
  refine (callsIn_wide (n := 5)).1 ?_
  refine callsIn_of_wp_marks Try.func3 rfl trivial ?_ rfl
  refine wpIn_wide.2 ?_
  simp only [Try.ntmps3, List.size_toArray, List.length_cons, List.length_nil, Nat.reduceAdd, Nat.reduceSub, Array.replicate_succ, Array.replicate_zero, List.push_toArray, List.append_toArray, List.nil_append, List.cons_append]
  obtain ⟨W1, hW1⟩ : ∃ W1, w.alloc (Obj.cells #[.bool false] 4) = W1 := ⟨_, rfl⟩
  have hB1 : Below w.heap.size w W1 := by subst hW1; exact (Below.refl _ _).alloc (Nat.le_refl _) _
  have hb1 : Boxed W1 w.heap.size 4 (.bool false) := by subst hW1; exact Boxed.new _ _ _
  have hs1 : W1.heap.size = w.heap.size + 1 := by subst hW1; simp
  have haw := awake_any W1
  by_cases hlen : 60 < vs.length
  · have HB1 := Lib.hid hB1
    have hpost : ∀ W2, Below W1.heap.size W1 W2 → Boxed W2 w.heap.size 4 (.bool false) := fun W2 h => (h.block _ (by omega)).trans hb1
    clear hp
    have hd : decide (60 < (vs.length : Int)) = true := by simp; omega
    go_wp2_with (go_at_call 5; refine haw.mono ?_; clear haw; rintro e W2 ⟨rfl, hB2⟩)
    have haw2 := awake_any W2
    go_wp2_with fail
    refine haw2.mono ?_
    rintro e W3 ⟨rfl, hB3⟩
    have hB31 : Below W1.heap.size W1 W3 := hB2.trans (hB3.mono hB2.size)
    have hb3 := hpost W3 hB31
    have hc3 := hb3.cell
    have hf3 := hb3.frozen
    go_wp2
    refine ⟨_, results_cell1 rfl _ _ Try.isAgg4 rfl (hb3.set _).cell, rfl, ?_⟩
    exact (HB1.out.trans (hB31.mono HB1.out.size)).setCell (p := ⟨w.heap.size, 0, none⟩) (Nat.le_refl _) _
  · have hd : decide (60 < (vs.length : Int)) = false := by simp; omega
    go_wp2_with (go_at_call 5; refine haw.mono ?_; clear haw; rintro e W2 ⟨rfl, hB2⟩)
    refine (New_ok (1 + (kp : Int) % 64) (by omega) (by omega) W2).mono ?_
    rintro e W3 ⟨rfl, hs3, hB3⟩
    have hb31 : Below w.heap.size w W3 := hB1.trans ((hB2.mono (by omega)).trans (hB3.mono (by have := hB2.size; omega)))
    have hsz2 := hB2.size
    have hsz3 := hB3.size
    have hsz4 := hs3.lt
    obtain ⟨W4, hW4⟩ : ∃ W4, W3.alloc (Obj.cells #[.pointer (some ⟨W2.heap.size + 1, 0, none⟩)] 24) = W4 := ⟨_, rfl⟩
    have hB4 : Below W3.heap.size W3 W4 := by subst hW4; exact (Below.refl _ _).alloc (Nat.le_refl _) _
    have hst4 := hs3.later hB4
    have hbx4 : Boxed W4 W3.heap.size 24 (.pointer (some ⟨W2.heap.size + 1, 0, none⟩)) := by subst hW4; exact Boxed.new _ _ _
    have hres4 : Boxed W4 w.heap.size 4 (.bool false) := ((hB2.trans ((hB3.mono (by omega)).trans (hB4.mono (by omega)))).block _ (by omega)).trans hb1
    have hinv : HeadInv w.heap.size W3.heap.size W2.heap.size (1 + (kp : Int) % 64) w vs 0 [] W4 := ⟨hst4, hres4, hbx4, hb31.trans (hB4.mono (by omega)), ⟨List.nodup_nil, by simp, by simp⟩⟩
    have hAp : ∀ (k : Nat) (x : V), vs[k]? = some x → ∃ g o, p = some ⟨g, o, none⟩ ∧ g < w.heap.size ∧ ∀ W, Below w.heap.size w W → rowAt W g (o + k * 66) 66 = some (vcells x) := fun k x hx => by
      obtain ⟨g, o, e1, e2, e3⟩ := hp k x hx
      exact ⟨g, o, e1, e2, fun W hW => (below_rowAt hW e2 _ _).trans e3⟩
    have hA3 : w.heap.size + 1 ≤ W2.heap.size := by omega
    have HI := Lib.hid hinv
    have HP := Lib.hid hAp
    clear hp hb31 hW1 hB1 hb1 hs1 hB2 hs3 hB3 hB4 hst4 hbx4 hres4 hinv hAp
    go_wp2
    try rw [hW4]
    generalize hA : w.heap.size = A at *
    generalize W3.heap.size = S3 at *
    generalize W2.heap.size = bm at *
    generalize hkeep : (1 + (kp : Int) % 64) = keep at *
    refine (wpIn_wide (n := 5)).1 ?_
    refine wpIn_loop (fun a' wr => ∃ (Ds : List Nat) (k : Nat), k ≤ vs.length ∧ HeadInv A S3 bm keep w vs k Ds wr ∧ ∃ u : Nat → Value, a' = { tmps := headFrame kp A S3 bm keep p cap vs.length (hdv (after keep ((vs.map bare).take k))) k u, defers := Ds.map markOf }) (fun a' _ => vs.length - (intOf (a'.tmps.getD 8 undef)).toNat) ?_ ?_
    · exact ⟨[], 0, Nat.zero_le _, HI.out, act_eq rfl⟩
    · rintro a' wr ⟨Ds, k, hk, hinv, u, rfl⟩
      refine wpIn_wide.2 ?_
      simp only [headFrame]
      by_cases hlt : k < vs.length
      · have hx : vs[k]? = some vs[k] := List.getElem?_eq_getElem hlt
        obtain ⟨g, o, rfl, hg, hrows⟩ := HP.out k _ hx
        have htk : (vs.map bare).take (k + 1) = (vs.map bare).take k ++ [bare vs[k]] := by rw [List.take_add_one, List.getElem?_map, hx]; rfl
        generalize vs[k] = x at *
        have hstep : after keep ((vs.map bare).take (k + 1)) = insOf keep (after keep ((vs.map bare).take k)) (bare x) := by rw [htk]; simp [after]
        obtain ⟨hap, hbd, hln, hfl⟩ := after_ok keep (by omega) ((vs.map bare).take k)
        have hln' : (after keep ((vs.map bare).take k)).length ≤ 60 := by simp at hln; omega
        have hst := hinv.st
        obtain ⟨L, hL⟩ : ∃ L, after keep ((vs.map bare).take k) = L := ⟨_, rfl⟩
        rw [hL] at hstep hap hbd hln hfl hln' hst ⊢
        have hap2 : Apart (insOf keep L (bare x)) := insOf_apart hap
        have hbd2 : Bd (insOf keep L (bare x)) := insOf_bd hbd
        have hfl2 : Fl keep (insOf keep L (bare x)) := insOf_fl (by omega) hap hbd hfl
        have hmono : hdv L ≤ hdv (insOf keep L (bare x)) := hdv_mono (by omega) hap hbd
        have hrg := hdv_range hap2 hbd2
        have hlen2 := insOf_length keep L (bare x)
        obtain ⟨r1, r2, r3, r4⟩ := vrow (hrows wr hinv.bel)
        have hins := Insert_any (bm + 1) bm keep (by omega) (by omega) L hap hbd (by omega) (bare x) wr.drew (hst.later (Below.refl _ _).drew)
        have hbx := hinv.box.cell
        have hgw : g < wr.heap.size := by have := hinv.bel.size; omega
        have hS3w := hinv.box.lt
        have hbx : wr.cell? ⟨S3, 0, none⟩ = some (.pointer (some ⟨bm + 1, 0, none⟩)) := hinv.box.cell
        have HIV := Lib.hid hinv
        have HST := Lib.hid hst
        have HAP := Lib.hid hap
        have HBD := Lib.hid hbd
        clear hinv HI HP hst hap hbd hrows
        go_wp2
        have hd1 : ∀ b o n, rowAt { wr with drawn := wr.drawn + 1 } b o n = rowAt wr b o n := fun _ _ _ => rfl
        have hd2 : ∀ p, World.cell? { wr with drawn := wr.drawn + 1 } p = wr.cell? p := fun _ => rfl
        go_still_tail 17, (by kernel_rfl)
        change wpList _ _ _ _ _ wr.drew
        go_wp2_with fail
        refine hins.mono ?_
        rintro e W5 ⟨⟨q, cp, rfl⟩, hs5, ho5⟩
        generalize insOf keep L (bare x) = L2 at *
        have hst5 : St W5 (bm + 1) bm keep L2 := hs5
        have hb5 : Below A w W5 := by
          have h1 := HIV.out.bel
          exact h1.trans (Below.trans ((Below.refl _ _).drew) (ho5.below (B := A) (by omega) (by have := h1.size; simp; omega)))
        have hsz5 : wr.heap.size ≤ W5.heap.size := ho5.size
        have hres5 : Boxed W5 A 4 (.bool false) := (ho5.block A (by simp; have := HIV.out.res.lt; omega) (by omega)).trans HIV.out.res
        have hbox5 : Boxed W5 S3 24 (.pointer (some ⟨bm + 1, 0, none⟩)) := (ho5.block S3 (by simp; omega) (by omega)).trans HIV.out.box
        have hmk5 : Marks (A + 1) W5 Ds := ⟨HIV.out.marks.nodup, HIV.out.marks.ge, fun D hD => by
          have hl := (Array.getElem?_eq_some_iff.1 (HIV.out.marks.obj D hD)).1
          refine (ho5.block D (by simp; exact hl) (fun e => ?_)).trans (HIV.out.marks.obj D hD)
          subst e
          obtain ⟨es, c, hb, _⟩ := HST.out.map
          have := HIV.out.marks.obj D hD
          rw [hb] at this; cases this⟩
        have hc5 := hbox5.cell
        have hhead := Head_any (bm + 1) bm keep L2 hap2 W5 hst5
        cases hho : headOf L2 with
        | none =>
          rw [hho] at hhead
          have he : hdv L = hdv L2 := by
            have h1 : hdv L2 = -1 := by unfold hdv; rw [hho]
            have h2 := (hdv_range HAP.out HBD.out).1
            omega
          have close : ∀ W, Below W5.heap.size W5 W → HeadInv A S3 bm keep w vs (k + 1) Ds W := fun W hW => by
            refine ⟨?_, (hW.block A hres5.lt).trans hres5, (hW.block S3 hbox5.lt).trans hbox5, hb5.trans (hW.mono (by have := hb5.size; omega)), ⟨hmk5.nodup, hmk5.ge, fun D hD => (hW.block D (Array.getElem?_eq_some_iff.1 (hmk5.obj D hD)).1).trans (hmk5.obj D hD)⟩⟩
            rw [hstep]; exact hst5.later hW
          have CL := Lib.hid close
          simp only [Option.getD_none, Option.isSome_none] at hhead
          rw [he]
          clear hap2 hbd2 hfl2 hmono hrg hlen2 hins hs5 hst5 hb5 hsz5 hres5 hbox5 hmk5 hho he close ho5 HST HIV HAP HBD hfl hln r1 r2 r3 r4 hbx hgw hx hg htk hL
          go_wp2_with (go_at_call 8; refine hhead.mono ?_; clear hhead; rintro e W6 ⟨rfl, hB6⟩)
          refine ⟨⟨Ds, k + 1, by omega, CL.out _ (hB6.trans (((Below.refl _ _).alloc (Nat.le_refl _) _).mono hB6.size)), by rw [hstep]; exact act_eq rfl⟩, by simp [intOf, headFrame]; omega⟩
        | some h =>
          rw [hho] at hhead
          have hhd : hdv L2 = h.depth := by unfold hdv; rw [hho]
          rw [hhd] at hmono hrg
          have hd9 : decide (h.depth < hdv L) = false := by simp; omega
          simp only [Option.getD_some, Option.isSome_some] at hhead
          have HH := Lib.hid hho
          have HAP2 := Lib.hid hap2
          have HBD2 := Lib.hid hbd2
          have HFL2 := Lib.hid hfl2
          have H5 := Lib.hid (show St W5 (bm + 1) bm keep L2 ∧ Below A w W5 ∧ Boxed W5 A 4 (.bool false) ∧ Boxed W5 S3 24 (.pointer (some ⟨bm + 1, 0, none⟩)) ∧ Marks (A + 1) W5 Ds from ⟨hst5, hb5, hres5, hbox5, hmk5⟩)
          clear hap2 hbd2 hfl2 hins hs5 hst5 hb5 hres5 hbox5 hmk5 hho ho5 HST HIV HAP HBD hfl hln r1 r2 r3 r4 hbx hgw hx hg htk hL hd1 hd2 hW4 hd
          go_wp2_with (first | (go_at_call 8; refine hhead.mono ?_; clear hhead; rintro e W6 ⟨rfl, hB6⟩; (have hc6 := (hB6.cell (p := ⟨S3, 0, none⟩) H5.out.2.2.2.1.lt).trans hc5); (have hne6 : S3 < W6.heap.size := Nat.lt_of_lt_of_le H5.out.2.2.2.1.lt hB6.size)) | (go_at_call 9; refine (All_any (bm + 1) _).mono ?_; rintro e W8 ⟨rfl, hW8⟩))
          have hb8 : Below W5.heap.size W5 W8 := by
            subst hW8; exact hB6.trans ((((Below.refl _ _).alloc (Nat.le_refl _) _).alloc (by simp) _).mono hB6.size)
          have hst8 : St W8 (bm + 1) bm keep L2 := H5.out.1.later hb8
          have hsz8 : W8.heap.size = W6.heap.size + 2 := by subst hW8; simp
          have h98 : W8.heap[W6.heap.size]? = some (.cells (vcells h) 35) := by subst hW8; rw [heap_alloc, if_neg (by simp), heap_alloc, if_pos rfl]
          have hbn : W8.heap[W6.heap.size + 1]? = some (.cells #[.pointer (some ⟨bm + 1, 0, none⟩)] 24) := by subst hW8; rw [heap_alloc, if_pos (by simp)]
          have hc8 : W8.cell? ⟨S3, 0, none⟩ = some (.pointer (some ⟨bm + 1, 0, none⟩)) := (hb8.cell (p := ⟨S3, 0, none⟩) H5.out.2.2.2.1.lt).trans hc5
          have h56 := hB6.size
          rw [← hW8]
          clear hW8 hB6 hc6
          generalize W6.heap.size = B9 at *
          have hstops := All1_stops (bm + 1) bm keep L2 HBD2.out (by omega) (B9 + 1) 4 (by omega) noOwn W8 hbn hst8 (owns_none _) (fun k hk => hk.elim)
          refine (wpIn_wide (n := 5)).1 ?_
          refine wpIn_rangeFunc_ownH rfl (by omega) (gf := 15) (lb := #[.pointer (some ⟨B9 + 1, 0, none⟩)]) rfl trivial (enters_of Try.func15 (by kernel_rfl) rfl) hstops
            (fun h k => h.trans k) (fun W l o o' hl ho hc hw => KpO.putObj (owns_none W8.heap.size) W l o o' hl ho hc hw) (Below.refl _ _) (fun _ => rfl)
            (fun _ W => Below W8.heap.size W8 W)
            (fun _ _ _ => False) (ownFrom_below (Nat.le_refl _) (Nat.le_refl _)) (fun _ _ _ _ _ hs _ _ => hs) (Below.refl _ _)
            (fun (x : { u // u ∈ L2 }) (a' : Act) (W : World) => ∃ Bx : Nat, W.heap[Bx]? = some (Obj.cells (vcells x.1) 35) ∧ ∃ u : Nat → Value, a' = { tmps := bodyFrame A S3 B9 Bx u, defers := [] }) ?hAx ?assign ?body ?done ?stop
          case hAx =>
            rintro x a' _ X Y row ⟨Bx, h1, h2⟩ hg hr
            refine ⟨Bx, (hg.block Bx (Array.getElem?_eq_some_iff.1 h1).1 (fun e => ?_)).trans h1, h2⟩
            obtain ⟨_, o, ho, hc⟩ := hr Bx e.symm
            rw [h1] at ho; cases ho; cases hc
          case assign =>
            intro l' pre x W K hI hK
            gi_wp2
            refine hK _ _ ((KeepsOthers.alloc W _).from _) (KpO.of_below (owns_none W8.heap.size) hI.size ((Below.refl _ _).alloc (Nat.le_refl _) _)) (hI.alloc hI.size _) ⟨W.heap.size, ?_, ?_⟩
            · rw [heap_alloc, if_pos rfl]
            · exact act_eq rfl
          case body =>
            rintro l' pre x a' W hl' ⟨r, hr⟩ hI ⟨Bx, hBx, u, rfl⟩ hplen
            have hstW := hst8.later hI
            have h9 := (hI.block B9 (by omega)).trans h98
            have hS3W : S3 < W.heap.size := by have := hI.size; omega
            have hB9W : B9 < W.heap.size := by have := hI.size; omega
            have hBxW : Bx < W.heap.size := (Array.getElem?_eq_some_iff.1 hBx).1
            have hcW : W.cell? ⟨S3, 0, none⟩ = some (.pointer (some ⟨bm + 1, 0, none⟩)) := (hI.cell (p := ⟨S3, 0, none⟩) (by simp; omega)).trans hc8
            obtain ⟨-, e2, -, e4, -, -⟩ := vblock hBx
            obtain ⟨-, f2, -, f4, -, -⟩ := vblock h9
            have hmx := head_max HAP2.out HH.out x.1 x.2
            have hge := head_ge HAP2.out HH.out x.1 x.2
            have hflx := HFL2.out x.1 x.2
            have hfloor : ∀ p, Calls Try.prog 10 #[.pointer (some ⟨bm + 1, 0, none⟩)] (gw W p) fun e w'' => e = .returned (.int .i64 (floorOf keep L2)) ∧ ∃ q, w'' = gw W q := fun p =>
              calls_gw (Floor_any (bm + 1) bm keep (by omega) (by omega) L2 HAP2.out HBD2.out (gw W p) (hstW.later (below_gw W p)))
            have hcv1 : ∀ p, (cvRow 42 9 (.slice (some ⟨Bx, 0, none⟩) 32 32)).run Try.prog (gw W p) = .ok (.string (sb x.1.id)) (gw W p) := fun p => run_cv (by rw [rowAt_gw _ _ _ _ _ hBxW]; exact e2) 32
            have hcv2 : ∀ p, (cvRow 42 9 (.slice (some ⟨B9, 0, none⟩) 32 32)).run Try.prog (gw W p) = .ok (.string (sb h.id)) (gw W p) := fun p => run_cv (by rw [rowAt_gw _ _ _ _ _ hB9W]; exact f2) 32
            have k1 : decide (h.depth < x.1.depth) = false := by simp; exact hge
            have k2 : decide (x.1.depth < floorOf keep L2) = false := by simp; exact hflx
            have HI := Lib.hid hI
            have k4 : x.1.depth = h.depth → Op.bytesLess (sb x.1.id).toList (sb h.id).toList = false := by
              intro e
              rw [less_sb]
              rcases hmx with hx | hx
              · rw [hx, hcmp_self]; rfl
              · rw [bet_iff] at hx
                have := hcmp_swap h.id x.1.id
                simp; omega
            clear hmx hge hflx hI hstW h9 hBx hr hl'
            generalize floorOf keep L2 = fl at *
            clear hstops h98 hbn hst8 hc8 hb8 hplen hstep hmono hhd hd9 hbx hc5
            simp only [bodyFrame]
            by_cases c : x.1.depth = h.depth
            · have k3 : (x.1.depth == h.depth) = true := by simpa using c
              have k5 := k4 c
              clear k4 c
              gi_wp2
              refine wpIn_region_gw (by kernel_rfl) (by kernel_rfl) (by rfl) ?_
              repeat (go_big_quiet_step ((go_at_call 10; exact hfloor _)))
              refine wpQuiet_nil ?_
              rintro _ ⟨pg, rfl⟩
              have hbg := below_gw W pg
              gi_wp2
              exact ⟨((KeepsOthers.of_grownBy (row := none) ⟨hbg.os, hbg.tape, hbg.output, hbg.size, fun k hk _ => hbg.block k hk⟩ (by simp)).from _), KpO.of_below (owns_none W8.heap.size) HI.out.size hbg, HI.out.trans (hbg.mono HI.out.size)⟩
            · have k3 : (x.1.depth == h.depth) = false := by simpa using c
              clear k4 c
              gi_wp2
              refine wpIn_region_gw (by kernel_rfl) (by kernel_rfl) (by rfl) ?_
              repeat (go_big_quiet_step ((go_at_call 10; exact hfloor _)))
              refine wpQuiet_nil ?_
              rintro _ ⟨pg, rfl⟩
              have hbg := below_gw W pg
              gi_wp2
              exact ⟨((KeepsOthers.of_grownBy (row := none) ⟨hbg.os, hbg.tape, hbg.output, hbg.size, fun k hk _ => hbg.block k hk⟩ (by simp)).from _), KpO.of_below (owns_none W8.heap.size) HI.out.size hbg, HI.out.trans (hbg.mono HI.out.size)⟩
          case done =>
            rintro D xs W hD hS hI hK
            have hB : Below W5.heap.size W5 W := hb8.trans (hI.mono hb8.size)
            obtain ⟨g1, g2, g3, g4, g5⟩ := H5.out
            have hinv2 : HeadInv A S3 bm keep w vs (k + 1) (D :: Ds) W := by
              refine ⟨?_, (hB.block A g3.lt).trans g3, (hB.block S3 g4.lt).trans g4, g2.trans (hB.mono (by have := g2.size; omega)), ⟨?_, ?_, ?_⟩⟩
              · rw [hstep]; exact g1.later hB
              · refine List.nodup_cons.2 ⟨fun hm => ?_, g5.nodup⟩
                have := (Array.getElem?_eq_some_iff.1 (g5.obj D hm)).1
                have := hb8.size
                omega
              · intro D' hD'
                rcases List.mem_cons.1 hD' with rfl | hD'
                · have := hb8.size; have := g3.lt; omega
                · exact g5.ge D' hD'
              · intro D' hD'
                rcases List.mem_cons.1 hD' with rfl | hD'
                · exact hK
                · exact (hB.block D' (Array.getElem?_eq_some_iff.1 (g5.obj D' hD')).1).trans (g5.obj D' hD')
            have HINV := Lib.hid hinv2
            clear hstops h98 hbn hc8 hst8 hb8 hB g1 g2 g3 g4 g5 hI hK hinv2 hS hbx hc5
            go_wp2
            refine ⟨⟨D :: Ds, k + 1, by omega, HINV.out, by rw [hstep, hhd]; exact act_eq rfl⟩, by simp [intOf, headFrame]; omega⟩
          case stop =>
            rintro D c pre W _ _ h _
            exact h.elim
      · obtain rfl : k = vs.length := by omega
        have hc := hinv.res.cell
        have hf := hinv.res.frozen
        have HIV := Lib.hid hinv
        clear hinv HI HP
        go_wp2
        refine leaves_marks (by simp) Ds _ HIV.out.marks.nodup (fun D hD => ?_) (fun W' hW' => ?_)
        · have := HIV.out.marks.ge D hD
          exact (Below.heap_setCell wr ⟨A, 0, none⟩ _ D (by simp; omega)).trans (HIV.out.marks.obj D hD)
        · have hbW := hW'.below (B := A + 1) HIV.out.marks.ge
          refine ⟨_, results_cell1 rfl _ _ Try.isAgg4 rfl ((hbW.cell (p := ⟨A, 0, none⟩) (by simp)).trans (HIV.out.res.set _).cell), rfl, ?_⟩
          rw [hA]
          exact (HIV.out.bel.setCell (p := ⟨A, 0, none⟩) (Nat.le_refl _) _).trans (hbW.mono (by omega))

end Go.Proofs.Ytdmhaajekmaadaa
