/- The rows of laws that answer true and leave what came in as it read: what such a row wants of a walk. For any program. No condition. -/
import Derived.Test.YtdmhaajekmaadaaKitG
import Derived.ProofKit
import Derived.Below
import Derived.Deep.Slices
import Derived.OpenShut
namespace Go.Proofs.Ytdmhaajekmaadaa
open Go.ChangeShapes Go.WideShapes Go.ChangeAt Go.RowKit

section
variable {H : Type} {enc : TypeId × Value → H} {P : Program}

theorem trodAll_stays (hl : laidOutB P = true) {W W' : World} (hb : Below W.heap.size W W') {sp : Nat → Bool} : ∀ {ts : List TypeId} {vs : List Value} {ds : List (DataW H)} {ps : List MemPlace}, (∀ t ∈ ts, P.readableRec t = true ∧ t < P.types.size) →
    DataW.TrodAll enc P W 0 (fun _ => true) true ts vs ds ps → (∀ x ∈ ps, x.block < W.heap.size) → (∀ x ∈ ps, sp x.block = true) → DataW.TrodAll enc P W' 0 sp true ts vs ds ps
  | [], _, _, _, _, h, _, _ => by
    obtain ⟨rfl, rfl, rfl⟩ := trodAll_nil h
    exact h
  | t :: ts, _, _, _, ht, h, hlt, hs => by
    obtain ⟨v, vs, d, ds, p, q, rfl, rfl, rfl, h1, h2⟩ := trodAll_cons h
    obtain ⟨r1, r2⟩ := ht t (by simp)
    refine ⟨p, q, WideElems.Trod_stays hl r1 r2 h1 (fun x hx => hb.same (hlt x (by simp [hx]))) (fun x hx => hs x (by simp [hx])), ?_, rfl⟩
    exact trodAll_stays hl hb (fun t' h' => ht t' (by simp [h'])) h2 (fun x hx => hlt x (by simp [hx])) (fun x hx => hs x (by simp [hx]))

/-- The last step of such a row. -/
theorem law_post {f : Func} {s : ChangeSpec} {apart fresh handsOn again : Bool} {W W' : World} {args : Array Value} {ds : List (DataW H)} {before : List MemPlace}
    (hl : laidOutB P = true) (ht : ∀ t ∈ f.params.toList, P.readableRec t = true ∧ t < P.types.size) (hr : ∃ b, f.resultTypes = #[b] ∧ P.underlying b = some .bool) (hv : s.vars = [])
    (hfn : s.fn H (ds ++ []) = { results := [.lit (.bool true)], args := ds })
    (hW : DataW.Whole enc P f.params.toList s.vars apart W args.toList ds [] before)
    (hA : DataW.TrodAll enc P W 0 (fun _ => true) true f.params.toList args.toList ds before) (hb : Below W.heap.size W W') :
    s.post enc P f apart fresh handsOn again W args (.bool true) W' := by
  obtain ⟨rb, hrb, hub⟩ := hr
  have hlt : ∀ p ∈ before, p.block < W.heap.size := fun p hp => hW.lt p hp
  have hargs : ∀ sp : Nat → Bool, (∀ p ∈ before, sp p.block = true) → DataW.TrodAll enc P W' 0 sp true f.params.toList args.toList ds before := fun sp hsp => trodAll_stays hl hb ht hA hlt hsp
  have hvars : ∀ sp : Nat → Bool, DataW.TrodVars enc P W' sp s.vars ([] : List (DataW H)) [] := fun sp => by rw [hv]; rfl
  have hres : ∀ (b : Nat) (sp : Nat → Bool) (hd : Bool), DataW.TrodAll enc P W' b sp hd f.resultTypes.toList ((Value.bool true).resultList f.resultTypes.size) [.lit (.bool true)] [] := fun b sp hd => by
    rw [hrb]
    exact trodAll_mk1 ⟨1, by simp [DataW.trod, Value.cells, hub]⟩
  have hok : ∀ (j : Nat) (t : TypeId) (r : Value), f.resultTypes[j]? = some t → ((Value.bool true).resultList f.resultTypes.size)[j]? = some r → Value.okWide P W' .any 0 t r := by
    intro j t r h1 h2
    rw [hrb] at h1 h2
    cases j with
    | zero =>
      simp at h1; subst h1
      simp [Value.resultList] at h2; subst h2
      simp [Value.okWide, hub, Cell.okWide, Cell.ok]
    | succ j => simp at h1
  have hold : ∀ p ∈ before, (fun b => decide (b < W.heap.size)) p.block = true := fun p hp => by simpa using hlt p hp
  refine ⟨ds, [], before, [], before, [], hW, ?_, ?_, ?_, World.keptBut_mono (fun p hp => ⟨hp, ?_⟩) (hb.frame (· ∈ before)), fun _ => ?_⟩
  · rw [hfn]; exact hres _ _ _
  · rw [hfn]; exact hargs _ hold
  · rw [hfn]; exact hvars _
  · exact .inr (by simpa using hp)
  · obtain ⟨_, _, _, _, _, hz, hn⟩ := hW
    refine ⟨hok, _, _, ([] ++ before) ++ [], ⟨[] ++ before, [], trodAll_append (hargs _ (fun _ _ => rfl)) (hres _ _ _), hvars _, rfl, ?_, ?_⟩, ?_⟩
    · intro b off hp
      have hin : MemPlace.cell b off ∈ before := by simpa using hp
      rw [hb.frozen (hlt _ hin)]
      exact hz b off hin
    · intro ha
      have := hn ha
      simpa using this
    · intro p hp _
      simpa using hp

/-! ### Digests and rows that came in -/
section
variable {w : World} {base : Nat} {spare : Nat → Bool} {held : Bool}

theorem open_bytes {T E : TypeId} {n : Nat} (hT : P.underlying T = some (.array n E)) (hE : P.underlying E = some (.int .u8)) (hC : P.cellsOf E = 1) (hCT : P.cellsOf T = n) {fuel : Nat} {cs : List Value} {x : DataW H × List MemPlace} (h : DataW.trod enc P w base spare held fuel T cs = some x) :
    ∃ l : List UInt8, l.length = n ∧ cs = (bcells l).toList := by
  obtain ⟨xs, m, rfl, -, hlen, hxs, hi⟩ := DataW.trod_array hT h
  rw [hCT] at hlen
  have hone : ∀ i, (hi' : i < n) → ∃ b : UInt8, cs[i]? = some (u8 b) := by
    intro i hi'
    have h1 := hi i hi'
    rw [hC, Nat.mul_one] at h1
    have h2 : (cs.drop i).take 1 = [cs[i]'(by omega)] := by rw [List.drop_eq_getElem_cons (by omega)]; rfl
    rw [h2, List.getElem?_eq_getElem (by omega)] at h1
    obtain ⟨k, hk, -, hw⟩ := DataW.trod_int hE h1
    simp at hk
    simp only [Lit.wf, Bool.and_eq_true, decide_eq_true_eq] at hw
    refine ⟨UInt8.ofNat k.toNat, ?_⟩
    rw [List.getElem?_eq_getElem (by omega), hk]
    have h3 : 0 ≤ k ∧ k ≤ 255 := by
      have := hw
      simp [IntKind.min, IntKind.max, IntKind.bits, IntKind.signed] at this
      omega
    simp only [u8, Option.some.injEq, Value.int.injEq, true_and]
    rw [UInt8.toNat_ofNat']
    omega
  refine ⟨cs.map fun v => match v with | .int _ k => UInt8.ofNat k.toNat | _ => 0, by simp [hlen], ?_⟩
  apply List.ext_getElem?
  intro i
  by_cases hi' : i < n
  · obtain ⟨b, hb⟩ := hone i hi'
    simp only [bcells, List.map_map, List.getElem?_map, hb, Option.map_some, Function.comp, u8]
    simp
  · rw [List.getElem?_eq_none (by omega), List.getElem?_eq_none (by simp [bcells]; omega)]

theorem open_hash {T E : TypeId} (hT : P.underlying T = some (.array 32 E)) (hE : P.underlying E = some (.int .u8)) (hC : P.cellsOf E = 1) (hCT : P.cellsOf T = 32) {fuel : Nat} {cs : List Value} {x : DataW H × List MemPlace} (h : DataW.trod enc P w base spare held fuel T cs = some x) :
    ∃ a : H32, cs = (hcells a).toList := by
  obtain ⟨l, hl, hc⟩ := open_bytes hT hE hC hCT h
  exact ⟨⟨l, hl⟩, hc⟩
end
end

end Go.Proofs.Ytdmhaajekmaadaa
