/- Regions that draw their order, whose operations read and whose callees read and lay blocks of their own: walked once, in a function and in a round of a loop over an iterator. For any program. No condition. -/
import Derived.Test.YtdmhaajekmaadaaKitF
import Derived.Deep.QuietTactic
import Derived.BigQuiet
import Derived.OrdersIn
import Derived.StillTailTactics
import Derived.RangeFuncLeaves
namespace Go.Proofs.Ytdmhaajekmaadaa
open Go.RowKit

/-- How a world has grown: so far is the tape read, these blocks were laid. -/
structure Gw where
  d : Nat
  os : Array Obj
  deriving Inhabited
def gw (w : World) (p : Gw) : World := { w with drawn := p.d, heap := w.heap ++ p.os }

theorem gw_of_below {w w' : World} (h : Below w.heap.size w w') : ∃ p, w' = gw w p := by
  refine ⟨⟨w'.drawn, w'.heap.extract w.heap.size w'.heap.size⟩, ?_⟩
  obtain ⟨h1, h2, h3, h4, h5⟩ := h
  cases w' with
  | mk heap tape drawn os output =>
    simp only [gw] at *
    subst h1 h2 h3
    congr 1
    apply Array.ext_getElem?
    intro k
    rw [Array.getElem?_append]
    by_cases hk : k < w.heap.size
    · rw [if_pos hk]; exact h5 k hk
    · rw [if_neg hk, Array.getElem?_extract]
      by_cases hk2 : k < heap.size
      · rw [if_pos (by omega)]; congr 1; omega
      · rw [if_neg (by omega), Array.getElem?_eq_none (by omega)]
theorem below_gw (w : World) (p : Gw) : Below w.heap.size w (gw w p) :=
  ⟨rfl, rfl, rfl, by simp [gw], fun k hk => by simp only [gw]; rw [Array.getElem?_append_left hk]⟩
theorem gw_drawn (w : World) : { w with drawn := w.drawn + 1 } = gw w ⟨w.drawn + 1, #[]⟩ := by simp [gw]
@[go_sem] theorem cell_gw (w : World) (p : Gw) (b o : Nat) (h : b < w.heap.size) : (gw w p).cell? ⟨b, o, none⟩ = w.cell? ⟨b, o, none⟩ := (below_gw w p).cell (p := ⟨b, o, none⟩) h
@[go_sem] theorem frozen_gw (w : World) (p : Gw) (b o : Nat) (h : b < w.heap.size) : (gw w p).frozen? ⟨b, o, none⟩ = w.frozen? ⟨b, o, none⟩ := by
  simp [World.frozen?, (below_gw w p).block b h]
@[go_sem] theorem rowAt_gw (w : World) (p : Gw) (b o n : Nat) (h : b < w.heap.size) : rowAt (gw w p) b o n = rowAt w b o n := below_rowAt (below_gw w p) h o n

/-- A callee's contract, met in a world of the class. -/
theorem calls_gw {P : Program} {f : FuncId} {args : Array Value} {w : World} {p : Gw} {v : Value}
    (h : Calls P f args (gw w p) fun e w' => e = .returned v ∧ Below (gw w p).heap.size (gw w p) w') : Calls P f args (gw w p) fun e w'' => e = .returned v ∧ ∃ q, w'' = gw w q :=
  h.mono fun _ _ ⟨he, hb⟩ => ⟨he, gw_of_below ((below_gw w p).trans (hb.mono (below_gw w p).size))⟩

theorem wp_region_gw {P : Program} {id : Nat} {Q : Exit → Act → World → Prop} {a : Act} {w : World} {l : List Oper} (hm : P.follows .mixedOrders = true) (hB : Region.lexB .any l.toArray = true)
    (h : wpQuiet P l.toArray (fun w' => ∃ p, w' = gw w p) (fun a' => ∀ w', (∃ p, w' = gw w p) → Q .normal a' w') l a) : (Code.region id l.toArray true).wp P Q a w :=
  wp_region_quiet (C := fun w' => ∃ p, w' = gw w p) hm hB ⟨_, gw_drawn w⟩ (by simpa using h)

/-! ### .. in a round -/
def noDefer (ops : List Oper) : Bool := ops.all fun o => match o.op with | .defer _ => false | _ => true

section
variable {P : Program} {ops : Array Oper} {md : Region.Mode} {C : World → Prop} {l n : Nat}

theorem wpIn_of_quiet {o : Oper} {a : Act} {K : Act → Prop} {K' : Act → World → Prop} {Q' : Exit → Act → World → Prop} {w : World} (hd : ∀ c, o.op ≠ .defer c) (hw : C w) (h : ∀ a w', C w' → K a → K' a w') (hh : o.quiet P a C K) : o.wpIn (Fence.wide.inRound l) n P a w K' Q' := by
  obtain ⟨v, h1, h2⟩ := hh
  have h3 := h1 w hw
  unfold Oper.quietAt at h3
  unfold Oper.wpIn
  refine ⟨fun _ _ => trivial, ?_⟩
  rw [show o.semAt (Fence.wide.inRound l).round a.eval = execOp a.eval o from Oper.semAt_some l _ _ hd]
  generalize (execOp a.eval o).run P w = r at *
  cases r with
  | ok x w' =>
    cases x <;> simp only [Oper.quietUpon] at h3 <;> simp only [Oper.uponIn]
    case value u =>
      obtain ⟨e1, e2⟩ := h3
      rw [e1, e2]
      exact h _ _ hw h2
    case skip =>
      obtain ⟨e1, e2⟩ := h3
      rw [e1, ← e2]
      exact h _ _ hw h2
    case enter f args =>
      obtain ⟨e1, hc⟩ := h3
      rw [e1]
      refine ⟨fun hs => by simp [Fence.inRound, Fence.wide] at hs, ?_⟩
      refine (CallsIn.inRound l (callsIn_wide.2 hc)).mono fun e w'' ⟨he, hw''⟩ => ?_
      subst he; exact h _ _ hw'' h2
  | halt x w' => simp only [Oper.quietUpon] at h3

theorem wpAnyIn_of_quiet {Q : Act → Prop} {Q' : Exit → Act → World → Prop} (hd : ∀ (j : Nat) (o : Oper) c, ops[j]? = some o → o.op ≠ .defer c) (hQ : ∀ a w, C w → Q a → Q' .normal a w) : ∀ (fuel : Nat) (listed : Array Bool) (a : Act) (w : World), C w →
    wpAnyQ P md ops C Q fuel listed a → wpAnyIn (Fence.wide.inRound l) n P md ops Q' fuel listed a w
  | 0, _, _, _, hw, h => ⟨h.1, hQ _ _ hw h.2⟩
  | fuel + 1, _, _, _, hw, h => ⟨fun h0 => hQ _ _ hw (h.1 h0), fun i hi => by
      have h2 := h.2 i hi
      unfold qOp at h2
      unfold wpOpIn
      split
      · rename_i ho; simp only [ho] at h2; exact wpAnyIn_of_quiet hd hQ fuel _ _ _ hw h2
      · rename_i o ho
        simp only [ho] at h2
        split
        · rename_i hw'; simp only [hw', if_true] at h2; exact (wpIn_of_quiet (fun c => hd i o c ho) hw (fun a' w' hC => wpAnyIn_of_quiet hd hQ fuel _ a' w' hC) h2)
        · rename_i hw'; simp only [hw'] at h2; exact ⟨fun _ _ => trivial, wpAnyIn_of_quiet hd hQ fuel _ _ _ hw h2⟩⟩

theorem wpIn_region_gw {id : Nat} {Q : Exit → Act → World → Prop} {a : Act} {w : World} {ls : List Oper} (hm : P.follows .mixedOrders = true) (hB : Region.lexB .any ls.toArray = true) (hd : noDefer ls = true)
    (h : wpQuiet P ls.toArray (fun w' => ∃ p, w' = gw w p) (fun a' => ∀ w', (∃ p, w' = gw w p) → Q .normal a' w') ls a) : (Code.region id ls.toArray true).wpIn (Fence.wide.inRound l) n P Q a w := by
  simp only [Region.lexB, Bool.and_eq_true] at hB
  refine wpIn_region_any hm (wpAnyIn_of_quiet (C := fun w' => ∃ p, w' = gw w p) (Q := fun a' => ∀ w', (∃ p, w' = gw w p) → Q .normal a' w') ?_ (fun _ w' hw' h => h w' hw') _ _ _ _ ⟨_, gw_drawn w⟩ ?_)
  · intro j o c ho e
    have hm : o ∈ ls := by
      have : ls[j]? = some o := by simpa using ho
      exact List.mem_of_getElem? this
    have := List.all_eq_true.1 hd o hm
    rw [e] at this
    cases this
  · have := wpAnyQ_lex (C := fun w' => ∃ p, w' = gw w p) (md := .any) hB.1 ls 0 (Array.replicate ls.toArray.size false) a (by simp) (by simpa using hB.2) h
    simpa using this
end

end Go.Proofs.Ytdmhaajekmaadaa
