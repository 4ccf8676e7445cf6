/- Regions that draw their order, whose operations read, or call what makes memory and changes none: in a function, and in the round of a range over a function. -/
import Derived.Test.YtmcafcgbbhcjhaaDoorBase
import Derived.RangeFuncNested
import Derived.RangeFuncBound
import Derived.RangeFuncCalls
import Derived.RangeFuncLeaves
import Derived.Shelf.Abstract
import Derived.Shelf.RegionOpen
import Derived.OwnWalkIn
import Derived.TacticsInMore
import Derived.LoopNIn
import Derived.LoopIn
namespace Go.Proofs.YtmcafcgbbhcjhaaDoor
open Go.RowKit Go.Proofs.YtmcafcgbbhcjhaaDoorW.PrintWords

@[go_sem] theorem wide_fn (f : FuncId) : Fence.wide.fn f = True := rfl
@[go_sem] theorem wide_depth : Fence.wide.depth = none := rfl
theorem undef_bool {b : Bool} (h : some undef = some (Value.bool b)) : False := by
  unfold undef at h
  cases h
/-- A world behind W: what lay there lies there still. -/
def Aft (W : World) : Type := { w' : World // Below W.heap.size W w' }
instance instAft (W : World) : Inhabited (Aft W) := ⟨⟨W, Below.refl _ _⟩⟩
def Aft.w {W : World} (i : Aft W) : World := i.1
theorem Aft.below {W : World} (i : Aft W) : Below W.heap.size W i.w := i.2
def Aft.mk' {W w' : World} (h : Below W.heap.size W w') : Aft W := ⟨w', h⟩
def Later (W : World) : World → Prop := fun w' => ∃ i : Aft W, w' = i.w
theorem Later.of {W w' : World} (h : Below W.heap.size W w') : Later W w' := ⟨⟨w', h⟩, rfl⟩
theorem aft_call {P : Program} {f : FuncId} {args : Array Value} {W : World} {i : Aft W} {v : Value} (h : Calls P f args i.w fun e w' => e = .returned v ∧ Below i.w.heap.size i.w w') :
    Calls P f args i.w fun e w'' => e = .returned v ∧ ∃ j : Aft W, w'' = j.w :=
  h.mono fun _ _ ⟨he, hb⟩ => ⟨he, ⟨_, i.below.trans (below_le hb i.below.size)⟩, rfl⟩
theorem aft_call_same {P : Program} {f : FuncId} {args : Array Value} {W : World} {i : Aft W} {v : Value} (h : Calls P f args i.w fun e w' => e = .returned v ∧ i.w = w') :
    Calls P f args i.w fun e w'' => e = .returned v ∧ ∃ j : Aft W, w'' = j.w :=
  h.mono fun _ _ ⟨he, hb⟩ => ⟨he, i, hb.symm⟩

@[go_sem] theorem Aft.cell {W : World} (i : Aft W) (p : Addr) (h : p.block < W.heap.size) : i.w.cell? p = W.cell? p := i.below.cell h
@[go_sem] theorem Aft.frozen {W : World} (i : Aft W) (p : Addr) (h : p.block < W.heap.size) : i.w.frozen? p = W.frozen? p := i.below.frozen h
theorem wp_region_later {P : Program} {id : Nat} {Q : Exit → Act → World → Prop} {a : Act} {w : World} {l : List Oper} (hm : P.follows .mixedOrders = true) (hB : Region.lexB .any l.toArray = true)
    (h : wpQuiet P l.toArray (fun w' => ∃ i : Aft w, w' = i.w) (fun a' => ∀ w', (∃ i : Aft w, w' = i.w) → Q .normal a' w') l a) : (Code.region id l.toArray true).wp P Q a w :=
  wp_region_quiet (C := fun w' => ∃ i : Aft w, w' = i.w) hm hB (Later.of (below_drew (Below.refl _ _))) (by simpa using h)

/-! ### in a round -/
def noDefer (l : List Oper) : Bool := l.all fun o => match o.op with | .defer _ => false | _ => true
section
variable {P : Program} {ops : Array Oper} {md : Region.Mode} {C : World → Prop} {lp n : Nat}
theorem roundOp_of_quiet {o : Oper} {a : Act} {K : Act → Prop} {K' : Act → World → Prop} {Q' : Exit → Act → World → Prop} {w : World} (hnd : ∀ c, o.op ≠ .defer c) (hw : C w) (h : ∀ a w', C w' → K a → K' a w')
    (hh : o.quiet P a C K) : o.wpIn (Fence.wide.inRound lp) n P a w K' Q' := by
  obtain ⟨v, h1, h2⟩ := hh
  have h3 := h1 w hw
  unfold Oper.quietAt at h3
  unfold Oper.wpIn
  refine ⟨fun _ _ => trivial, ?_⟩
  rw [Fence.inRound_round, Oper.semAt_some _ _ _ hnd]
  generalize (execOp a.eval o).run P w = r at *
  cases r with
  | ok x w' =>
    cases x <;> simp only [Oper.quietUpon] at h3 <;> simp only [Oper.uponIn]
    case value u =>
      obtain ⟨e1, e2⟩ := h3
      rw [e1, e2]
      exact h _ _ hw h2
    case skip =>
      obtain ⟨e1, e2⟩ := h3
      rw [e1, ← e2]
      exact h _ _ hw h2
    case enter f args =>
      obtain ⟨e1, hc⟩ := h3
      rw [e1]
      refine ⟨fun hd => (by cases hd), CallsIn.inRound lp (callsIn_wide.2 (hc.mono fun e w'' ⟨he, hw''⟩ => ?_))⟩
      subst he
      exact h _ _ hw'' h2
  | halt x w' => simp only [Oper.quietUpon] at h3
theorem roundAny_of_quiet {Q : Act → Prop} {Q' : Exit → Act → World → Prop} (hnd : ∀ (i : Nat) (o : Oper) (c : Call), ops[i]? = some o → o.op ≠ .defer c) (hQ : ∀ a w, C w → Q a → Q' .normal a w) : ∀ (fuel : Nat) (listed : Array Bool) (a : Act) (w : World), C w →
    wpAnyQ P md ops C Q fuel listed a → wpAnyIn (Fence.wide.inRound lp) n P md ops Q' fuel listed a w
  | 0, _, _, _, hw, h => ⟨h.1, hQ _ _ hw h.2⟩
  | fuel + 1, _, _, _, hw, h => ⟨fun h0 => hQ _ _ hw (h.1 h0), fun i hi => by
      have hh := h.2 i hi
      unfold qOp at hh
      unfold wpOpIn
      split
      · rename_i ho; simp only [ho] at hh; exact roundAny_of_quiet hnd hQ fuel _ _ _ hw hh
      · rename_i o ho
        simp only [ho] at hh
        split
        · rename_i hwt
          simp only [hwt, if_true] at hh
          exact roundOp_of_quiet (fun c => hnd i o c ho) hw (fun a' w' hw' => roundAny_of_quiet hnd hQ fuel _ a' w' hw') hh
        · rename_i hwt
          simp only [hwt] at hh
          exact ⟨fun _ _ => trivial, roundAny_of_quiet hnd hQ fuel _ _ _ hw hh⟩⟩
end
theorem noDefer_at {l : List Oper} (h : noDefer l = true) : ∀ (i : Nat) (o : Oper) (c : Call), l.toArray[i]? = some o → o.op ≠ .defer c := by
  intro i o c ho e
  unfold noDefer at h
  rw [List.all_eq_true] at h
  have hm : o ∈ l := by
    have := Array.mem_of_getElem? ho
    simpa using this
  have := h o hm
  rw [e] at this
  cases this
theorem wpIn_round_later {P : Program} {id lp n : Nat} {Q : Exit → Act → World → Prop} {a : Act} {w : World} {l : List Oper} (hnd : noDefer l = true) (hm : P.follows .mixedOrders = true) (hB : Region.lexB .any l.toArray = true)
    (h : wpQuiet P l.toArray (fun w' => ∃ i : Aft w, w' = i.w) (fun a' => ∀ w', (∃ i : Aft w, w' = i.w) → Q .normal a' w') l a) : (Code.region id l.toArray true).wpIn (Fence.wide.inRound lp) n P Q a w := by
  simp only [Region.lexB, Bool.and_eq_true] at hB
  refine wpIn_region_any hm (roundAny_of_quiet (C := fun w' => ∃ i : Aft w, w' = i.w) (Q := fun a' => ∀ w', (∃ i : Aft w, w' = i.w) → Q .normal a' w') (noDefer_at hnd) (fun _ w' hw' h => h w' hw') _ _ _ _ (Later.of (below_drew (Below.refl _ _))) ?_)
  have := wpAnyQ_lex (C := fun w' => ∃ i : Aft w, w' = i.w) (md := .any) hB.1 l.toArray.toList 0 (Array.replicate l.toArray.size false) a (by simp) (by simpa using hB.2) h
  simpa using this
end Go.Proofs.YtmcafcgbbhcjhaaDoor
