/- A region that draws its order, in a round of a range over a function: by the words for a plain one. -/
import Derived.Test.YtlkiajepahkliaaWTab
import Derived.OrdersIn
import Derived.RangeFuncCalls
import Derived.OwnWalkIn
namespace Go.Proofs.Ytlkiajepahkliaa
open Go.RowKit Go.Proofs.YtlkiajepahkliaaW.PrintWords Go.Proofs.YtlkiajepahkliaaW.PrintLast
set_option linter.unusedVariables false

def NoOut (Q : Exit → Act → World → Prop) : Exit → Act → World → Prop := fun e a w => e ≠ .outgrown ∧ Q e a w
theorem not_letsOut (Q : Exit → Act → World → Prop) : ¬ LetsOut (NoOut Q) := fun ⟨_, _, h, _⟩ => h rfl

theorem rowsIn_round {l n : Nat} {P : Program} {row : String} {args : Array Value} {w : World} {R : Value → World → Prop} (h : Rows P row args w R) : RowsIn (Fence.wide.inRound l) n P row args w R :=
  fun c cs _ => let ⟨v, w', r, s⟩ := h c cs; ⟨v, w', r, stepsIn_wide.2 s⟩

theorem oper_round {l n : Nat} {P : Program} {o : Oper} (ho : ∀ c, o.op ≠ .defer c) {a : Act} {w : World} {K K' : Act → World → Prop} (hK : ∀ a w, K a w → K' a w) {Q : Exit → Act → World → Prop}
    (h : o.wp P a w K (NoOut Q)) : o.wpIn (Fence.wide.inRound l) n P a w K' Q := by
  refine ⟨fun _ _ => trivial, ?_⟩
  rw [Oper.semAt_plain _ _ _ ho]
  unfold Oper.wp at h
  generalize (execOp a.eval o).run P w = r at h ⊢
  match r, h with
  | .ok (.value v) w', h => exact hK _ _ h
  | .ok .skip w', h => exact hK _ _ h
  | .ok (.defer d) w', h => exact hK _ _ h
  | .ok (.enter f args) w', h =>
    refine ⟨fun h1 => by simp [Fence.wide, Fence.inRound] at h1, ?_⟩
    refine CallsIn.inRound l (callsIn_wide.2 (Calls.mono h ?_))
    intro e w'' he
    match e, he with
    | .returned v, he => exact hK _ _ he
    | .panicked c, he => exact he.2
    | .outgrown, he => exact absurd he (not_letsOut Q)
  | .ok (.row row args) w', h => exact ⟨fun h1 => by simp [Fence.wide, Fence.inRound] at h1, rowsIn_round (Rows.mono h fun v w'' hv => hK _ _ hv)⟩
  | .halt (.panic v) w', h => exact h.2

theorem wpAny_round {l n : Nat} {P : Program} {md : Region.Mode} {ops : Array Oper} {Q : Exit → Act → World → Prop} (hd : ∀ (i : Nat) (o : Oper), ops[i]? = some o → ∀ c, o.op ≠ .defer c) :
    ∀ (fuel : Nat) (listed : Array Bool) (a : Act) (w : World), wpAny P md ops (NoOut Q) fuel listed a w → wpAnyIn (Fence.wide.inRound l) n P md ops Q fuel listed a w := by
  intro fuel
  induction fuel with
  | zero => intro listed a w h; exact ⟨h.1, h.2.2⟩
  | succ fuel ih =>
    intro listed a w h
    refine ⟨fun hr => (h.1 hr).2, fun i hi => ?_⟩
    have h1 := h.2 i hi
    unfold wpOp at h1
    unfold wpOpIn
    cases ho : ops[i]? with
    | none => rw [ho] at h1; exact ih _ _ _ h1
    | some o =>
      rw [ho] at h1
      dsimp only at h1 ⊢
      split
      · rename_i hw
        rw [if_pos hw] at h1
        rcases h1 with h1 | ⟨_, h1⟩
        · exact oper_round (hd i o ho) (fun a w => ih _ a w) h1
        · exact absurd h1 (not_letsOut Q)
      · rename_i hw
        rw [if_neg hw] at h1
        exact ⟨fun _ _ => trivial, ih _ _ _ h1⟩

def noDeferB (ops : Array Oper) : Bool := ops.all fun o => match o.op with | .defer _ => false | _ => true
theorem noDefer_of {ops : Array Oper} (h : noDeferB ops = true) : ∀ (i : Nat) (o : Oper), ops[i]? = some o → ∀ c, o.op ≠ .defer c := by
  intro i o hi c hc
  unfold noDeferB at h
  rw [Array.all_eq_true] at h
  obtain ⟨hlt, he⟩ := Array.getElem?_eq_some_iff.1 hi
  have := h i hlt
  rw [he, hc] at this
  cases this

/-- No panic, no end for want of room. -/
def Quiet (Q : Exit → Act → World → Prop) : Exit → Act → World → Prop := NoOut fun e a w => (∀ c, e ≠ .panic c) ∧ Q e a w

/-- The words' first step, in a round. -/
theorem startR_ {P : Program} {ops : Array Oper} {Q : Exit → Act → World → Prop} {S : World → Prop} {ds : List Nat} {id n l d : Nat} {a : Act} {w : World} (la : Array Bool) (hm : P.follows .mixedOrders = true) (hdf : noDeferB ops = true) (hn : ops.size = n) (hl : Array.replicate n false = la) (hS : S w.drew)
    (h : S w.drew → wpAnyLast P .any ops (Quiet Q) S ds n la a w.drew) : (Code.region id ops true).wpIn (Fence.wide.inRound l) d P Q a w := by
  subst hn
  subst hl
  exact wpIn_mono (wpIn_region_any hm (wpAny_round (noDefer_of hdf) _ _ _ _ (wpAny_of_last _ _ _ _ (h hS)))) (fun _ _ _ h => h.2)

/-- The words' first step where a panic's post hangs on the frame. -/
theorem startQ_ {P : Program} {ops : Array Oper} {Q : Exit → Act → World → Prop} {S : World → Prop} {ds : List Nat} {id n : Nat} {a : Act} {w : World} (la : Array Bool) (hm : P.follows .mixedOrders = true) (hdf : noDeferB ops = true) (hn : ops.size = n) (hl : Array.replicate n false = la) (hS : S w.drew)
    (h : S w.drew → wpAnyLast P .any ops (Quiet Q) S ds n la a w.drew) : (Code.region id ops true).wp P Q a w :=
  wp_mono (start_ la hm hn hl hS h) (fun _ _ _ h => h.2.2)
end Go.Proofs.Ytlkiajepahkliaa
