/- A range over a function, in two lemmas: the statement (what the iterator's call must leave), and one round (what a call of yield comes to). Nothing of the program is named. -/
import Derived.RangeFuncNested
import Derived.RangeFuncBound
import Derived.RangeFuncCalls
import Derived.RangeFuncLeaves
import Derived.WalkKit
import Derived.OwnWalkIn
import Derived.TacticsInMore
import Derived.LoopNIn
import Derived.LoopIn
import Derived.BigGuardIn
import Derived.Test.YthgbahlkflmgiaaLib
namespace Go.Proofs.Ythgbahlkflmgiaa.Lb
open Go Go.RowKit
set_option linter.unusedVariables false

variable {F : Fence} {n : Nat} {P : Program}

/-- A loop's record. -/
def loopRec (fn : FuncId) (tmps : Array Value) (ps : Array Tmp) (assign body : Code) (D : Nat) (st : LoopState) (pe : Option Code) : Loop :=
  { state := st, pending := pe, fn, tmps, params := ps, assign, body, defers := D }

/-- What a round's body must leave: the record busy still; R speaks of the world behind the round. -/
def roundLeft (l : Nat) (rec : LoopState → Option Code → Loop) (R : Ending → World → Prop) : Exit → Act → World → Prop
  | .normal, _, W => W.heap[l]? = some (.loop (rec .busy none)) ∧ R (.returned (.bool true)) (W.putObj l (.loop (rec .ready none)))
  | .ret, _, W => W.heap[l]? = some (.loop (rec .busy none)) ∧ R (.returned (.bool false)) (W.putObj l (.loop (rec .done (some .ret))))
  | .exit id, _, W => W.heap[l]? = some (.loop (rec .busy none)) ∧ R (.returned (.bool false)) (W.putObj l (.loop (rec .done (some (.exit id)))))
  | .goto t, _, W => W.heap[l]? = some (.loop (rec .busy none)) ∧ R (.returned (.bool false)) (W.putObj l (.loop (rec .done (some (.goto t)))))
  | .panic _, _, _ => False
  | .outgrown, _, _ => False

/-- ONE ROUND. -/
theorem yield_round {l D : Nat} {fn : FuncId} {tmps : Array Value} {ps : Array Tmp} {assign body : Code} {args : Array Value} {W : World} {R : Ending → World → Prop} (hfn : F.fn fn)
    (hl : W.heap[l]? = some (.loop (loopRec fn tmps ps assign body D .ready none))) (hps : args.size = ps.size)
    (h : assign.wpIn (F.inRound l) n P (Exit.then (fun a' Wa => Wa.heap[l]? = some (.loop (loopRec fn tmps ps assign body D .ready none)) ∧
        body.wpIn (F.inRound l) n P (roundLeft l (loopRec fn tmps ps assign body D) R) a' (Wa.putObj l (.loop (loopRec fn tmps ps assign body D .busy none)))) (fun _ _ _ => False))
      { tmps := (ps.zip args).foldl (fun t (p, v) => t.setIfInBounds p v) tmps, defers := [] } W) :
    YieldAt F n P l args W R := by
  refine ⟨fn, _, assign, body, run_yield (P := P) (args := args) hl hps, roundIn_of_wpIn hfn ?_⟩
  refine wpIn_mono h ?_
  rintro e a' Wa hp
  cases e with
  | normal =>
    obtain ⟨hla, hb⟩ := hp
    refine ⟨_, run_beginRound hla rfl, ?_⟩
    refine wpIn_mono hb ?_
    rintro e a3 W3 hq
    cases e with
    | normal => exact ⟨_, _, run_endRound none hq.1, hq.2⟩
    | ret => exact ⟨_, _, run_endRound (some .ret) hq.1, hq.2⟩
    | exit id => exact ⟨_, _, run_endRound (some (.exit id)) hq.1, hq.2⟩
    | goto t => exact ⟨_, _, run_endRound (some (.goto t)) hq.1, hq.2⟩
    | panic ch => exact hq.elim
    | outgrown => exact hq.elim
  | exit id => exact hp.elim
  | goto t => exact hp.elim
  | ret => exact hp.elim
  | panic chain => exact hp.elim
  | outgrown => exact hp.elim

/-- THE STATEMENT, outermost. The iterator's call is made in a world with two blocks more: D for deferred calls, l the loop's record. -/
theorem range_stmt {g : Operand} {ps : Array Tmp} {assign body : Code} {Q : Exit → Act → World → Prop} {a : Act} {w : World} {gf : Nat} {lb : Array Value}
    (hro : F.round = none) (h1 : F.depth.isSome = true → 1 ≤ n) (hg : a.eval g = .func (.func gf) #[] lb) (hFg : F.fn gf) (eg : ∀ args w, (callFunc gf args).run P w = .ok (.enter gf args) w)
    (h : ∀ fn, F.fn fn → CallsIn F (n - 1) P gf (#[.func (.yield (w.heap.size + 1)) #[] #[]] ++ lb) ((w.alloc (.deferred (some []))).alloc (.loop (loopRec fn a.tmps ps assign body w.heap.size .ready none)))
      (fun e W => (∃ v, e = .returned v) ∧
        ((W.heap[w.heap.size + 1]? = some (.loop (loopRec fn a.tmps ps assign body w.heap.size .ready none)) ∧
            Q .normal { a with defers := { target := .collected w.heap.size, args := #[] } :: a.defers } (W.putObj (w.heap.size + 1) (.loop (loopRec fn a.tmps ps assign body w.heap.size .exhausted none)))) ∨
         (∃ c, W.heap[w.heap.size + 1]? = some (.loop (loopRec fn a.tmps ps assign body w.heap.size .done (some c))) ∧
            c.wpIn F n P Q { a with defers := { target := .collected w.heap.size, args := #[] } :: a.defers } (W.putObj (w.heap.size + 1) (.loop (loopRec fn a.tmps ps assign body w.heap.size .exhausted (some c)))))))) :
    (Code.rangeFunc g ps assign body).wpIn F n P Q a w := by
  refine wpIn_rangeFunc ?_
  intro fn hfn
  rw [hro]
  obtain ⟨W1, hW1⟩ : ∃ W1, (w.alloc (.deferred (some []))).alloc (.loop (loopRec fn a.tmps ps assign body w.heap.size .ready none)) = W1 := ⟨_, rfl⟩
  have h' := h fn hfn
  rw [hW1] at h'
  refine ⟨w.heap.size + 1, [{ target := .collected w.heap.size, args := #[] }], W1, { target := .fn (.func gf) lb, args := #[.func (.yield (w.heap.size + 1)) #[] #[]] }, W1, gf,
    #[.func (.yield (w.heap.size + 1)) #[] #[]] ++ lb, W1, ?_, ?_, ?_, ?_, h1, ?_⟩
  · rw [← hW1]; exact run_enterLoop_outer _ _ _ _ _
  · simp only [resolve, hg]
    simp [go_sem]
  · intro f' hf'; simp [Target.leads] at hf'; subst hf'; exact hFg
  · simp [invoke, go_sem, eg]
  · refine h'.mono ?_
    rintro e W ⟨⟨v, rfl⟩, h | ⟨c, hl, hc⟩⟩
    · exact ⟨none, _, run_endLoop h.1 (by simp [loopRec]), h.2⟩
    · exact ⟨some c, _, run_endLoop hl (by simp [loopRec]), hc⟩
/-- The same two, the record under a name. -/
theorem yield_round' {l D : Nat} {fn : FuncId} {tmps : Array Value} {ps : Array Tmp} {assign body : Code} {args : Array Value} {W : World} {R : Ending → World → Prop} {ro : LoopState → Option Code → Loop} (hro : ro = loopRec fn tmps ps assign body D) (hfn : F.fn fn)
    (hl : W.heap[l]? = some (.loop (ro .ready none))) (hps : args.size = ps.size)
    (h : assign.wpIn (F.inRound l) n P (Exit.then (fun a' Wa => Wa.heap[l]? = some (.loop (ro .ready none)) ∧
        body.wpIn (F.inRound l) n P (roundLeft l ro R) a' (Wa.putObj l (.loop (ro .busy none)))) (fun _ _ _ => False))
      { tmps := (ps.zip args).foldl (fun t (p, v) => t.setIfInBounds p v) tmps, defers := [] } W) :
    YieldAt F n P l args W R := by
  subst hro
  exact yield_round hfn hl hps h
theorem range_stmt' {g : Operand} {ps : Array Tmp} {assign body : Code} {Q : Exit → Act → World → Prop} {a : Act} {w : World} {gf : Nat} {lb : Array Value}
    (hro : F.round = none) (h1 : F.depth.isSome = true → 1 ≤ n) (hg : a.eval g = .func (.func gf) #[] lb) (hFg : F.fn gf) (eg : ∀ args w, (callFunc gf args).run P w = .ok (.enter gf args) w)
    (h : ∀ fn ro, F.fn fn → ro = loopRec fn a.tmps ps assign body w.heap.size → CallsIn F (n - 1) P gf (#[.func (.yield (w.heap.size + 1)) #[] #[]] ++ lb) ((w.alloc (.deferred (some []))).alloc (.loop (ro .ready none)))
      (fun e W => (∃ v, e = .returned v) ∧
        ((W.heap[w.heap.size + 1]? = some (.loop (ro .ready none)) ∧
            Q .normal { tmps := a.tmps, defers := { target := .collected w.heap.size, args := #[] } :: a.defers } (W.putObj (w.heap.size + 1) (.loop (ro .exhausted none)))) ∨
         (∃ c, W.heap[w.heap.size + 1]? = some (.loop (ro .done (some c))) ∧
            c.wpIn F n P Q { tmps := a.tmps, defers := { target := .collected w.heap.size, args := #[] } :: a.defers } (W.putObj (w.heap.size + 1) (.loop (ro .exhausted (some c)))))))) :
    (Code.rangeFunc g ps assign body).wpIn F n P Q a w :=
  range_stmt hro h1 hg hFg eg (fun fn hfn => h fn _ hfn rfl)
/-- A plain contract, at a call in the walk within the wide fence; and within a round. -/
theorem at_wide {m n : Nat} {P : Program} {f : FuncId} {args : Array Value} {w : World} {R : Ending → World → Prop} (h : Calls P f args w R) : Fence.wide.fn f ∧ (Fence.wide.depth.isSome = true → 1 ≤ m) ∧ CallsIn Fence.wide n P f args w R :=
  ⟨trivial, (fun h => by cases h), callsIn_wide.2 h⟩
theorem at_round {l m n : Nat} {P : Program} {f : FuncId} {args : Array Value} {w : World} {R : Ending → World → Prop} (h : Calls P f args w R) : (Fence.wide.inRound l).fn f ∧ ((Fence.wide.inRound l).depth.isSome = true → 1 ≤ m) ∧ CallsIn (Fence.wide.inRound l) n P f args w R :=
  ⟨trivial, (fun h => by cases h), CallsIn.inRound l (callsIn_wide.2 h)⟩
theorem at_wide_in {m n : Nat} {P : Program} {f : FuncId} {args : Array Value} {w : World} {R : Ending → World → Prop} (h : CallsIn Fence.wide n P f args w R) : Fence.wide.fn f ∧ (Fence.wide.depth.isSome = true → 1 ≤ m) ∧ CallsIn Fence.wide n P f args w R :=
  ⟨trivial, (fun h => by cases h), h⟩
end Go.Proofs.Ythgbahlkflmgiaa.Lb
