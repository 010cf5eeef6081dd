/- A REGION THAT DRAWS ITS ORDER, WITHIN A ROUND OF A LOOP OVER AN ITERATOR, WHOSE OPERATIONS READ AND WHOSE CALLEES ARE QUIET: walked once. -/
import Derived.Sort.BigQuietIn
import Derived.RangeFuncCalls
import Derived.KernelRfl
set_option linter.unusedVariables false
set_option linter.unusedSimpArgs false
namespace Go
open Go.RowKit

theorem wide_fn (f : FuncId) : Fence.wide.fn f := trivial

def noDeferB (ops : Array Oper) : Bool := ops.toList.all fun o => match o.op with | .defer _ => false | _ => true

theorem uponIn_round {F : Fence} {n : Nat} {P : Program} {o : Oper} {a : Act} {next : Act → World → Prop} {Q : Exit → Act → World → Prop} {l₀ : Nat} (r : Result Next) :
    o.uponIn (F.inRound l₀) n P a next Q r = o.uponIn F n P a next Q r := by
  cases r with
  | ok x w => cases x <;> rfl
  | halt h w => cases h <;> rfl

theorem wpOpsIn_round {F : Fence} (hro : F.round = none) {n : Nat} {P : Program} {ops : Array Oper} {Q : Exit → Act → World → Prop} {l₀ : Nat} (hnd : noDeferB ops = true) :
    ∀ order : List Nat, wpOpsIn (F.inRound l₀) n P ops Q order = wpOpsIn F n P ops Q order
  | [] => rfl
  | i :: rest => by
    funext a w
    unfold wpOpsIn
    rw [wpOpsIn_round hro hnd rest]
    cases ho : ops[i]? with
    | none => rfl
    | some o =>
      have hd : ∀ c, o.op ≠ .defer c := by
        intro c hc
        unfold noDeferB at hnd
        rw [List.all_eq_true] at hnd
        have hm : o ∈ ops.toList := by
          rw [← Array.getElem?_toList] at ho
          exact List.mem_of_getElem? ho
        have := hnd o hm
        rw [hc] at this
        cases this
      dsimp only
      split
      · unfold Oper.wpIn
        rw [uponIn_round, Fence.inRound_round, Oper.semAt_some l₀ _ _ hd, hro, Oper.semAt_none]
        rfl
      · rfl


theorem wpIn_region_quiet_round {F : Fence} {n : Nat} {P : Program} {id l₀ : Nat} {Q : Exit → Act → World → Prop} {a : Act} {w : World} {l : List Oper} (hro : F.round = none) (hm : P.follows .mixedOrders = true) (hB : Region.lexB .any l.toArray = true)
    (hnd : noDeferB l.toArray = true)
    (h : wpQuietIn F n P l.toArray (fun w' => ∃ n, w' = w.drewN n) (fun a' => ∀ w', (∃ n, w' = w.drewN n) → Q .normal a' w') l a) : (Code.region id l.toArray true).wpIn (F.inRound l₀) n P Q a w := by
  simp only [Region.lexB, Bool.and_eq_true] at hB
  refine wpIn_region_draw fun t => ?_
  rw [wpOpsIn_round hro hnd]
  simp only [Region.schedule, hm, Bool.true_or, if_true]
  refine wpAnyIn_sound l.toArray.size t _ a _ (wpAnyIn_of_quiet (C := fun w' => ∃ n, w' = w.drewN n) (Q := fun a' => ∀ w', (∃ n, w' = w.drewN n) → Q .normal a' w') hro (fun _ w' hw' h => h w' hw') _ _ _ _ ⟨1, rfl⟩ ?_)
  have := wpAnyQIn_lex (F := F) (n := n) (C := fun w' => ∃ n, w' = w.drewN n) (md := .any) hB.1 l 0 (Array.replicate l.toArray.size false) a (by simp) (by simpa using hB.2) h
  simpa using this

end Go
