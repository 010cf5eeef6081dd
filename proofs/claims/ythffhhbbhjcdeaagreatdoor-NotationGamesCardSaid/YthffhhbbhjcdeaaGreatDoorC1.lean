/- WALKS: the program's Kind, Side, forward, Right, moved, steps, Reach. -/
import Derived.Test.YthffhhbbhjcdeaaGreatDoorM
import Derived.Test.YthffhhbbhjcdeaaGreatDoorP2
set_option linter.unusedVariables false
set_option linter.unusedSimpArgs false
namespace Go.Proofs.YthffhhbbhjcdeaaGreatDoor
open Go.RowKit
set_option maxRecDepth 100000

set_option maxHeartbeats 400000 in
theorem kindP_any (a : Int) (w : World) (h1 : -9223372036854775807 ≤ a) (h2 : a ≤ 9223372036854775807) : Calls Tryz.prog 59 #[.int .i64 a] w (RetW (.int .i64 (sizeI a)) w) := by
  go_enter Tryz.func59, Tryz.ntmps59
  go_wp2
  all_goals (go_ret; exact ⟨by simp [sizeI]; try omega, rfl⟩)

set_option maxHeartbeats 400000 in
theorem sideP_any (a : Int) (w : World) : Calls Tryz.prog 60 #[.int .i64 a] w (RetW (.int .i64 (sideR a)) w) := by
  go_enter Tryz.func60, Tryz.ntmps60
  go_wp2
  all_goals (go_ret; exact ⟨by simp [sideR, *]; try omega, rfl⟩)

theorem forwardP_any (s : Int) (w : World) (h1 : -4 ≤ s) (h2 : s ≤ 4) : Calls Tryz.prog 63 #[.int .i64 s] w (RetW (.int .i64 (1 - 2 * s)) w) := by
  go_enter Tryz.func63, Tryz.ntmps63
  go_wp2
  go_ret
  exact ⟨rfl, rfl⟩

theorem reachP_any (a : Option Addr) (n c : Nat) (fr : Int) (w : World) : Calls Tryz.prog 76 #[.slice a n c, .int .i64 fr] w fun e w' =>
    e = .returned (.func (.func 102) #[] #[.pointer (some ⟨w.heap.size, 0, none⟩), .pointer (some ⟨w.heap.size + 1, 0, none⟩)]) ∧ w' = (w.alloc (.cells #[.slice a n c] 22)).alloc (.cells #[.int .i64 fr] 3) := by
  go_enter Tryz.func76, Tryz.ntmps76
  go_wp2
  go_ret
  exact ⟨rfl, rfl⟩

theorem bits_seven (fr : Nat) (hf : fr < 64) : bits BinOp.and IntKind.i64 (fr : Int) 7 = (fr : Int) % 8 := by
  have key : ∀ n : Nat, n < 64 → bits BinOp.and IntKind.i64 (n : Int) 7 = (n : Int) % 8 := by decide +kernel
  exact key fr hf
theorem bits_or8 (a b : Int) (h0 : 0 ≤ a) (h1 : a ≤ 7) (h2 : 0 ≤ b) (h3 : b ≤ 7) : bits BinOp.or IntKind.i64 (a * 8) b = 8 * a + b := by
  obtain ⟨n, rfl⟩ := Int.eq_ofNat_of_zero_le h0
  obtain ⟨m, rfl⟩ := Int.eq_ofNat_of_zero_le h2
  have key : ∀ n : Nat, n < 8 → ∀ m : Nat, m < 8 → bits BinOp.or IntKind.i64 ((n : Int) * 8) (m : Int) = 8 * (n : Int) + (m : Int) := by decide +kernel
  exact key n (by omega) m (by omega)

set_option maxHeartbeats 1000000 in
theorem movedP_any (fr : Nat) (x y : Int) (w : World) (hf : fr < 64) (hx1 : -2 ≤ x) (hx2 : x ≤ 2) (hy1 : -3 ≤ y) (hy2 : y ≤ 3) : Calls Tryz.prog 103 #[.int .i64 fr, .agg #[.int .i64 x, .int .i64 y]] w (RetB (.int .i64 (movedI fr x y)) w) := by
  have hb7 := bits_seven fr hf
  go_enter Tryz.func103, Tryz.ntmps103
  go_wp2_with fail
  go_quiet (fail)
  go_wp2
  all_goals
    go_ret
    refine ⟨?_, ((Below.refl _ _).alloc (Nat.le_refl _) _).trans (below_drewN (Below.refl _ _) _)⟩
    unfold movedI
    first
      | (rw [if_pos (by omega)]; rfl)
      | (rw [if_neg (by omega), ← bits_or8 _ _ (by omega) (by omega) (by omega) (by omega)]; rfl)

/-- Steps in memory. -/
structure StepRow (w : World) (b : Nat) (l : List (Int × Int)) : Prop where
  lt : b < w.heap.size
  cell : ∀ i s, l[i]? = some s → w.cell? ⟨b, i * 2, none⟩ = some (.int .i64 s.1) ∧ w.cell? ⟨b, i * 2 + 1, none⟩ = some (.int .i64 s.2)
theorem StepRow.below {w w' : World} {b B : Nat} {l : List (Int × Int)} (h : StepRow w b l) (hb : Below B w w') (hB : b < B) : StepRow w' b l :=
  ⟨Nat.lt_of_lt_of_le h.lt hb.size, fun i s hs => ⟨(hb.cell (p := ⟨b, i * 2, none⟩) hB).trans (h.cell i s hs).1, (hb.cell (p := ⟨b, i * 2 + 1, none⟩) hB).trans (h.cell i s hs).2⟩⟩

def stepCells (l : List (Int × Int)) : List Value := l.flatMap fun s => [.int .i64 s.1, .int .i64 s.2]
theorem stepCells_get : ∀ (l : List (Int × Int)) (i : Nat) (s : Int × Int), l[i]? = some s → (stepCells l)[i * 2]? = some (.int .i64 s.1) ∧ (stepCells l)[i * 2 + 1]? = some (.int .i64 s.2)
  | [], i, s, h => by simp at h
  | a :: l, 0, s, h => by simp at h; subst h; simp [stepCells]
  | a :: l, i + 1, s, h => by
    have := stepCells_get l i s (by simpa using h)
    rw [Nat.add_mul]
    simpa [stepCells] using this
theorem StepRow.of_blk {w : World} {g : Nat} {l : List (Int × Int)} {z : Array Value} (h : Blk w g ((stepCells l).toArray ++ z)) : StepRow w g l := by
  refine ⟨h.lt, fun i s hs => ?_⟩
  obtain ⟨h1, h2⟩ := stepCells_get l i s hs
  have k1 := (List.getElem?_eq_some_iff.1 h1).1
  have k2 := (List.getElem?_eq_some_iff.1 h2).1
  exact ⟨h.cell (by rw [Array.getElem?_append_left (by simpa using k1)]; simpa using h1), h.cell (by rw [Array.getElem?_append_left (by simpa using k2)]; simpa using h2)⟩

set_option maxHeartbeats 1000000 in
theorem stepsP_any (k : Int) (w : World) (h0 : 2 ≤ k) (h6 : k ≤ 6) : Calls Tryz.prog 104 #[.int .i64 k] w fun e w' =>
    ∃ g cp, e = .returned (.slice (some ⟨g, 0, none⟩) (stepsL k).length cp) ∧ StepRow w' g (stepsL k) ∧ Below w.heap.size w w' ∧ w.heap.size ≤ g ∧ ∃ cs, Blk w' g cs := by
  go_enter Tryz.func104, Tryz.ntmps104
  go_wp2_with fail
  all_goals go_ret
  · rename_i e
    have e : k = 2 := by simpa using e
    subst e
    refine ⟨_, _, rfl, StepRow.of_blk (z := #[]) (Blk.new' (by simp) _ _), ?_⟩
    exact ⟨(((Below.refl _ _).alloc (Nat.le_refl _) _).alloc (by simp) _).alloc (by simp; omega) _, by omega, _, Blk.new' (by simp) _ _⟩
  · rename_i e
    have e : k = 3 := by simpa using e
    subst e
    refine ⟨_, _, rfl, StepRow.of_blk (z := #[]) ((Blk.new _ _ _).alloc _), ?_⟩
    exact ⟨((Below.refl _ _).alloc (Nat.le_refl _) _).alloc (by simp) _, by omega, _, (Blk.new _ _ _).alloc _⟩
  · rename_i e
    have e : k = 4 := by simpa using e
    subst e
    refine ⟨_, _, rfl, StepRow.of_blk (z := #[]) (Blk.new' (by simp) _ _), ?_⟩
    exact ⟨((Below.refl _ _).alloc (Nat.le_refl _) _).alloc (by simp) _, by omega, _, Blk.new' (by simp) _ _⟩
  · rename_i e2 e3 e4 _
    have hk : k = 5 ∨ k = 6 := by simp at e2 e3 e4; omega
    have hs : stepsL k = slantS ++ straightS := by rcases hk with rfl | rfl <;> rfl
    rw [hs]
    refine ⟨_, _, rfl, ?_, ?_⟩
    · have hB := fun (w0 : World) (c : Array Value) => Blk.new w0 (#[Value.int IntKind.i64 1, Value.int IntKind.i64 1, Value.int IntKind.i64 1, Value.int IntKind.i64 (-1), Value.int IntKind.i64 (-1), Value.int IntKind.i64 1, Value.int IntKind.i64 (-1), Value.int IntKind.i64 (-1)] ++ (#[Value.int IntKind.i64 1, Value.int IntKind.i64 0, Value.int IntKind.i64 (-1), Value.int IntKind.i64 0, Value.int IntKind.i64 0, Value.int IntKind.i64 1, Value.int IntKind.i64 0, Value.int IntKind.i64 (-1)] ++ c)) 131
      simp only [← Array.append_assoc] at hB
      have hB2 := hB ((w.alloc (.cells #[Value.int IntKind.i64 1, Value.int IntKind.i64 1, Value.int IntKind.i64 1, Value.int IntKind.i64 (-1), Value.int IntKind.i64 (-1), Value.int IntKind.i64 1, Value.int IntKind.i64 (-1), Value.int IntKind.i64 (-1)] 131)).alloc (.cells #[Value.int IntKind.i64 1, Value.int IntKind.i64 0, Value.int IntKind.i64 (-1), Value.int IntKind.i64 0, Value.int IntKind.i64 0, Value.int IntKind.i64 1, Value.int IntKind.i64 0, Value.int IntKind.i64 (-1)] 131)) (Builtin.zeroCells #[Value.int IntKind.i64 0, Value.int IntKind.i64 0] ((Question.appendCap 8 4 131).cut (w.tape w.drawn (Question.appendCap 8 4 131)) - 8))
      simp only [← Array.append_assoc]
      have hR : StepRow _ _ (slantS ++ straightS) := StepRow.of_blk hB2
      rw [World.size_alloc, World.size_alloc] at hR
      exact hR.below ((Below.refl _ _).drew) hR.lt
    · exact ⟨((((Below.refl _ _).alloc (Nat.le_refl _) _).alloc (by simp) _).alloc (by simp; omega) _).drew, by omega, _, (Blk.new' (by simp) _ _).drew⟩

end Go.Proofs.YthffhhbbhjcdeaaGreatDoor
