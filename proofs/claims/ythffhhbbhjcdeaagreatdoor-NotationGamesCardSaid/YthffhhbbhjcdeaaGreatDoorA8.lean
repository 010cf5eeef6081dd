/- PLAIN: the reference's moves as a list. -/
import Derived.Test.YthffhhbbhjcdeaaGreatDoorA6
set_option linter.unusedVariables false
set_option linter.unusedSimpArgs false
namespace Go.Proofs.YthffhhbbhjcdeaaGreatDoor
open Go.RowKit

/-- A position within bounds. -/
structure PosOk (p : Pos) : Prop where
  bd : ∀ i, -6 ≤ p.L i ∧ p.L i ≤ 6
  turn : p.turn = 0 ∨ p.turn = 1
  c0 : 0 ≤ p.castle
  c1 : p.castle < 16
  h0 : 0 ≤ p.half
  h1 : p.half ≤ 999
  f0 : 1 ≤ p.full
  f1 : p.full ≤ 999
  ep : p.ep < 0 ∨ 8 ≤ p.ep ∧ p.ep < 56

def kingB (p : Pos) (fr : Nat) : Bool := sizeI (p.L fr) == 6
/-- .. or a castling, of the first n. -/
def castB (p : Pos) (fr tg n : Nat) : Bool := kingB p fr && (List.range n).any fun i => castleToI p i == (tg : Int)
def okGo (p : Pos) (fr tg : Nat) : Bool := mayGoB p fr tg || castB p fr tg 4
def safeGo (p : Pos) (fr tg : Nat) : Bool := !inCheckB (doneL p ⟨fr, tg, 0⟩) p.turn
def lastB (p : Pos) (fr tg : Nat) : Bool := (sizeI (p.L fr) == 1) && (decide (tg < 8) || decide (55 < tg))
def crowns (fr tg : Nat) (n : Nat) : List Mv := (List.range n).map fun i => ⟨fr, tg, ((i : Nat) : Int) + 2⟩
def movesAt (p : Pos) (fr tg : Nat) : List Mv := if okGo p fr tg && safeGo p fr tg then (if lastB p fr tg then crowns fr tg 4 else [⟨fr, tg, 0⟩]) else []
def movesFrom (p : Pos) (fr : Nat) (n : Nat) : List Mv := (List.range n).flatMap (movesAt p fr)
def ownAt (p : Pos) (fr : Nat) : Bool := sideR (p.L fr) == p.turn
def movesUpto (p : Pos) (n : Nat) : List Mv := (List.range n).flatMap fun fr => if ownAt p fr then movesFrom p fr 64 else []
/-- All that may be done, in order. -/
def movesR (p : Pos) : List Mv := movesUpto p 64

def mvCells (l : List Mv) : List Value := l.flatMap fun m => [.int .i64 m.fr, .int .i64 m.tg, .int .i64 m.into]
theorem mvCells_append (a b : List Mv) : mvCells (a ++ b) = mvCells a ++ mvCells b := by simp [mvCells]
theorem mvCells_one (m : Mv) : mvCells [m] = [.int .i64 m.fr, .int .i64 m.tg, .int .i64 m.into] := by simp [mvCells]
theorem mvCells_length (l : List Mv) : (mvCells l).length = l.length * 3 := by
  induction l with
  | nil => rfl
  | cons m l ih => simp [mvCells] at *; omega

theorem castB_succ (p : Pos) (fr tg n : Nat) : castB p fr tg (n + 1) = (castB p fr tg n || (kingB p fr && (castleToI p n == (tg : Int)))) := by
  simp only [castB, List.range_succ, List.any_append, List.any_cons, List.any_nil, Bool.or_false]
  cases kingB p fr <;> simp
theorem castB_no (p : Pos) (fr tg n : Nat) (h : kingB p fr = false) : castB p fr tg n = false := by simp [castB, h]
theorem movesFrom_succ (p : Pos) (fr n : Nat) : movesFrom p fr (n + 1) = movesFrom p fr n ++ movesAt p fr n := by simp [movesFrom, List.range_succ]
theorem movesUpto_yes (p : Pos) (n : Nat) (h : ownAt p n = true) : movesUpto p (n + 1) = movesUpto p n ++ movesFrom p n 64 := by simp [movesUpto, List.range_succ, h]
theorem movesUpto_no (p : Pos) (n : Nat) (h : ownAt p n = false) : movesUpto p (n + 1) = movesUpto p n := by simp [movesUpto, List.range_succ, h]
theorem crowns_succ (fr tg n : Nat) : crowns fr tg (n + 1) = crowns fr tg n ++ [⟨fr, tg, (n : Int) + 2⟩] := by simp [crowns, List.range_succ]

theorem movesAt_le (p : Pos) (fr tg : Nat) : (movesAt p fr tg).length ≤ 4 := by
  unfold movesAt; split
  · split <;> simp [crowns]
  · simp
theorem movesFrom_le (p : Pos) (fr n : Nat) : (movesFrom p fr n).length ≤ 4 * n := by
  induction n with
  | zero => simp [movesFrom]
  | succ n ih => rw [movesFrom_succ, List.length_append]; have := movesAt_le p fr n; omega
theorem movesUpto_le (p : Pos) (n : Nat) : (movesUpto p n).length ≤ 256 * n := by
  induction n with
  | zero => simp [movesUpto]
  | succ n ih =>
    cases h : ownAt p n
    · rw [movesUpto_no p n h]; omega
    · rw [movesUpto_yes p n h, List.length_append]; have := movesFrom_le p n 64; omega

theorem upd_bd {L : Nat → Int} (h : ∀ i, -6 ≤ L i ∧ L i ≤ 6) (k : Nat) {v : Int} (hv : -6 ≤ v ∧ v ≤ 6) : ∀ i, -6 ≤ upd L k v i ∧ upd L k v i ≤ 6 := by
  intro i; unfold upd; split
  · exact hv
  · exact h i
theorem doneL_bd {p : Pos} {m : Mv} (h : ∀ i, -6 ≤ p.L i ∧ p.L i ≤ 6) (ht : p.turn = 0 ∨ p.turn = 1) (h0 : 0 ≤ m.into) (h5 : m.into ≤ 5) : ∀ i, -6 ≤ doneL p m i ∧ doneL p m i ≤ 6 := by
  have h1 : ∀ i, -6 ≤ doneL1 p m i ∧ doneL1 p m i ≤ 6 := upd_bd (upd_bd h _ (by omega)) _ (h _)
  have h2 : ∀ i, -6 ≤ doneL2 p m i ∧ doneL2 p m i ≤ 6 := by
    unfold doneL2; split
    · refine upd_bd h1 _ ?_
      have := mul_bd (c := 1 - 2 * p.turn) (x := m.into) (by omega) h0 h5
      omega
    · exact h1
  have h3 : ∀ i, -6 ≤ doneL3 p m i ∧ doneL3 p m i ≤ 6 := by
    unfold doneL3; split
    · exact upd_bd h2 _ (by omega)
    · exact h2
  unfold doneL; split
  · exact upd_bd (upd_bd h3 _ (h3 _)) _ (by omega)
  · exact h3

end Go.Proofs.YthffhhbbhjcdeaaGreatDoor
