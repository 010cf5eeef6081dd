/- PLAIN LEAN, NO PROGRAM: geometry of the board as the reference has it. SMALL THINGS that all walks of this seat use: how a board lies in memory, what a call leaves, the rows of the table of types. -/
import Derived.Test.YthffhhbbhjcdeaaGreatDoorRows
import Derived.WalkKit
import Derived.WalkSpells
import Derived.WalkLawsBesides
import Derived.Lib.Hide
import Derived.Deep.DeepCutAuto
import Derived.Deep.DeepMust
import Derived.Deep.DeepFit
import Derived.Outline
import Derived.Deep.QuietTactic
import Derived.BigQuiet
set_option linter.unusedVariables false
set_option linter.unusedSimpArgs false
namespace Go.Proofs.YthffhhbbhjcdeaaGreatDoor

def sizeI (n : Int) : Int := if n < 0 then -n else n
def sgnI (n : Int) : Int := if 0 < n then 1 else if n < 0 then -1 else 0
def dxI (fr tg : Nat) : Int := (tg : Int) % 8 - (fr : Int) % 8
def dyI (fr tg : Nat) : Int := (tg : Int) / 8 - (fr : Int) / 8
/-- The step from a place towards another one. -/
def stepI (fr tg : Nat) : Int := sgnI (dxI fr tg) + 8 * sgnI (dyI fr tg)
/-- How many steps they are apart. -/
def farI (fr tg : Nat) : Nat := max (dxI fr tg).natAbs (dyI fr tg).natAbs
def slantB (fr tg : Nat) : Bool := sizeI (dxI fr tg) == sizeI (dyI fr tg)
def straightB (fr tg : Nat) : Bool := dxI fr tg == 0 || dyI fr tg == 0
/-- The j-th place on the way. -/
def onWay (fr tg j : Nat) : Nat := ((fr : Int) + j * stepI fr tg).toNat

def freeWay (L : Nat → Int) (fr tg : Nat) : Bool := (List.range (farI fr tg)).all fun j => j == 0 || L (onWay fr tg j) == 0

/-- Does what stands at a place attack another place? -/
def attacksB (L : Nat → Int) (fr tg : Nat) : Bool :=
  let x := L fr
  if dxI fr tg = 0 ∧ dyI fr tg = 0 then false
  else if sizeI x = 1 then sizeI (dxI fr tg) == 1 && dyI fr tg == x
  else if sizeI x = 2 then sizeI (dxI fr tg * dyI fr tg) == 2
  else if sizeI x = 6 then decide (sizeI (dxI fr tg) ≤ 1) && decide (sizeI (dyI fr tg) ≤ 1)
  else if x = 0 ∨ (slantB fr tg = false ∧ straightB fr tg = false) ∨ (sizeI x = 3 ∧ slantB fr tg = false) ∨ (sizeI x = 4 ∧ straightB fr tg = false) then false
  else freeWay L fr tg

def wayFact (fr tg : Nat) : Bool :=
  !(slantB fr tg || straightB fr tg) || fr == tg ||
  ((fr : Int) + farI fr tg * stepI fr tg == tg && decide (1 ≤ farI fr tg) &&
   (List.range (farI fr tg + 1)).all fun j => decide (0 ≤ (fr : Int) + j * stepI fr tg) && decide ((fr : Int) + j * stepI fr tg < 64) && (j == farI fr tg || !((fr : Int) + j * stepI fr tg == tg)))

theorem wayFact_all : ∀ fr < 64, ∀ tg < 64, wayFact fr tg = true := by decide +kernel

end Go.Proofs.YthffhhbbhjcdeaaGreatDoor
namespace Go.Proofs.YthffhhbbhjcdeaaGreatDoor
open Go.RowKit

/-- The call returns a value and leaves the world alone. -/
def RetW (v : Value) (w : World) (e : Ending) (w' : World) : Prop := e = .returned v ∧ w = w'
/-- The call returns a value, and what lay there lies as it lay. -/
def RetB (v : Value) (w : World) (e : Ending) (w' : World) : Prop := e = .returned v ∧ Below w.heap.size w w'

/-- Sixty-four places lie in a block as the board has them. -/
structure Brd (w : World) (b off : Nat) (L : Nat → Int) : Prop where
  lt : b < w.heap.size
  cell : ∀ i, i < 64 → w.cell? ⟨b, off + i, none⟩ = some (.int .i64 (L i))
  bd : ∀ i, -6 ≤ L i ∧ L i ≤ 6

theorem Brd.below {w w' : World} {b off B : Nat} {L : Nat → Int} (h : Brd w b off L) (hb : Below B w w') (hB : b < B) : Brd w' b off L :=
  ⟨Nat.lt_of_lt_of_le h.lt hb.size, fun i hi => (hb.cell (p := ⟨b, off + i, none⟩) hB).trans (h.cell i hi), h.bd⟩

theorem bcell {W w1 : World} {B : Nat} (hb : Below B W w1) : (∀ b o, b < B → w1.cell? ⟨b, o, none⟩ = W.cell? ⟨b, o, none⟩) ∧ (∀ b o, b < B → w1.frozen? ⟨b, o, none⟩ = W.frozen? ⟨b, o, none⟩) :=
  ⟨fun b o h => hb.cell (p := ⟨b, o, none⟩) h, fun b o h => hb.frozen (p := ⟨b, o, none⟩) h⟩

theorem Tryz.info3 : (Tryz.prog.info? 3).map (fun i => (i.zero, i.size, i.bytes)) = some (some (.int .i64 0), 1, 8) := by kernel_rfl
theorem Tryz.info9 : (Tryz.prog.info? 9).map (fun i => (i.zero, i.size, i.bytes)) = some (some (.string ByteArray.empty), 1, 16) := by kernel_rfl
theorem Tryz.info26 : (Tryz.prog.info? 26).map (fun i => (i.zero, i.size, i.bytes)) = some (some (.agg #[.int .i64 0, .int .i64 0, .int .i64 0]), 3, 24) := by kernel_rfl

def sideR (x : Int) : Int := if 0 < x then 0 else if x < 0 then 1 else -1

/-- The places, of the first k, from which a side attacks a place. -/
def attackersL (L : Nat → Int) (tg : Nat) (by' : Int) (k : Nat) : List Int := ((List.range k).filter fun i => sideR (L i) == by' && attacksB L i tg).map fun (i : Nat) => (i : Int)
theorem attackersL_le (L : Nat → Int) (tg : Nat) (by' : Int) (k : Nat) : (attackersL L tg by' k).length ≤ k := by
  unfold attackersL; rw [List.length_map]; exact Nat.le_trans (List.length_filter_le _ _) (by simp)
theorem attackersL_yes (L : Nat → Int) (tg : Nat) (by' : Int) (k : Nat) (h : (sideR (L k) == by' && attacksB L k tg) = true) : attackersL L tg by' (k + 1) = attackersL L tg by' k ++ [(k : Int)] := by
  simp [attackersL, List.range_succ, List.filter_append, h]
theorem attackersL_no (L : Nat → Int) (tg : Nat) (by' : Int) (k : Nat) (h : (sideR (L k) == by' && attacksB L k tg) = false) : attackersL L tg by' (k + 1) = attackersL L tg by' k := by
  simp [attackersL, List.range_succ, List.filter_append, h]

/-- A cell that has just been laid in a block of its own. -/
theorem one_new (w : World) (v : Value) (e : TypeId) : ∀ j u, [v][j]? = some u → (w.alloc (.cells #[v] e)).cell? ((⟨w.heap.size, 0, none⟩ : Addr).add j) = some u := by
  intro j u hj
  match j, hj with
  | 0, hj => simp at hj; subst hj; simp [Addr.add]

def HasKing (L : Nat → Int) (side : Int) : Prop := ∃ k, k < 64 ∧ L k = 6 * (1 - 2 * side)
/-- Where a side's king stands. -/
def kingIx (L : Nat → Int) (side : Int) : Nat := ((List.range 64).find? fun i => L i == 6 * (1 - 2 * side)).getD 0
def inCheckB (L : Nat → Int) (side : Int) : Bool := decide (0 < (attackersL L (kingIx L side) (1 - side) 64).length)
theorem kingIx_spec {L : Nat → Int} {side : Int} (h : HasKing L side) : kingIx L side < 64 ∧ L (kingIx L side) = 6 * (1 - 2 * side) ∧ ∀ i, i < kingIx L side → L i ≠ 6 * (1 - 2 * side) := by
  obtain ⟨k, hk, hL⟩ := h
  unfold kingIx
  cases hf : (List.range 64).find? fun i => L i == 6 * (1 - 2 * side) with
  | none =>
    rw [List.find?_eq_none] at hf
    exact absurd hL (by simpa using hf k (by simpa using hk))
  | some i =>
    rw [List.find?_range_eq_some] at hf
    obtain ⟨h1, h2, h3⟩ := hf
    refine ⟨by simpa using h2, by simpa using h1, fun j hj => ?_⟩
    simpa using h3 j hj

/-- A position: what stands where, who moves, rights to castle, the place gone over, half moves, moves. -/
structure Pos where
  L : Nat → Int
  turn : Int
  castle : Int
  ep : Int
  half : Int
  full : Int

/-- A position as a value, its places in a block. -/
def chessV (b off cap : Nat) (p : Pos) : Value := .agg #[.slice (some ⟨b, off, none⟩) 64 cap, .int .i64 p.turn, .int .i64 p.castle, .int .i64 p.ep, .int .i64 p.half, .int .i64 p.full]

theorem Brd.alloc {w : World} {b off : Nat} {L : Nat → Int} (h : Brd w b off L) (o : Obj) : Brd (w.alloc o) b off L := h.below ((Below.refl _ _).alloc (Nat.le_refl _) _) h.lt
theorem Brd.cell_alloc {w : World} {b off : Nat} {L : Nat → Int} (h : Brd w b off L) (i : Nat) (hi : i < 64) (o : Obj) : (w.alloc o).cell? ⟨b, off + i, none⟩ = some (.int .i64 (L i)) := (h.alloc o).cell i hi

/-- May what stands at a place go to another one? (The reference's, but for the king's safety, and castling.) -/
def mayGoB (p : Pos) (fr tg : Nat) : Bool :=
  let c := 1 - 2 * p.turn
  if p.L fr * c ≤ 0 ∨ 0 < p.L tg * c then false
  else if p.L fr * c ≠ 1 then attacksB p.L fr tg
  else if attacksB p.L fr tg then (p.L tg != 0) || ((tg : Int) == p.ep)
  else if (tg : Int) = fr + 8 * c then p.L tg == 0
  else ((fr : Int) / 8 == if c < 0 then 6 else 1) && ((tg : Int) == fr + 16 * c) && (p.L tg == 0) && (p.L ((fr : Int) + 8 * c).toNat == 0)

def betweenN : Nat → List Nat
  | 0 => [5, 6]
  | 1 => [1, 2, 3]
  | 2 => [61, 62]
  | _ => [57, 58, 59]
def kingN (n : Nat) : Int := if n / 2 = 0 then 4 else 60
def wayN (n : Nat) : Int := if n % 2 = 0 then 1 else -1
def safeN (p : Pos) (n k : Nat) : Bool := !decide (0 < (attackersL p.L (kingN n + k * wayN n).toNat (1 - p.turn) 64).length)
/-- Where a castling of a number brings the king; -1: it may not be. -/
def castleToI (p : Pos) (n : Nat) : Int :=
  if p.castle / 2 ^ n % 2 = 0 ∨ (n / 2 : Nat) ≠ p.turn then -1
  else if (betweenN n).any (fun k => p.L k != 0) then -1
  else if (safeN p n 0 && safeN p n 1 && safeN p n 2) = false then -1
  else kingN n + 2 * wayN n

theorem bits_one (x : Int) (h0 : 0 ≤ x) (h1 : x < 16) : bits BinOp.and IntKind.i64 x 1 = x % 2 := by
  obtain ⟨n, rfl⟩ := Int.eq_ofNat_of_zero_le h0
  have hn : n < 16 := by omega
  have key : ∀ n : Nat, n < 16 → bits BinOp.and IntKind.i64 (n : Int) 1 = (n : Int) % 2 := by decide +kernel
  exact key n hn

end Go.Proofs.YthffhhbbhjcdeaaGreatDoor
