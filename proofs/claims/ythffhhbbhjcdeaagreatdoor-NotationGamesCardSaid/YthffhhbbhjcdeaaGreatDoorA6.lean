/- WALKS: the reference's MoveDone. -/
import Derived.Test.YthffhhbbhjcdeaaGreatDoorA5
import Derived.Test.YthffhhbbhjcdeaaGreatDoorA2
set_option linter.unusedVariables false
set_option linter.unusedSimpArgs false
namespace Go.Proofs.YthffhhbbhjcdeaaGreatDoor
open Go.RowKit
set_option maxRecDepth 100000

theorem quiet_retW {f : FuncId} {args : Array Value} {w : World} {n : Nat} {v : Value} (h : Calls Tryz.prog f args (w.drewN n) (RetW v (w.drewN n))) :
    Calls Tryz.prog f args (w.drewN n) fun e w'' => e = .returned v ∧ ∃ m, w'' = w.drewN m := h.mono fun _ _ ⟨he, hm⟩ => ⟨he, n, hm.symm⟩

/-- A move: from, to, what a pawn becomes. -/
structure Mv where
  fr : Nat
  tg : Nat
  into : Int
def mvV (m : Mv) : Value := .agg #[.int .i64 m.fr, .int .i64 m.tg, .int .i64 m.into]

/-- MoveDone at work: the two boxes, the result's place, the position that is made, its board. -/
structure MDS (w wx : World) (b off cap : Nat) (p : Pos) (m : Mv) (Q g cq : Nat) (L : Nat → Int) (tu ca ep ha fu : Int) : Prop where
  kP : Blk wx w.heap.size #[.slice (some ⟨b, off, none⟩) 64 cap, .int .i64 p.turn, .int .i64 p.castle, .int .i64 p.ep, .int .i64 p.half, .int .i64 p.full]
  kM : Blk wx (w.heap.size + 1) #[.int .i64 m.fr, .int .i64 m.tg, .int .i64 m.into]
  kR : Blk wx (w.heap.size + 2) #[.slice none 0 0, .int .i64 0, .int .i64 0, .int .i64 0, .int .i64 0, .int .i64 0]
  kQ : Blk wx Q #[.slice (some ⟨g, 0, none⟩) 64 cq, .int .i64 tu, .int .i64 ca, .int .i64 ep, .int .i64 ha, .int .i64 fu]
  kB : OwnB wx g L
  below : Below w.heap.size w wx
  q3 : w.heap.size + 3 ≤ Q
  g3 : w.heap.size + 3 ≤ g
  ne : g ≠ Q

section
variable {w wx : World} {b off cap : Nat} {p : Pos} {m : Mv} {Q g cq : Nat} {L : Nat → Int} {tu ca ep ha fu : Int}
theorem MDS.board (h : MDS w wx b off cap p m Q g cq L tu ca ep ha fu) {i : Nat} (hi : i < 64) (x : Int) : MDS w (wx.setCell ⟨g, i, none⟩ (.int .i64 x)) b off cap p m Q g cq (upd L i x) tu ca ep ha fu := by
  have h3 := h.g3
  exact ⟨h.kP.other (by omega) _ _, h.kM.other (by omega) _ _, h.kR.other (by omega) _ _, h.kQ.other (Ne.symm h.ne) _ _, h.kB.set hi x, h.below.setCell (by simp; omega) _, h.q3, h.g3, h.ne⟩
theorem MDS.turn (h : MDS w wx b off cap p m Q g cq L tu ca ep ha fu) (x : Int) : MDS w (wx.setCell ⟨Q, 1, none⟩ (.int .i64 x)) b off cap p m Q g cq L x ca ep ha fu := by
  have h3 := h.q3
  exact ⟨h.kP.other (by omega) _ _, h.kM.other (by omega) _ _, h.kR.other (by omega) _ _, h.kQ.set 1 _, h.kB.other h.ne _ _, h.below.setCell (by simp; omega) _, h.q3, h.g3, h.ne⟩
theorem MDS.castle (h : MDS w wx b off cap p m Q g cq L tu ca ep ha fu) (x : Int) : MDS w (wx.setCell ⟨Q, 2, none⟩ (.int .i64 x)) b off cap p m Q g cq L tu x ep ha fu := by
  have h3 := h.q3
  exact ⟨h.kP.other (by omega) _ _, h.kM.other (by omega) _ _, h.kR.other (by omega) _ _, h.kQ.set 2 _, h.kB.other h.ne _ _, h.below.setCell (by simp; omega) _, h.q3, h.g3, h.ne⟩
theorem MDS.passant (h : MDS w wx b off cap p m Q g cq L tu ca ep ha fu) (x : Int) : MDS w (wx.setCell ⟨Q, 3, none⟩ (.int .i64 x)) b off cap p m Q g cq L tu ca x ha fu := by
  have h3 := h.q3
  exact ⟨h.kP.other (by omega) _ _, h.kM.other (by omega) _ _, h.kR.other (by omega) _ _, h.kQ.set 3 _, h.kB.other h.ne _ _, h.below.setCell (by simp; omega) _, h.q3, h.g3, h.ne⟩
theorem MDS.half (h : MDS w wx b off cap p m Q g cq L tu ca ep ha fu) (x : Int) : MDS w (wx.setCell ⟨Q, 4, none⟩ (.int .i64 x)) b off cap p m Q g cq L tu ca ep x fu := by
  have h3 := h.q3
  exact ⟨h.kP.other (by omega) _ _, h.kM.other (by omega) _ _, h.kR.other (by omega) _ _, h.kQ.set 4 _, h.kB.other h.ne _ _, h.below.setCell (by simp; omega) _, h.q3, h.g3, h.ne⟩
theorem MDS.full (h : MDS w wx b off cap p m Q g cq L tu ca ep ha fu) (x : Int) : MDS w (wx.setCell ⟨Q, 5, none⟩ (.int .i64 x)) b off cap p m Q g cq L tu ca ep ha x := by
  have h3 := h.q3
  exact ⟨h.kP.other (by omega) _ _, h.kM.other (by omega) _ _, h.kR.other (by omega) _ _, h.kQ.set 5 _, h.kB.other h.ne _ _, h.below.setCell (by simp; omega) _, h.q3, h.g3, h.ne⟩
theorem MDS.drewN (h : MDS w wx b off cap p m Q g cq L tu ca ep ha fu) (n : Nat) : MDS w (wx.drewN n) b off cap p m Q g cq L tu ca ep ha fu :=
  ⟨h.kP, h.kM, h.kR, h.kQ, h.kB, below_drewN h.below n, h.q3, h.g3, h.ne⟩
theorem MDS.drew (h : MDS w wx b off cap p m Q g cq L tu ca ep ha fu) : MDS w wx.drew b off cap p m Q g cq L tu ca ep ha fu :=
  ⟨h.kP, h.kM, h.kR, h.kQ, h.kB, h.below.drew, h.q3, h.g3, h.ne⟩
theorem MDS.alloc (h : MDS w wx b off cap p m Q g cq L tu ca ep ha fu) (o : Obj) : MDS w (wx.alloc o) b off cap p m Q g cq L tu ca ep ha fu :=
  ⟨h.kP.alloc o, h.kM.alloc o, h.kR.alloc o, h.kQ.alloc o, h.kB.alloc o, h.below.alloc h.below.size o, h.q3, h.g3, h.ne⟩
theorem MDS.old (h : MDS w wx b off cap p m Q g cq L tu ca ep ha fu) (hbr : Brd w b off p.L) : Brd wx b off p.L := hbr.below h.below hbr.lt
end

/-- What becomes of the board. -/
def doneL1 (p : Pos) (m : Mv) : Nat → Int := upd (upd p.L m.fr 0) m.tg (p.L m.fr)
def doneL2 (p : Pos) (m : Mv) : Nat → Int := if 0 < m.into then upd (doneL1 p m) m.tg ((1 - 2 * p.turn) * m.into) else doneL1 p m
def doneL3 (p : Pos) (m : Mv) : Nat → Int := if sizeI (p.L m.fr) = 1 ∧ (m.tg : Int) = p.ep then upd (doneL2 p m) ((m.tg : Int) - 8 * (1 - 2 * p.turn)).toNat 0 else doneL2 p m
def cornerN (m : Mv) : Nat := if m.tg < m.fr then m.fr / 8 * 8 else m.fr / 8 * 8 + 7
def doneL (p : Pos) (m : Mv) : Nat → Int :=
  if sizeI (p.L m.fr) = 6 ∧ sizeI ((m.tg : Int) - m.fr) = 2 then upd (upd (doneL3 p m) ((m.fr + m.tg) / 2) (doneL3 p m (cornerN m))) (cornerN m) 0 else doneL3 p m
def rookN : Nat → Nat | 0 => 7 | 1 => 0 | 2 => 63 | _ => 56
def lostB (p : Pos) (m : Mv) (n : Nat) : Bool := (m.fr == rookN n) || (m.tg == rookN n) || ((sizeI (p.L m.fr) == 6) && (((n / 2 : Nat) : Int) == p.turn))
def castleS (p : Pos) (m : Mv) (n : Nat) (c : Int) : Int := if lostB p m n = true ∧ c / 2 ^ n % 2 = 1 then c - 2 ^ n else c
def castleA (p : Pos) (m : Mv) : Nat → Int
  | 0 => p.castle
  | n + 1 => castleS p m n (castleA p m n)
def epR (p : Pos) (m : Mv) : Int := if sizeI (p.L m.fr) = 1 ∧ sizeI ((m.tg : Int) - m.fr) = 16 then (((m.fr + m.tg) / 2 : Nat) : Int) else -1
def halfR (p : Pos) (m : Mv) : Int := if sizeI (p.L m.fr) = 1 ∨ p.L m.tg ≠ 0 then 0 else if p.half + 1 > 999 then 999 else p.half + 1
def fullR (p : Pos) (m : Mv) : Int := if p.turn = 1 ∧ p.full < 999 then p.full + 1 else p.full
/-- What a move makes of a position. -/
def doneR (p : Pos) (m : Mv) : Pos := { L := doneL p m, turn := 1 - p.turn, castle := castleA p m 4, ep := epR p m, half := halfR p m, full := fullR p m }

theorem intsV_get {L : Nat → Int} {n i : Nat} (hi : i < n) : (intsV L n)[i]? = some (.int .i64 (L i)) := by simp [intsV, hi]
theorem mul_bd {c x : Int} (hc : c = 1 ∨ c = -1) (h0 : 0 ≤ x) (h5 : x ≤ 5) : -5 ≤ c * x ∧ c * x ≤ 5 := by rcases hc with rfl | rfl <;> omega

end Go.Proofs.YthffhhbbhjcdeaaGreatDoor
