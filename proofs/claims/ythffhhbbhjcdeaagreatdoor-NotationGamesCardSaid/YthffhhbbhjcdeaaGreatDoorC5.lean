/- WALKS: the program's passant; small laws for May. -/
import Derived.Test.YthffhhbbhjcdeaaGreatDoorC4
import Derived.Laws.StructEq
set_option linter.unusedVariables false
set_option linter.unusedSimpArgs false
namespace Go.Proofs.YthffhhbbhjcdeaaGreatDoor
open Go.RowKit
set_option maxRecDepth 100000

theorem run_neqTwo (a b : Int) (w : World) : (Go.binOp .neq 83 (.agg #[.int .i64 a, .int .i64 b]) (.agg #[.int .i64 1, .int .i64 1])).run Tryz.prog w = .ok (.bool (!((a == 1) && (b == 1)))) w := by
  have u3 := Tryz.underlying3
  have a3 := Tryz.isAgg3
  have z3 := Tryz.sizeOf3
  rw [run_neq_struct, show (10000 : Nat) = 9999 + 1 from rfl]
  unfold Op.equalIn
  simp only [Tryz.underlying83]
  go_simp
  rw [show List.range' 0 2 = [0, 1] from rfl]
  simp only [List.forIn_cons, List.forIn_nil]
  go_simp
  by_cases h1 : a = 1 <;> by_cases h2 : b = 1 <;> simp [h1, h2]

theorem kindP_min (w : World) : Calls Tryz.prog 59 #[.int .i64 (-9223372036854775808)] w (RetW (.int .i64 (-9223372036854775808)) w) := by
  go_enter Tryz.func59, Tryz.ntmps59
  go_wp2
  all_goals (go_ret; exact ⟨by kernel_rfl, rfl⟩)
def kindI (x : Int) : Int := if x = -9223372036854775808 then x else sizeI x
theorem kindP_all (x : Int) (w : World) (h1 : -9223372036854775808 ≤ x) (h2 : x ≤ 9223372036854775807) : Calls Tryz.prog 59 #[.int .i64 x] w (RetW (.int .i64 (kindI x)) w) := by
  unfold kindI
  split
  · rename_i h; subst h; exact kindP_min w
  · exact kindP_any x w (by omega) h2

/-- May a pawn just have gone over that place? -/
def passB (p : Pos) : Bool := if p.turn == 0 then inR p.ep 40 47 && (p.L p.ep.toNat == 0) && (p.L (p.ep.toNat - 8) == -1) && (p.L (p.ep.toNat + 8) == 0)
  else inR p.ep 16 23 && (p.L p.ep.toNat == 0) && (p.L (p.ep.toNat + 8) == 1) && (p.L (p.ep.toNat - 8) == 0)
theorem mayEp_pass (p : Pos) : mayEp p = ((p.ep == -1) || passB p) := rfl

set_option maxHeartbeats 4000000 in
theorem passantP_0 (b off cap : Nat) (L : Nat → Int) (castle ep half full : Int) (w : World) (hbr : Brd w b off L) : Calls Tryz.prog 64 #[chessV b off cap ⟨L, 0, castle, ep, half, full⟩] w (RetB (.bool (passB ⟨L, 0, castle, ep, half, full⟩)) w) := by
  have hlt := hbr.lt
  have hps : passB ⟨L, 0, castle, ep, half, full⟩ = (inR ep 40 47 && (L ep.toNat == 0) && (L (ep.toNat - 8) == -1) && (L (ep.toNat + 8) == 0)) := rfl
  have Hps := Lib.hid hps
  clear hps
  unfold chessV
  go_enter Tryz.func64, Tryz.ntmps64
  go_upto_region 1 with fail
  generalize hW0 : World.alloc _ _ = W0
  have hP : Blk W0 w.heap.size #[.slice (some ⟨b, off, none⟩) 64 cap, .int .i64 0, .int .i64 castle, .int .i64 ep, .int .i64 half, .int .i64 full] := by rw [← hW0]; exact Blk.new w _ _
  have hb : Below w.heap.size w W0 := by rw [← hW0]; exact (Below.refl _ _).alloc (Nat.le_refl _) _
  clear hW0
  go_cut [3, 4] from 5 to 9 (fun s3 s4 wx => s3 = .int .i64 ep ∧ s4 = .int .i64 1 ∧ Blk wx w.heap.size #[.slice (some ⟨b, off, none⟩) 64 cap, .int .i64 0, .int .i64 castle, .int .i64 ep, .int .i64 half, .int .i64 full] ∧ Below w.heap.size w wx)
  case first =>
    have p1 := hP.cell (o := 1) rfl
    have p3 := hP.cell (o := 3) rfl
    go_wp2_with fail
    go_quiet ((go_at_call 63; exact quiet_retW (forwardP_any _ _ (by omega) (by omega))))
    go_wp2
    go_meet
    exact ⟨rfl, rfl, hP.drewN _, below_drewN hb _⟩
  case rest =>
  clear hP hb
  obtain ⟨rfl, rfl, hP, hb⟩ := hcut
  have hB := hbr.below hb hlt
  have p0 := hP.cell (o := 0) rfl
  have p1 := hP.cell (o := 1) rfl
  clear hP
  cases e0 : decide (0 ≤ ep)
  case false =>
    go_wp2
    go_ret
    refine ⟨?_, hb⟩
    rw [Hps.out]
    have : inR ep 40 47 = false := by simp [inR] at e0 ⊢; omega
    rw [this]; rfl
  case true =>
  cases e1 : decide (ep < 64)
  case false =>
    go_wp2
    go_ret
    refine ⟨?_, hb⟩
    rw [Hps.out]
    have : inR ep 40 47 = false := by simp [inR] at e1 ⊢; omega
    rw [this]; rfl
  case true =>
  have h0 : 0 ≤ ep := by simpa using e0
  have h1 : ep < 64 := by simpa using e1
  obtain ⟨e, rfl⟩ := Int.eq_ofNat_of_zero_le h0
  have he64 : e < 64 := by omega
  have ce := hB.cell e he64
  have hps2 : passB ⟨L, 0, castle, e, half, full⟩ = (inR (e : Int) 40 47 && (L e == 0) && (L (e - 8) == -1) && (L (e + 8) == 0)) := Hps.out
  clear Hps
  have Hps := Lib.hid hps2
  clear hps2
  cases e2 : ((e : Int) / 8 == 5)
  case false =>
    go_wp2
    go_ret
    refine ⟨?_, hb⟩
    have : inR (e : Int) 40 47 = false := by simp [inR] at e2 ⊢; omega
    rw [Hps.out, this]; rfl
  case true =>
  have hr : 40 ≤ e ∧ e ≤ 47 := by simp at e2; omega
  have hir : inR (e : Int) 40 47 = true := by simp [inR]; omega
  have Hir := Lib.hid hir
  clear hir
  have ca := hB.cell (e - 8) (by omega)
  have cb := hB.cell (e + 8) (by omega)
  cases e3 : (L e == 0)
  case false =>
    go_wp2
    go_ret
    exact ⟨by rw [Hps.out, Hir.out, e3]; rfl, hb⟩
  case true =>
  cases e4 : (L (e - 8) == -1)
  case false =>
    go_wp2
    go_ret
    exact ⟨by rw [Hps.out, Hir.out, e3, e4]; rfl, hb⟩
  case true =>
    go_wp2
    go_ret
    exact ⟨by rw [Hps.out, Hir.out, e3, e4]; rfl, hb⟩

set_option maxHeartbeats 4000000 in
theorem passantP_1 (b off cap : Nat) (L : Nat → Int) (castle ep half full : Int) (w : World) (hbr : Brd w b off L) : Calls Tryz.prog 64 #[chessV b off cap ⟨L, 1, castle, ep, half, full⟩] w (RetB (.bool (passB ⟨L, 1, castle, ep, half, full⟩)) w) := by
  have hlt := hbr.lt
  have hps : passB ⟨L, 1, castle, ep, half, full⟩ = (inR ep 16 23 && (L ep.toNat == 0) && (L (ep.toNat + 8) == 1) && (L (ep.toNat - 8) == 0)) := rfl
  have Hps := Lib.hid hps
  clear hps
  unfold chessV
  go_enter Tryz.func64, Tryz.ntmps64
  go_upto_region 1 with fail
  generalize hW0 : World.alloc _ _ = W0
  have hP : Blk W0 w.heap.size #[.slice (some ⟨b, off, none⟩) 64 cap, .int .i64 1, .int .i64 castle, .int .i64 ep, .int .i64 half, .int .i64 full] := by rw [← hW0]; exact Blk.new w _ _
  have hb : Below w.heap.size w W0 := by rw [← hW0]; exact (Below.refl _ _).alloc (Nat.le_refl _) _
  clear hW0
  go_cut [3, 4] from 5 to 9 (fun s3 s4 wx => s3 = .int .i64 ep ∧ s4 = .int .i64 (-1) ∧ Blk wx w.heap.size #[.slice (some ⟨b, off, none⟩) 64 cap, .int .i64 1, .int .i64 castle, .int .i64 ep, .int .i64 half, .int .i64 full] ∧ Below w.heap.size w wx)
  case first =>
    have p1 := hP.cell (o := 1) rfl
    have p3 := hP.cell (o := 3) rfl
    go_wp2_with fail
    go_quiet ((go_at_call 63; exact quiet_retW (forwardP_any _ _ (by omega) (by omega))))
    go_wp2
    go_meet
    exact ⟨rfl, rfl, hP.drewN _, below_drewN hb _⟩
  case rest =>
  clear hP hb
  obtain ⟨rfl, rfl, hP, hb⟩ := hcut
  have hB := hbr.below hb hlt
  have p0 := hP.cell (o := 0) rfl
  have p1 := hP.cell (o := 1) rfl
  clear hP
  cases e0 : decide (0 ≤ ep)
  case false =>
    go_wp2
    go_ret
    refine ⟨?_, hb⟩
    rw [Hps.out]
    have : inR ep 16 23 = false := by simp [inR] at e0 ⊢; omega
    rw [this]; rfl
  case true =>
  cases e1 : decide (ep < 64)
  case false =>
    go_wp2
    go_ret
    refine ⟨?_, hb⟩
    rw [Hps.out]
    have : inR ep 16 23 = false := by simp [inR] at e1 ⊢; omega
    rw [this]; rfl
  case true =>
  have h0 : 0 ≤ ep := by simpa using e0
  have h1 : ep < 64 := by simpa using e1
  obtain ⟨e, rfl⟩ := Int.eq_ofNat_of_zero_le h0
  have he64 : e < 64 := by omega
  have ce := hB.cell e he64
  have hps2 : passB ⟨L, 1, castle, e, half, full⟩ = (inR (e : Int) 16 23 && (L e == 0) && (L (e + 8) == 1) && (L (e - 8) == 0)) := Hps.out
  clear Hps
  have Hps := Lib.hid hps2
  clear hps2
  cases e2 : ((e : Int) / 8 == 2)
  case false =>
    go_wp2
    go_ret
    refine ⟨?_, hb⟩
    have : inR (e : Int) 16 23 = false := by simp [inR] at e2 ⊢; omega
    rw [Hps.out, this]; rfl
  case true =>
  have hr : 16 ≤ e ∧ e ≤ 23 := by simp at e2; omega
  have hir : inR (e : Int) 16 23 = true := by simp [inR]; omega
  have Hir := Lib.hid hir
  clear hir
  have ca : wc.cell? ⟨b, off + ((e : Int) + -8).toNat, none⟩ = some (.int .i64 (L (e - 8))) := by rw [show ((e : Int) + -8).toNat = e - 8 by omega]; exact hB.cell (e - 8) (by omega)
  have cb := hB.cell (e + 8) (by omega)
  cases e3 : (L e == 0)
  case false =>
    go_wp2
    go_ret
    exact ⟨by rw [Hps.out, Hir.out, e3]; rfl, hb⟩
  case true =>
  cases e4 : (L (e + 8) == 1)
  case false =>
    go_wp2
    go_ret
    exact ⟨by rw [Hps.out, Hir.out, e3, e4]; rfl, hb⟩
  case true =>
    go_wp2
    go_ret
    exact ⟨by rw [Hps.out, Hir.out, e3, e4]; rfl, hb⟩

theorem passantP_any (b off cap : Nat) (p : Pos) (w : World) (hbr : Brd w b off p.L) (ht : p.turn = 0 ∨ p.turn = 1) : Calls Tryz.prog 64 #[chessV b off cap p] w (RetB (.bool (passB p)) w) := by
  obtain ⟨L, turn, castle, ep, half, full⟩ := p
  rcases ht with ht | ht
  · dsimp only at ht; subst ht; exact passantP_0 b off cap L castle ep half full w hbr
  · dsimp only at ht; subst ht; exact passantP_1 b off cap L castle ep half full w hbr

end Go.Proofs.YthffhhbbhjcdeaaGreatDoor
