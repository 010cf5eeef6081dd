/- WALKS: the reference's MovesAll. -/
import Derived.Test.YthffhhbbhjcdeaaGreatDoorA7
import Derived.Test.YthffhhbbhjcdeaaGreatDoorA8
import Derived.Test.YthffhhbbhjcdeaaGreatDoorA2
import Derived.Test.YthffhhbbhjcdeaaGreatDoorA4
import Derived.Deep.RegionHeld3
import Derived.Deep.CutBlock
set_option linter.unusedVariables false
set_option linter.unusedSimpArgs false
namespace Go.Proofs.YthffhhbbhjcdeaaGreatDoor
open Go.RowKit
set_option maxRecDepth 100000

theorem grown_of_below {wx w1 : World} (h : Below wx.heap.size wx w1) : wx.grownBy w1 none := ⟨h.os, h.tape, h.output, h.size, fun k hk _ => h.block k hk⟩
theorem ownsRow_below {wx w1 : World} {base e size n : Nat} {v : Value} {xs : List Value} (h : wx.ownsRow base e size v n xs) (hb : Below wx.heap.size wx w1) : w1.ownsRow base e size v n xs :=
  h.kept (grown_of_below hb) (by cases hv : v.ownBlock <;> simp)

/-- MovesAll at work: the box of the position, the moves so far. -/
structure MAS (w wx : World) (b off cap : Nat) (p : Pos) (v : Value) (l : List Mv) : Prop where
  kP : Blk wx w.heap.size #[.slice (some ⟨b, off, none⟩) 64 cap, .int .i64 p.turn, .int .i64 p.castle, .int .i64 p.ep, .int .i64 p.half, .int .i64 p.full]
  own : wx.ownsRow (w.heap.size + 1) 26 3 v l.length (mvCells l)
  below : Below w.heap.size w wx

section
variable {w wx : World} {b off cap : Nat} {p : Pos} {v : Value} {l : List Mv}
theorem MAS.trans {w1 : World} (h : MAS w wx b off cap p v l) (hb : Below wx.heap.size wx w1) : MAS w w1 b off cap p v l :=
  ⟨h.kP.below hb h.kP.lt, ownsRow_below h.own hb, h.below.trans (hb.mono h.below.size)⟩
theorem MAS.drewN (h : MAS w wx b off cap p v l) (n : Nat) : MAS w (wx.drewN n) b off cap p v l := h.trans (below_drewN (Below.refl _ _) n)
theorem MAS.old (h : MAS w wx b off cap p v l) (hbr : Brd w b off p.L) : Brd wx b off p.L := hbr.below h.below hbr.lt
theorem MAS.app {w1 : World} {v' : Value} (h : MAS w wx b off cap p v l) (o : Obj) (m : Mv) (hown : w1.ownsRow (w.heap.size + 1) 26 3 v' (l.length + 1) (mvCells l ++ [.int .i64 m.fr, .int .i64 m.tg, .int .i64 m.into]))
    (hg : (wx.alloc o).grownBy w1 v.ownBlock) : MAS w w1 b off cap p v' (l ++ [m]) := by
  have hs := h.kP.lt
  have hlt : ∀ j, v.ownBlock = some j → w.heap.size + 1 ≤ j := fun j hj => (h.own.lt j hj).1
  refine ⟨(h.kP.alloc o).of_heap (hg.block _ (by simp; omega) (fun e => by have := hlt _ e.symm; omega)), ?_, (h.below.alloc h.below.size o).grown hg (by simp; omega) (fun j hj => by have := hlt j hj; omega)⟩
  rw [mvCells_append, mvCells_one, List.length_append, List.length_singleton]
  exact hown
end

theorem run_field0 (a : Option Addr) (n c : Nat) (c1 c2 c3 c4 c5 : Value) (w : World) : (Instr.field 24 (.agg #[.slice a n c, c1, c2, c3, c4, c5]) 0).run Tryz.prog w = .ok (.slice a n c) w := by kernel_rfl

theorem three_new (w : World) (x y z : Value) (e : TypeId) : ∀ j u, [x, y, z][j]? = some u → (w.alloc (.cells #[x, y, z] e)).cell? ((⟨w.heap.size, 0, none⟩ : Addr).add j) = some u := by
  intro j u hj
  match j, hj with
  | 0, hj => simp at hj; subst hj; simp [Addr.add]
  | 1, hj => simp at hj; subst hj; simp [Addr.add]
  | 2, hj => simp at hj; subst hj; simp [Addr.add]

set_option maxHeartbeats 8000000 in
theorem movesAll_any (b off cap : Nat) (p : Pos) (w : World) (hbr : Brd w b off p.L) (hp : PosOk p)
    (hking : ∀ fr tg, fr < 64 → tg < 64 → okGo p fr tg = true → HasKing (doneL p ⟨fr, tg, 0⟩) p.turn) :
    Calls Tryz.prog 11 #[chessV b off cap p] w fun e w' => ∃ v, e = .returned v ∧ w'.ownsRow (w.heap.size + 1) 26 3 v (movesR p).length (mvCells (movesR p)) ∧ Below w.heap.size w w' := by
  obtain ⟨i0, hi0, hz0, hz1, hz2⟩ := info_parts Tryz.info26
  have hlt := hbr.lt
  unfold chessV
  go_enter Tryz.func11, Tryz.ntmps11
  go_wp2_with fail
  go_loopg [3, 4] 64 (fun g s3 s4 wr => ∃ k : Nat, k ≤ 64 ∧ g = 64 - k ∧ s4 = .int .i64 k ∧ MAS w wr b off cap p s3 (movesUpto p k))
  case atStart =>
    exact ⟨0, by omega, rfl, rfl, Blk.new _ _ _, by simpa [movesUpto, mvCells] using World.ownsRow_nil _ _ _ _, (Below.refl _ _).alloc (Nat.le_refl _) _⟩
  case round =>
  obtain ⟨k, hk, hg, rfl, hS⟩ := hrel
  have Hg := Lib.hid hg
  clear hg
  by_cases hk64 : k = 64
  · subst hk64
    go_wp2
    go_ret
    exact ⟨_, rfl, hS.own, hS.below⟩
  have hklt : k < 64 := by omega
  have hdk : decide ((k : Int) < 64) = true := by simp; omega
  clear hk64 hk
  have hck := (hS.old hbr).cell k hklt
  have p0 := hS.kP.cell (o := 0) rfl
  have p1 := hS.kP.cell (o := 1) rfl
  go_upto_block 1 with fail
  go_cut [3] from 13 to 13 (fun s3 wx => MAS w wx b off cap p s3 (movesUpto p (k + 1)))
  case rest =>
    clear hS hck p0 p1
    have hS := hcut
    clear hcut
    go_wp2
    go_roundg (64 - (k + 1))
    case measure => have := Hg.out; omega
    case rel => exact ⟨k + 1, by omega, rfl, by go_num, hS⟩
  case first =>
  cases ho : (sideR (p.L k) == p.turn)
  case false =>
    go_upto_region 5 with fail
    go_cut [21] from 13 to 21 (fun s21 wx => s21 = .bool true ∧ MAS w wx b off cap p u3 (movesUpto p k))
    case first =>
      go_quiet ((go_at_call 29; exact quiet_retW (pieceSide_any _ _)))
      go_wp2
      go_meet
      exact ⟨by simp [bne, ho], hS.drewN _⟩
    case rest =>
    clear hS hck p0 p1
    obtain ⟨rfl, hS⟩ := hcut
    go_wp2
    go_meet
    exact (by rw [movesUpto_no p k ho]; exact hS)
  case true =>
  go_upto_region 5 with fail
  go_cut [21] from 13 to 21 (fun s21 wx => s21 = .bool false ∧ MAS w wx b off cap p u3 (movesUpto p k))
  case first =>
    go_quiet ((go_at_call 29; exact quiet_retW (pieceSide_any _ _)))
    go_wp2
    go_meet
    exact ⟨by simp [bne, ho], hS.drewN _⟩
  case rest =>
  clear hS hck p0 p1
  obtain ⟨rfl, hS⟩ := hcut
  go_wp2_with fail
  go_loopg [3, 5] 64 (fun gh s3 s5 wx => ∃ j : Nat, j ≤ 64 ∧ gh = 64 - j ∧ s5 = .int .i64 j ∧ MAS w wx b off cap p s3 (movesUpto p k ++ movesFrom p k j))
  case atStart => exact ⟨0, by omega, rfl, rfl, by simpa [movesFrom] using hS⟩
  case round =>
  clear hS
  obtain ⟨j, hj, hg2, rfl, hS⟩ := hrel
  have Hg2 := Lib.hid hg2
  clear hg2
  by_cases hj64 : j = 64
  · subst hj64
    go_wp2
    go_meet
    exact (by rw [movesUpto_yes p k ho]; exact hS)
  have hjlt : j < 64 := by omega
  have hdj : decide ((j : Int) < 64) = true := by simp; omega
  clear hj64 hj
  go_upto_block 3 with fail
  go_cut [3] from 26 to 26 (fun s3 wx => MAS w wx b off cap p s3 (movesUpto p k ++ movesFrom p k (j + 1)))
  case rest =>
    clear hS
    have hS := hcut
    clear hcut
    go_wp2
    go_roundg (64 - (j + 1))
    case measure => have := Hg2.out; omega
    case rel => exact ⟨j + 1, by omega, rfl, by go_num, hS⟩
  case first =>
  go_upto_region 9 with fail
  go_cut [6] from 26 to 26 (fun s6 wx => s6 = .bool (mayGoB p k j) ∧ MAS w wx b off cap p u3 (movesUpto p k ++ movesFrom p k j))
  case first =>
    have p0 := hS.kP.cell (o := 0) rfl
    have p1 := hS.kP.cell (o := 1) rfl
    have p2 := hS.kP.cell (o := 2) rfl
    have p3 := hS.kP.cell (o := 3) rfl
    have p4 := hS.kP.cell (o := 4) rfl
    have p5 := hS.kP.cell (o := 5) rfl
    go_wp2_with (go_at_call 30; refine (mayGo_any b off cap p k j _ hklt hjlt (hS.old hbr) hp.turn).mono ?_; rintro e w1 ⟨rfl, hb1⟩)
    go_meet
    exact ⟨rfl, hS.trans hb1⟩
  case rest =>
  clear hS
  obtain ⟨rfl, hS⟩ := hcut
  go_upto_block 4 with fail
  go_cut [6] from 30 to 30 (fun s6 wx => s6 = .bool (okGo p k j) ∧ MAS w wx b off cap p u3 (movesUpto p k ++ movesFrom p k j))
  case first =>
    go_wp2_with fail
    go_loopg [6, 7] 4 (fun gh s6 s7 wx => ∃ n : Nat, n ≤ 4 ∧ gh = 4 - n ∧ s7 = .int .i64 n ∧ s6 = .bool (mayGoB p k j || castB p k j n) ∧ MAS w wx b off cap p u3 (movesUpto p k ++ movesFrom p k j))
    case atStart => exact ⟨0, by omega, rfl, rfl, by simp [castB], hS⟩
    case round =>
    clear hS
    obtain ⟨n, hn, hg3, rfl, rfl, hS⟩ := hrel
    have Hg3 := Lib.hid hg3
    clear hg3
    have hck := (hS.old hbr).cell k hklt
    have hx0 := (hp.bd k).1
    have hx1 := (hp.bd k).2
    have p0 := hS.kP.cell (o := 0) rfl
    have p1 := hS.kP.cell (o := 1) rfl
    have p2 := hS.kP.cell (o := 2) rfl
    have p3 := hS.kP.cell (o := 3) rfl
    have p4 := hS.kP.cell (o := 4) rfl
    have p5 := hS.kP.cell (o := 5) rfl
    by_cases hn4 : n = 4
    · subst hn4
      go_wp2
      go_meet
      exact ⟨rfl, hS⟩
    have hnlt : n < 4 := by omega
    have hdn : decide ((n : Int) < 4) = true := by simp; omega
    clear hn4 hn
    cases kb : (sizeI (p.L k) == 6)
    case false =>
      go_wp2_with (go_at_call 26; refine (size_any _ _ (by omega) (by omega)).mono ?_; rintro e w' ⟨rfl, rfl⟩)
      go_meet
      exact ⟨by rw [castB_no p k j n kb, okGo, castB_no p k j 4 kb], hS⟩
    case true =>
      generalize hob : (mayGoB p k j || castB p k j n) = ob at *
      have Hob := Lib.hid hob
      clear hob
      cases ob
      case true =>
        go_wp2_with (go_at_call 26; refine (size_any _ _ (by omega) (by omega)).mono ?_; rintro e w' ⟨rfl, rfl⟩)
        go_roundg (4 - (n + 1))
        case measure => have := Hg3.out; omega
        case rel => exact ⟨n + 1, by omega, rfl, by go_num, by rw [castB_succ, ← Bool.or_assoc, Hob.out]; rfl, hS⟩
      case false =>
        go_wp2_with (first | (go_at_call 26; refine (size_any _ _ (by omega) (by omega)).mono ?_; rintro e w' ⟨rfl, rfl⟩) | (go_at_call 31; refine (castleTo_any b off cap p n _ hnlt (hS.old hbr) hp.turn hp.c0 hp.c1).mono ?_; rintro e w1 ⟨rfl, hb1⟩))
        go_roundg (4 - (n + 1))
        case measure => have := Hg3.out; omega
        case rel => exact ⟨n + 1, by omega, rfl, by go_num, by rw [castB_succ, ← Bool.or_assoc, Hob.out, kingB, kb]; simp, hS.trans hb1⟩
  case rest =>
  clear hS
  obtain ⟨rfl, hS⟩ := hcut
  go_upto_region 14 with fail
  go_cut [63] from 51 to 51 (fun s63 wx => s63 = .bool (!(okGo p k j && safeGo p k j)) ∧ MAS w wx b off cap p u3 (movesUpto p k ++ movesFrom p k j))
  case first =>
    have p0 := hS.kP.cell (o := 0) rfl
    have p1 := hS.kP.cell (o := 1) rfl
    have p2 := hS.kP.cell (o := 2) rfl
    have p3 := hS.kP.cell (o := 3) rfl
    have p4 := hS.kP.cell (o := 4) rfl
    have p5 := hS.kP.cell (o := 5) rfl
    generalize hok : okGo p k j = ok at *
    have Hok := Lib.hid hok
    clear hok
    cases ok
    case false =>
      go_quiet (fail)
      go_wp2
      go_meet
      exact ⟨rfl, hS.drewN _⟩
    case true =>
      have hkg := hking k j hklt hjlt Hok.out
      have hbd := doneL_bd (m := ⟨k, j, 0⟩) hp.bd hp.turn (Int.le_refl 0) (by show (0 : Int) ≤ 5; omega)
      have hS0 := hS.drewN 1
      have hMD : Calls Tryz.prog 32 #[.agg #[.slice (some ⟨b, off, none⟩) 64 cap, .int .i64 p.turn, .int .i64 p.castle, .int .i64 p.ep, .int .i64 p.half, .int .i64 p.full], .agg #[.int .i64 k, .int .i64 j, .int .i64 0]] wc.drew
          fun e w1 => ∃ g cq tu ca ep ha fu, e = .returned (.agg #[.slice (some ⟨g, 0, none⟩) 64 cq, .int .i64 tu, .int .i64 ca, .int .i64 ep, .int .i64 ha, .int .i64 fu]) ∧ Brd w1 g 0 (doneL p ⟨k, j, 0⟩) ∧ MAS w w1 b off cap p u3 (movesUpto p k ++ movesFrom p k j) := by
        refine (moveDone_any b off cap p ⟨k, j, 0⟩ wc.drew (hS0.old hbr) hp.turn hp.c0 hp.c1 hp.h0 hp.h1 hp.f0 hp.f1 hp.ep hklt hjlt (Int.le_refl 0) (by show (0 : Int) ≤ 5; omega)).mono ?_
        rintro e w1 ⟨g, cq, rfl, hB, _, hb1⟩
        exact ⟨g, cq, _, _, _, _, _, rfl, hB.brd hbd, hS0.trans hb1⟩
      have HMD := Lib.hid hMD
      have hfd := run_field0
      clear hMD hS0
      go_region_held3 (fun w' => w'.cell? ⟨w.heap.size, 0, none⟩ = some (.slice (some ⟨b, off, none⟩) 64 cap) ∧ w'.cell? ⟨w.heap.size, 1, none⟩ = some (.int .i64 p.turn) ∧ w'.cell? ⟨w.heap.size, 2, none⟩ = some (.int .i64 p.castle) ∧ w'.cell? ⟨w.heap.size, 3, none⟩ = some (.int .i64 p.ep) ∧ w'.cell? ⟨w.heap.size, 4, none⟩ = some (.int .i64 p.half) ∧ w'.cell? ⟨w.heap.size, 5, none⟩ = some (.int .i64 p.full)) (first | go_keep | exact ⟨hS1.kP.cell rfl, hS1.kP.cell rfl, hS1.kP.cell rfl, hS1.kP.cell rfl, hS1.kP.cell rfl, hS1.kP.cell rfl⟩ | exact ⟨hS2.kP.cell rfl, hS2.kP.cell rfl, hS2.kP.cell rfl, hS2.kP.cell rfl, hS2.kP.cell rfl, hS2.kP.cell rfl⟩)
        (first
          | (go_at_call 32; refine HMD.out.mono ?_; rintro e w1 ⟨g, cq, tu, ca, ep, ha, fu, rfl, hB1, hS1⟩)
          | (go_at_call 27; refine (inCheck_any g 0 cq (doneL p ⟨k, j, 0⟩) p.turn _ hp.turn hB1 hkg).mono ?_; rintro e w2 ⟨rfl, hb2⟩; have hS2 := hS1.trans hb2))
      go_wp2
      go_meet
      exact ⟨by simp [safeGo], hS2⟩
  case rest =>
  clear hS
  obtain ⟨rfl, hS⟩ := hcut
  cases hgo : (okGo p k j && safeGo p k j)
  case false =>
    go_wp2
    go_meet
    exact (by rw [movesFrom_succ, movesAt, hgo]; simpa using hS)
  case true =>
  go_upto_region 15 with fail
  go_cut [78] from 64 to 64 (fun s78 wx => s78 = .bool (lastB p k j) ∧ MAS w wx b off cap p u3 (movesUpto p k ++ movesFrom p k j))
  case first =>
    have p0 := hS.kP.cell (o := 0) rfl
    have hck := (hS.old hbr).cell k hklt
    have hx0 := (hp.bd k).1
    have hx1 := (hp.bd k).2
    cases k1 : (sizeI (p.L k) == 1)
    case false =>
      go_wp2_with (go_at_call 26; refine (size_any _ _ (by omega) (by omega)).mono ?_; rintro e w' ⟨rfl, rfl⟩)
      go_meet
      exact ⟨by rw [lastB, k1]; rfl, hS⟩
    case true =>
      by_cases h8 : j < 8
      · go_wp2_with (go_at_call 26; refine (size_any _ _ (by omega) (by omega)).mono ?_; rintro e w' ⟨rfl, rfl⟩)
        go_meet
        exact ⟨by rw [lastB, k1]; simp [h8], hS⟩
      · by_cases h55 : 55 < j
        · go_wp2_with (go_at_call 26; refine (size_any _ _ (by omega) (by omega)).mono ?_; rintro e w' ⟨rfl, rfl⟩)
          go_meet
          exact ⟨by rw [lastB, k1]; simp [h55]; try omega, hS⟩
        · go_wp2_with (go_at_call 26; refine (size_any _ _ (by omega) (by omega)).mono ?_; rintro e w' ⟨rfl, rfl⟩)
          go_meet
          exact ⟨by rw [lastB, k1]; simp [h8, h55]; try omega, hS⟩
  case rest =>
  clear hS
  obtain ⟨rfl, hS⟩ := hcut
  have hl1 := movesUpto_le p k
  have hl2 := movesFrom_le p k j
  have hll : (movesUpto p k ++ movesFrom p k j).length ≤ 17000 := by rw [List.length_append]; omega
  clear hl1 hl2
  have hfin : movesFrom p k (j + 1) = movesFrom p k j ++ movesAt p k j := movesFrom_succ p k j
  have HF : Hid (movesUpto p k ++ movesFrom p k (j + 1) = (movesUpto p k ++ movesFrom p k j) ++ movesAt p k j) := by rw [hfin, List.append_assoc]; rfl
  clear hfin
  generalize movesUpto p k ++ movesFrom p k j = l0 at *
  generalize movesUpto p k ++ movesFrom p k (j + 1) = l1 at *
  cases hla : lastB p k j
  case false =>
    go_wp2_with (at_builtin; refine wpList_append_own _ rfl _ _ 37 rfl (w.heap.size + 1) 26 i0 (.agg #[.int .i64 0, .int .i64 0, .int .i64 0]) 3 24 Tryz.underlying37 hi0 hz0 hz1 hz2 rfl (by decide) _ _ _ rfl (hS.own.alloc _) ⟨wc.heap.size, 0, none⟩ 1 1 [.int .i64 k, .int .i64 j, .int .i64 0] rfl rfl ?c1 ?c2 ?c3 ?c4 ?c5 ?_)
    case c1 => exact three_new _ _ _ _ _
    case c2 => intro u hu; simp at hu; rcases hu with rfl | rfl | rfl <;> rfl
    case c3 => unfold maxLen; omega
    case c4 => omega
    case c5 => have := hS.kP.lt; simp; omega
    intro v' w1 hown' hgrow _
    have hS2 := hS.app _ ⟨k, j, 0⟩ hown' hgrow
    clear hown' hgrow
    go_wp2
    go_meet
    exact (by rw [HF.out, movesAt, hgo, hla]; exact hS2)
  case true =>
    go_wp2_with fail
    go_loopg [3, 8] 4 (fun gh s3 s8 wx => ∃ i : Nat, i ≤ 4 ∧ gh = 4 - i ∧ s8 = .int .i64 ((i : Int) + 2) ∧ ∃ l2, l2 = l0 ++ crowns k j i ∧ MAS w wx b off cap p s3 l2)
    case atStart => exact ⟨0, by omega, rfl, rfl, l0, by simp [crowns], hS⟩
    case round =>
    clear hS
    obtain ⟨i, hi, hg4, rfl, l2, hl2, hS⟩ := hrel
    have Hl2 := Lib.hid hl2
    clear hl2
    have Hg4 := Lib.hid hg4
    clear hg4
    by_cases hi4 : i = 4
    · subst hi4
      go_wp2
      go_meet
      exact (by rw [HF.out, movesAt, hgo, hla]; rw [Hl2.out] at hS; exact hS)
    have hilt : i < 4 := by omega
    clear hi4 hi
    have hlc : l2.length ≤ 17010 := by rw [Hl2.out, List.length_append]; simp [crowns]; omega
    go_wp2_with (at_builtin; refine wpList_append_own _ rfl _ _ 37 rfl (w.heap.size + 1) 26 i0 (.agg #[.int .i64 0, .int .i64 0, .int .i64 0]) 3 24 Tryz.underlying37 hi0 hz0 hz1 hz2 rfl (by decide) _ _ _ rfl (hS.own.alloc _) ⟨wr.heap.size, 0, none⟩ 1 1 [.int .i64 k, .int .i64 j, .int .i64 ((i : Int) + 2)] rfl rfl ?c1 ?c2 ?c3 ?c4 ?c5 ?_)
    case c1 => exact three_new _ _ _ _ _
    case c2 => intro u hu; simp at hu; rcases hu with rfl | rfl | rfl <;> rfl
    case c3 => unfold maxLen; omega
    case c4 => omega
    case c5 => have := hS.kP.lt; simp; omega
    intro v' w1 hown' hgrow _
    have hS2 := hS.app _ ⟨k, j, (i : Int) + 2⟩ hown' hgrow
    clear hown' hgrow hS
    go_wp2
    go_roundg (4 - (i + 1))
    case measure => have := Hg4.out; omega
    case rel => exact ⟨i + 1, by omega, rfl, by go_num, _, by rw [crowns_succ, ← List.append_assoc, Hl2.out], hS2⟩

end Go.Proofs.YthffhhbbhjcdeaaGreatDoor
