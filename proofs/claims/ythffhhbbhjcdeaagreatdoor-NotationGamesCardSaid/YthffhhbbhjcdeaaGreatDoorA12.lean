/- WALKS: the reference's PlainWord. -/
import Derived.Test.YthffhhbbhjcdeaaGreatDoorA10
import Derived.Deep.CutBlock
set_option linter.unusedVariables false
set_option linter.unusedSimpArgs false
namespace Go.Proofs.YthffhhbbhjcdeaaGreatDoor
open Go.RowKit
set_option maxRecDepth 100000

def letterL (n : Nat) : List UInt8 := (([32, 80, 78, 66, 82, 81, 75] : List UInt8).drop n).take 1
def kingGo (p : Pos) (m : Mv) : Bool := (sizeI (p.L m.fr) == 6) && (sizeI ((m.tg : Int) - m.fr) == 2)
/-- May another piece of its kind go there? -/
def rival (p : Pos) (m q : Mv) : Bool := (q.fr != m.fr) && (q.tg == m.tg) && (p.L q.fr == p.L m.fr)
def ambA (p : Pos) (m : Mv) (l : List Mv) : Bool := l.any (rival p m)
def ambF (p : Pos) (m : Mv) (l : List Mv) : Bool := l.any fun q => rival p m q && (q.fr % 8 == m.fr % 8)
def ambR (p : Pos) (m : Mv) (l : List Mv) : Bool := l.any fun q => rival p m q && (q.fr / 8 == m.fr / 8)
def originOf (a f r : Bool) (n : List UInt8) : List UInt8 := if a then (if f then (if r then n else n.drop 1) else n.take 1) else []
def originL (p : Pos) (m : Mv) : List UInt8 := originOf (ambA p m (movesR p)) (ambF p m (movesR p)) (ambR p m (movesR p)) (nameL m.fr)
def pawnB (p : Pos) (m : Mv) : Bool := sizeI (p.L m.fr) == 1
def takesB (p : Pos) (m : Mv) : Bool := if pawnB p m then m.fr % 8 != m.tg % 8 else p.L m.tg != 0
def headL (p : Pos) (m : Mv) : List UInt8 := if pawnB p m then (if m.fr % 8 != m.tg % 8 then (nameL m.fr).take 1 else []) else letterL (sizeI (p.L m.fr)).toNat ++ originL p m
def intoL (m : Mv) : List UInt8 := if 0 < m.into then [61] ++ letterL m.into.toNat else []
def plainL (p : Pos) (m : Mv) : List UInt8 :=
  if kingGo p m then (if m.fr < m.tg then [79, 45, 79] else [79, 45, 79, 45, 79])
  else headL p m ++ (if takesB p m then [120] else []) ++ nameL m.tg ++ intoL m

theorem any_take_succ (f : Mv → Bool) (l : List Mv) (k : Nat) (hk : k < l.length) : (l.take (k + 1)).any f = ((l.take k).any f || f (mvAt l k)) := by
  rw [List.take_succ_eq_append_getElem hk, List.any_append]
  have e : mvAt l k = l[k] := by rw [mvAt, List.getElem?_eq_getElem hk]; rfl
  rw [e]
  simp only [List.any_cons, List.any_nil, Bool.or_false]
theorem ambA_succ (p : Pos) (m : Mv) (l : List Mv) (k : Nat) (hk : k < l.length) : ambA p m (l.take (k + 1)) = (ambA p m (l.take k) || rival p m (mvAt l k)) := any_take_succ _ l k hk
theorem ambF_succ (p : Pos) (m : Mv) (l : List Mv) (k : Nat) (hk : k < l.length) : ambF p m (l.take (k + 1)) = (ambF p m (l.take k) || (rival p m (mvAt l k) && ((mvAt l k).fr % 8 == m.fr % 8))) := any_take_succ _ l k hk
theorem ambR_succ (p : Pos) (m : Mv) (l : List Mv) (k : Nat) (hk : k < l.length) : ambR p m (l.take (k + 1)) = (ambR p m (l.take k) || (rival p m (mvAt l k) && ((mvAt l k).fr / 8 == m.fr / 8))) := any_take_succ _ l k hk
theorem letter_extract (n k : Nat) (hk : k = n + 1) : (ByteArray.mk #[32, 80, 78, 66, 82, 81, 75]).extract n k = ⟨(letterL n).toArray⟩ := by
  subst hk
  have := ByteArray.extract_mk [32, 80, 78, 66, 82, 81, 75] n (n + 1)
  rw [show n + 1 - n = 1 by omega] at this
  exact this
theorem app_extract (l : List UInt8) (na nb : UInt8) (i j : Nat) : (ByteArray.mk l.toArray ++ (ByteArray.mk #[na, nb]).extract i j) = ⟨(l ++ (([na, nb].drop i).take (j - i))).toArray⟩ := by
  rw [show (ByteArray.mk #[na, nb]) = ⟨[na, nb].toArray⟩ from rfl, ByteArray.extract_mk, ByteArray.mk_append_mk]
theorem mvAt_mem {l : List Mv} {k : Nat} (hk : k < l.length) : mvAt l k ∈ l := by simp [mvAt, hk]
theorem beqNat {a b : Nat} : ((a : Int) == (b : Int)) = (a == b) := by rw [Bool.eq_iff_iff]; simp only [beq_iff_eq]; omega
theorem bneNat {a b : Nat} : ((a : Int) != (b : Int)) = (a != b) := by simp only [bne, beqNat]
theorem beqMod {a b : Nat} : ((a : Int) % 8 == (b : Int) % 8) = (a % 8 == b % 8) := by rw [Bool.eq_iff_iff]; simp only [beq_iff_eq]; omega
theorem bneMod {a b : Nat} : ((a : Int) % 8 != (b : Int) % 8) = (a % 8 != b % 8) := by simp only [bne, beqMod]
theorem beqDiv {a b : Nat} : ((a : Int) / 8 == (b : Int) / 8) = (a / 8 == b / 8) := by rw [Bool.eq_iff_iff]; simp only [beq_iff_eq]; omega
theorem letterL_le (n : Nat) : (letterL n).length ≤ 1 := by unfold letterL; exact Nat.le_trans (List.length_take_le _ _) (Nat.le_refl _)

theorem originOf_le (a f r : Bool) (n : Nat) : (originOf a f r (nameL n)).length ≤ 2 := by
  cases a <;> cases f <;> cases r <;> simp [originOf, nameL]
theorem headL_le (p : Pos) (m : Mv) : (headL p m).length ≤ 4 := by
  unfold headL; split
  · split <;> simp [nameL]
  · rw [List.length_append]; have := letterL_le (sizeI (p.L m.fr)).toNat; have := originOf_le (ambA p m (movesR p)) (ambF p m (movesR p)) (ambR p m (movesR p)) m.fr; unfold originL; omega

theorem fin_into (h : List UInt8) (ta tb : UInt8) (i j : Nat) (hj : j = i + 1) : (ByteArray.mk h.toArray ++ ByteArray.mk #[ta, tb] ++ ByteArray.mk #[61] ++ (ByteArray.mk #[32, 80, 78, 66, 82, 81, 75]).extract i j) = ⟨(h ++ [ta, tb] ++ ([61] ++ letterL i)).toArray⟩ := by
  rw [letter_extract _ _ hj]
  rw [show (ByteArray.mk #[ta, tb]) = ⟨[ta, tb].toArray⟩ from rfl, show (ByteArray.mk #[61]) = ⟨[(61 : UInt8)].toArray⟩ from rfl]
  simp only [ByteArray.mk_append_mk]
  simp
theorem fin_take (h : List UInt8) : (ByteArray.mk h.toArray ++ ByteArray.mk #[120]) = ⟨(h ++ [120]).toArray⟩ := ByteArray.mk_append_mk h [120]
theorem fin_name (h : List UInt8) (ta tb : UInt8) : (ByteArray.mk h.toArray ++ ByteArray.mk #[ta, tb]) = ⟨(h ++ [ta, tb]).toArray⟩ := ByteArray.mk_append_mk h [ta, tb]

structure PWS (w wx : World) (b off cap : Nat) (p : Pos) (m : Mv) : Prop where
  kP : Blk wx w.heap.size #[.slice (some ⟨b, off, none⟩) 64 cap, .int .i64 p.turn, .int .i64 p.castle, .int .i64 p.ep, .int .i64 p.half, .int .i64 p.full]
  kM : Blk wx (w.heap.size + 1) #[.int .i64 m.fr, .int .i64 m.tg, .int .i64 m.into]
  below : Below w.heap.size w wx
theorem PWS.trans {w wx w1 : World} {b off cap : Nat} {p : Pos} {m : Mv} (h : PWS w wx b off cap p m) (hb : Below wx.heap.size wx w1) : PWS w w1 b off cap p m :=
  ⟨h.kP.below hb h.kP.lt, h.kM.below hb h.kM.lt, h.below.trans (hb.mono h.below.size)⟩
theorem PWS.drewN {w wx : World} {b off cap : Nat} {p : Pos} {m : Mv} (h : PWS w wx b off cap p m) (n : Nat) : PWS w (wx.drewN n) b off cap p m := h.trans (below_drewN (Below.refl _ _) n)
theorem PWS.old {w wx : World} {b off cap : Nat} {p : Pos} {m : Mv} (h : PWS w wx b off cap p m) (hbr : Brd w b off p.L) : Brd wx b off p.L := hbr.below h.below hbr.lt
theorem sizeI_bd {x : Int} (h0 : -6 ≤ x) (h1 : x ≤ 6) : 0 ≤ sizeI x ∧ sizeI x ≤ 6 := by unfold sizeI; split <;> omega

set_option maxHeartbeats 8000000 in
theorem plainWord_any (b off cap : Nat) (p : Pos) (m : Mv) (w : World) (hbr : Brd w b off p.L) (hp : PosOk p) (hf : m.fr < 64) (ht : m.tg < 64) (hi0 : 0 ≤ m.into) (hi5 : m.into ≤ 5)
    (hking : ∀ fr tg, fr < 64 → tg < 64 → okGo p fr tg = true → HasKing (doneL p ⟨fr, tg, 0⟩) p.turn) (hin : ∀ q, q ∈ movesR p → q.fr < 64 ∧ q.tg < 64) :
    Calls Tryz.prog 12 #[chessV b off cap p, mvV m] w (RetB (strV (plainL p m)) w) := by
  have hlt := hbr.lt
  unfold chessV mvV
  go_enter Tryz.func12, Tryz.ntmps12
  go_upto_region 1 with fail
  generalize hW0 : World.alloc _ _ = W0
  have hS : PWS w W0 b off cap p m := by
    rw [← hW0]; exact ⟨(Blk.new w _ _).alloc _, Blk.new' (by simp) _ _, ((Below.refl _ _).alloc (Nat.le_refl _) _).alloc (by simp) _⟩
  clear hW0
  have hx0 := (hp.bd m.fr).1
  have hx1 := (hp.bd m.fr).2
  go_cut [5] from 15 to 15 (fun s5 wx => s5 = .int .i64 (sizeI (p.L m.fr)) ∧ PWS w wx b off cap p m)
  case first =>
    have p0 := hS.kP.cell (o := 0) rfl
    have m0 := hS.kM.cell (o := 0) rfl
    have hc := (hS.old hbr).cell m.fr hf
    go_wp2_with (go_at_call 26; refine (size_any _ _ (by omega) (by omega)).mono ?_; rintro e w' ⟨rfl, rfl⟩)
    go_meet
    exact ⟨rfl, hS⟩
  case rest =>
  clear hS
  obtain ⟨rfl, hS⟩ := hcut
  have hs := sizeI_bd hx0 hx1
  have hs0 := hs.1
  have hs6 := hs.2
  clear hs
  generalize hsz : sizeI (p.L m.fr) = sz at *
  have Hsz := Lib.hid hsz
  clear hsz
  go_upto_region 2 with fail
  go_cut [32] from 22 to 22 (fun s32 wx => s32 = .bool (kingGo p m) ∧ PWS w wx b off cap p m)
  case first =>
    have m0 := hS.kM.cell (o := 0) rfl
    have m1 := hS.kM.cell (o := 1) rfl
    cases k1 : (sz == 6)
    all_goals
      go_wp2_with (go_at_call 26; refine (size_any _ _ (by omega) (by omega)).mono ?_; rintro e w' ⟨rfl, rfl⟩)
      go_meet
      exact ⟨by rw [kingGo, Hsz.out, k1]; rfl, hS⟩
  case rest =>
  clear hS
  obtain ⟨rfl, hS⟩ := hcut
  cases hkg : kingGo p m
  case true =>
    have m0 := hS.kM.cell (o := 0) rfl
    have m1 := hS.kM.cell (o := 1) rfl
    by_cases hl : m.fr < m.tg
    · go_wp2
      go_ret
      exact ⟨by rw [plainL, hkg, if_pos rfl, if_pos hl]; rfl, hS.below⟩
    · go_wp2
      go_ret
      exact ⟨by rw [plainL, hkg, if_pos rfl, if_neg hl]; rfl, hS.below⟩
  case false =>
  go_upto_region 6 with fail
  go_cut [6] from 38 to 38 (fun s6 wx => s6 = strV (nameL m.fr) ∧ PWS w wx b off cap p m)
  case first =>
    have m0 := hS.kM.cell (o := 0) rfl
    go_wp2_with (go_at_call 33; refine (placeName_any m.fr hf _).mono ?_; rintro e w1 ⟨rfl, hb1⟩)
    go_meet
    exact ⟨rfl, hS.trans hb1⟩
  case rest =>
  clear hS
  obtain ⟨rfl, hS⟩ := hcut
  obtain ⟨na, nb, hnm⟩ : ∃ a b, nameL m.fr = [a, b] := ⟨_, _, rfl⟩
  rw [hnm]
  have Hnm := Lib.hid hnm
  clear hnm
  unfold strV
  go_upto_region 8 with fail
  go_cut [8] from 41 to 41 (fun s8 wx => s8 = .bool (p.L m.tg != 0) ∧ PWS w wx b off cap p m)
  case first =>
    have p0 := hS.kP.cell (o := 0) rfl
    have m1 := hS.kM.cell (o := 1) rfl
    have hc := (hS.old hbr).cell m.tg ht
    go_wp2
    go_meet
    exact ⟨rfl, hS⟩
  case rest =>
  clear hS
  obtain ⟨rfl, hS⟩ := hcut
  go_upto_if 49 with fail
  go_cut [7, 8] from 48 to 49 (fun s7 s8 wx => s7 = strV (headL p m) ∧ s8 = .bool (takesB p m) ∧ PWS w wx b off cap p m)
  case first =>
    have hpB : pawnB p m = (sz == 1) := by rw [pawnB, Hsz.out]
    have HpB := Lib.hid hpB
    clear hpB
    cases hpw : (sz == 1)
    case true =>
      have Hpw := Lib.hid hpw
      have m0 := hS.kM.cell (o := 0) rfl
      have m1 := hS.kM.cell (o := 1) rfl
      cases ht8 : ((m.fr : Int) % 8 != (m.tg : Int) % 8)
      all_goals
        go_wp2
        go_meet
        refine ⟨?_, ?_, hS⟩
        · rw [headL, HpB.out, Hpw.out, if_pos rfl, ← bneMod, ht8, Hnm.out]; rfl
        · rw [takesB, HpB.out, Hpw.out, if_pos rfl, ← bneMod, ht8]
    case false =>
      have Hpw := Lib.hid hpw
      clear hpw
      go_upto_region 14 with fail
      rw [letter_extract _ _ (by omega)]
      go_cut [9] from 64 to 64 (fun s9 wx => MvSl wx s9 (movesR p) ∧ (∃ a n c, s9 = .slice a n c ∧ n = (movesR p).length) ∧ PWS w wx b off cap p m)
      case first =>
        have p0 := hS.kP.cell (o := 0) rfl
        have p1 := hS.kP.cell (o := 1) rfl
        have p2 := hS.kP.cell (o := 2) rfl
        have p3 := hS.kP.cell (o := 3) rfl
        have p4 := hS.kP.cell (o := 4) rfl
        have p5 := hS.kP.cell (o := 5) rfl
        go_wp2_with (go_at_call 11; refine (movesAll_any b off cap p _ (hS.old hbr) hp hking).mono ?_; rintro e w1 ⟨v, rfl, hown, hb1⟩)
        go_meet
        obtain ⟨a, c, hv⟩ := ownsRow_slice hown
        exact ⟨MvSl.of_row hown, ⟨a, _, c, hv, rfl⟩, hS.trans hb1⟩
      case rest =>
      clear hS
      obtain ⟨hl, ⟨a, n, c, rfl, hn⟩, hS⟩ := hcut
      have Hn := Lib.hid hn
      clear hn
      go_upto_block 0 with fail
      go_cut [10, 11, 12] from 66 to 66 (fun s10 s11 s12 wx => s10 = .bool (ambA p m (movesR p)) ∧ s11 = .bool (ambF p m (movesR p)) ∧ s12 = .bool (ambR p m (movesR p)) ∧ PWS w wx b off cap p m)
      case first =>
        go_wp2_with fail
        go_loopg [10, 11, 12, 13] n (fun gh s10 s11 s12 s13 wx => ∃ k : Nat, k ≤ n ∧ gh = n - k ∧ s13 = .int .i64 k ∧ s10 = .bool (ambA p m ((movesR p).take k)) ∧ s11 = .bool (ambF p m ((movesR p).take k)) ∧ s12 = .bool (ambR p m ((movesR p).take k)) ∧ MvSl wx (.slice a n c) (movesR p) ∧ PWS w wx b off cap p m)
        case atStart => exact ⟨0, by omega, rfl, rfl, rfl, rfl, rfl, hl, hS⟩
        case round =>
        clear hS hl
        obtain ⟨k, hk, hg, rfl, rfl, rfl, rfl, hl, hS⟩ := hrel
        have Hg := Lib.hid hg
        clear hg
        have hnb : n ≤ 20000 := by rw [Hn.out]; have := movesUpto_le p 64; rw [movesR]; omega
        by_cases hkn : k = n
        · have hge : ¬ k < n := by omega
          have htk : (movesR p).take k = movesR p := by rw [hkn, Hn.out, List.take_length]
          rw [htk]
          clear htk hkn
          go_wp2
          go_meet
          exact ⟨rfl, rfl, rfl, hS⟩
        have hkl : k < n := by omega
        have hkm : k < (movesR p).length := by rw [← Hn.out]; exact hkl
        have Hkm := Lib.hid hkm
        clear hkn hk hkm
        obtain ⟨bq, oq, cq, hv, hr⟩ : ∃ bq oq cq, Value.slice a n c = .slice (some ⟨bq, oq, none⟩) (movesR p).length cq ∧ MvRow wr bq oq (movesR p) := by
          rcases hl with ⟨hv, h0⟩ | h
          · exact absurd Hkm.out (by rw [h0]; simp)
          · exact h
        injection hv with ea en ec
        subst ea
        clear en ec
        obtain ⟨g0, g1, g2⟩ := hr.get k Hkm.out
        obtain ⟨hq1, hq2⟩ := hin _ (mvAt_mem Hkm.out)
        have hriv : rival p m (mvAt (movesR p) k) = (((mvAt (movesR p) k).fr != m.fr) && ((mvAt (movesR p) k).tg == m.tg) && (p.L (mvAt (movesR p) k).fr == p.L m.fr)) := rfl
        have sA := ambA_succ p m (movesR p) k Hkm.out
        have sF := ambF_succ p m (movesR p) k Hkm.out
        have sR := ambR_succ p m (movesR p) k Hkm.out
        generalize hrv : rival p m (mvAt (movesR p) k) = rv at *
        generalize hqf : (mvAt (movesR p) k).fr = qf at *
        generalize hqt : (mvAt (movesR p) k).tg = qt at *
        have Hriv := Lib.hid hriv
        have SA := Lib.hid sA
        have SF := Lib.hid sF
        have SR := Lib.hid sR
        clear hriv sA sF sR hrv hqf hqt g2 hr
        have hcq := (hS.old hbr).cell qf hq1
        have hcm := (hS.old hbr).cell m.fr hf
        have m0 := hS.kM.cell (o := 0) rfl
        have m1 := hS.kM.cell (o := 1) rfl
        have p0 := hS.kP.cell (o := 0) rfl
        go_upto_region 20 with fail
        have hki : (k : Int) < n := by omega
        have hqi : (qf : Int) < 64 := by omega
        have hfi : (m.fr : Int) < 64 := by omega
        go_cut [104] from 77 to 77 (fun s104 wx => s104 = .bool rv ∧ MvSl wx (.slice (some ⟨bq, oq, none⟩) n c) (movesR p) ∧ PWS w wx b off cap p m)
        case first =>
          cases e1 : ((qf : Int) != (m.fr : Int))
          case false =>
            go_quiet (fail)
            go_wp2
            go_meet
            exact ⟨by rw [bneNat] at e1; rw [Hriv.out, e1]; rfl, hl.below (below_drewN (Below.refl _ _) _), hS.drewN _⟩
          cases e2 : ((qt : Int) == (m.tg : Int))
          case false =>
            go_quiet (fail)
            go_wp2
            go_meet
            exact ⟨by rw [bneNat] at e1; rw [beqNat] at e2; rw [Hriv.out, e1, e2]; rfl, hl.below (below_drewN (Below.refl _ _) _), hS.drewN _⟩
          case true =>
            go_quiet (fail)
            go_wp2
            go_meet
            exact ⟨by rw [bneNat] at e1; rw [beqNat] at e2; rw [Hriv.out, e1, e2]; rfl, hl.below (below_drewN (Below.refl _ _) _), hS.drewN _⟩
        case rest =>
        clear hS hl hcq hcm m0 m1 p0 g0 g1 hki
        obtain ⟨rfl, hl, hS⟩ := hcut
        cases rv
        case false =>
          go_wp2
          go_roundg (n - (k + 1))
          case measure => have := Hg.out; omega
          case rel => exact ⟨k + 1, by omega, rfl, by go_num, by rw [SA.out, Bool.or_false], by rw [SF.out, Bool.false_and, Bool.or_false], by rw [SR.out, Bool.false_and, Bool.or_false], hl, hS⟩
        case true =>
          have m0 := hS.kM.cell (o := 0) rfl
          generalize ambF p m ((movesR p).take k) = fb at *
          generalize ambR p m ((movesR p).take k) = rb at *
          cases fb <;> cases rb
          all_goals
            go_wp2
            go_roundg (n - (k + 1))
            case measure => have := Hg.out; omega
            case rel => exact ⟨k + 1, by omega, rfl, by go_num, by rw [SA.out, Bool.or_true], by rw [SF.out, ← beqMod]; rfl, by rw [SR.out, ← beqDiv]; rfl, hl, hS⟩
      case rest =>
      clear hS hl
      obtain ⟨rfl, rfl, rfl, hS⟩ := hcut
      have hhd : headL p m = letterL sz.toNat ++ originOf (ambA p m (movesR p)) (ambF p m (movesR p)) (ambR p m (movesR p)) [na, nb] := by
        rw [headL, HpB.out, Hpw.out, if_neg (by decide), originL, Hnm.out, Hsz.out]
      have Hhd := Lib.hid hhd
      clear hhd
      generalize ambA p m (movesR p) = ba at *
      generalize ambF p m (movesR p) = bf at *
      generalize ambR p m (movesR p) = br at *
      have hlt1 := letterL_le sz.toNat
      generalize letterL sz.toNat = lt at *
      cases ba <;> cases bf <;> cases br
      all_goals
        go_wp2
        go_meet
        refine ⟨?_, by rw [takesB, HpB.out, Hpw.out]; rfl, hS⟩
        rw [Hhd.out]
        first
          | (rw [app_extract]; rfl)
          | exact congrArg Value.string (ByteArray.mk_append_mk lt [na, nb])
          | (rw [show ∀ f r, originOf false f r [na, nb] = [] from fun _ _ => rfl, List.append_nil]; rfl)
  case rest =>
  clear hS
  obtain ⟨rfl, rfl, hS⟩ := hcut
  have hh : (headL p m).length ≤ 4 := headL_le p m
  have hfin : plainL p m = headL p m ++ (if takesB p m then [120] else []) ++ nameL m.tg ++ intoL m := by rw [plainL, hkg]; rfl
  have HF := Lib.hid hfin
  clear hfin hkg
  generalize headL p m = h at *
  generalize takesB p m = tk at *
  unfold strV
  obtain ⟨ta, tb, htm⟩ : ∃ a b, nameL m.tg = [a, b] := ⟨_, _, rfl⟩
  have Htm := Lib.hid htm
  clear htm
  have m1 := hS.kM.cell (o := 1) rfl
  have hpn := placeName_any m.tg ht
  rw [Htm.out] at hpn
  have Hpn := Lib.hid hpn
  clear hpn
  by_cases hi : 0 < m.into
  · have hin' : intoL m = [61] ++ letterL m.into.toNat := if_pos hi
    have Hin := Lib.hid hin'
    clear hin'
    cases tk
    · go_wp2_with (go_at_call 33; refine (Hpn.out _).mono ?_; rintro e w1 ⟨rfl, hb1⟩; have hS1 := hS.trans hb1; have n2 := hS1.kM.cell (o := 2) rfl; unfold strV)
      go_ret
      refine ⟨?_, hS1.below⟩
      rw [HF.out, Htm.out, Hin.out, if_neg (by decide), List.append_nil]
      exact congrArg (fun s => Ending.returned (Value.string s)) (fin_into h ta tb _ _ (by omega))
    · go_wp2_with (go_at_call 33; refine (Hpn.out _).mono ?_; rintro e w1 ⟨rfl, hb1⟩; have hS1 := hS.trans hb1; have n2 := hS1.kM.cell (o := 2) rfl; unfold strV)
      go_ret
      refine ⟨?_, hS1.below⟩
      rw [HF.out, Htm.out, Hin.out, if_pos trivial]
      refine congrArg (fun s => Ending.returned (Value.string s)) ?_
      rw [fin_take]
      exact fin_into _ ta tb _ _ (by omega)
  · have hin' : intoL m = [] := if_neg hi
    have Hin := Lib.hid hin'
    clear hin'
    cases tk
    · go_wp2_with (go_at_call 33; refine (Hpn.out _).mono ?_; rintro e w1 ⟨rfl, hb1⟩; have hS1 := hS.trans hb1; have n2 := hS1.kM.cell (o := 2) rfl; unfold strV)
      go_ret
      refine ⟨?_, hS1.below⟩
      rw [HF.out, Htm.out, Hin.out, if_neg (by decide), List.append_nil, List.append_nil]
      exact congrArg (fun s => Ending.returned (Value.string s)) (fin_name h ta tb)
    · go_wp2_with (go_at_call 33; refine (Hpn.out _).mono ?_; rintro e w1 ⟨rfl, hb1⟩; have hS1 := hS.trans hb1; have n2 := hS1.kM.cell (o := 2) rfl; unfold strV)
      go_ret
      refine ⟨?_, hS1.below⟩
      rw [HF.out, Htm.out, Hin.out, if_pos trivial, List.append_nil]
      refine congrArg (fun s => Ending.returned (Value.string s)) ?_
      rw [fin_take]
      exact fin_name _ ta tb

end Go.Proofs.YthffhhbbhjcdeaaGreatDoor
