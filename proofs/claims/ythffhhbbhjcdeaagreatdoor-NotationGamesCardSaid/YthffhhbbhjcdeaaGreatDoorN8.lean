/- WALKS: the reference's TellMoves. MEMORY: a position in its box beside a row of the call's own and a row of words. WALKS: the reference's GameOf. -/
import Derived.Test.YthffhhbbhjcdeaaGreatDoorN3
import Derived.Test.YthffhhbbhjcdeaaGreatDoorP7
import Derived.StillTailTactics
import Derived.Maps.AppendAt
import Derived.Laws.StructEq
import Derived.Deep.RegionHeld3
set_option linter.unusedVariables false
set_option linter.unusedSimpArgs false
namespace Go.Proofs.YthffhhbbhjcdeaaGreatDoor
open Go.RowKit
set_option maxRecDepth 100000

/-- A position in its box. -/
structure PB (w wx : World) (K b off cap : Nat) (q : Pos) : Prop where
  kP : Blk wx K #[.slice (some ⟨b, off, none⟩) 64 cap, .int .i64 q.turn, .int .i64 q.castle, .int .i64 q.ep, .int .i64 q.half, .int .i64 q.full]
  brd : Brd wx b off q.L
  sep : b ≠ K
  base : w.heap.size ≤ K
  below : Below w.heap.size w wx
theorem PB.trans {w wx w1 : World} {K b off cap : Nat} {q : Pos} (h : PB w wx K b off cap q) (hb : Below wx.heap.size wx w1) : PB w w1 K b off cap q :=
  ⟨h.kP.below hb h.kP.lt, h.brd.below hb h.brd.lt, h.sep, h.base, h.below.trans (hb.mono h.below.size)⟩
theorem Brd.other {w : World} {b off K : Nat} {L : Nat → Int} (h : Brd w b off L) (hne : b ≠ K) (o : Nat) (v : Value) : Brd (w.setCell ⟨K, o, none⟩ v) b off L :=
  ⟨by simpa using h.lt, fun i hi => (World.cell?_setCell_other _ _ _ _ (by simp [hne])).trans (h.cell i hi), h.bd⟩
/-- Another position is laid in the box. -/
theorem PB.put {w w1 : World} {K b off cap : Nat} {q : Pos} (h : PB w w1 K b off cap q) {g c : Nat} {q' : Pos} (hbr : Brd w1 g 0 q'.L) (hne : g ≠ K) :
    PB w ((((((w1.setCell ⟨K, 0, none⟩ (.slice (some ⟨g, 0, none⟩) 64 c)).setCell ⟨K, 1, none⟩ (.int .i64 q'.turn)).setCell ⟨K, 2, none⟩ (.int .i64 q'.castle)).setCell ⟨K, 3, none⟩ (.int .i64 q'.ep)).setCell ⟨K, 4, none⟩ (.int .i64 q'.half)).setCell ⟨K, 5, none⟩ (.int .i64 q'.full)) K g 0 c q' := by
  refine ⟨?_, ?_, hne, h.base, ?_⟩
  · have e := (((((h.kP.set 0 (.slice (some ⟨g, 0, none⟩) 64 c)).set 1 (.int .i64 q'.turn)).set 2 (.int .i64 q'.castle)).set 3 (.int .i64 q'.ep)).set 4 (.int .i64 q'.half)).set 5 (.int .i64 q'.full)
    exact e
  · iterate 6 refine Brd.other ?_ hne _ _
    exact hbr
  · have hb := h.base
    iterate 6 refine Below.setCell ?_ hb _
    exact h.below

def tellV (o : Option (List UInt8)) : Value := match o with | some s => .tuple #[strV s, .bool true] | none => .tuple #[strV [], .bool false]

theorem endL_le2 (p : Pos) (m : Mv) : (endL p m).length ≤ 1 := by
  unfold endL
  repeat' split
  all_goals simp
theorem keep9 {w wx w' : World} {K b off cap b' o' i : Nat} {q : Pos} {l : List (Int × Int × Int)} (h : PB w wx K b off cap q) (hr : TrRow w b' o' l) (hi : i < l.length) (hb : Below wx.heap.size wx w') :
    w'.cell? ⟨K, 0, none⟩ = some (.slice (some ⟨b, off, none⟩) 64 cap) ∧ w'.cell? ⟨K, 1, none⟩ = some (.int .i64 q.turn) ∧ w'.cell? ⟨K, 2, none⟩ = some (.int .i64 q.castle) ∧ w'.cell? ⟨K, 3, none⟩ = some (.int .i64 q.ep) ∧
    w'.cell? ⟨K, 4, none⟩ = some (.int .i64 q.half) ∧ w'.cell? ⟨K, 5, none⟩ = some (.int .i64 q.full) ∧
    w'.cell? ⟨b', o' + i * 3, none⟩ = some (.int .i64 (trAt l i).1) ∧ w'.cell? ⟨b', o' + i * 3 + 1, none⟩ = some (.int .i64 (trAt l i).2.1) ∧ w'.cell? ⟨b', o' + i * 3 + 2, none⟩ = some (.int .i64 (trAt l i).2.2) := by
  have h2 := h.trans hb
  obtain ⟨t0, t1, t2⟩ := (hr.below h2.below hr.lt).get i hi
  exact ⟨h2.kP.cell rfl, h2.kP.cell rfl, h2.kP.cell rfl, h2.kP.cell rfl, h2.kP.cell rfl, h2.kP.cell rfl, t0, t1, t2⟩
theorem keep90 {w wx w' : World} {K b off cap b' o' : Nat} {q : Pos} {l : List (Int × Int × Int)} (h : PB w wx K b off cap q) (hr : TrRow w b' o' l) (hi : 0 < l.length) (hb : Below wx.heap.size wx w') :
    w'.cell? ⟨K, 0, none⟩ = some (.slice (some ⟨b, off, none⟩) 64 cap) ∧ w'.cell? ⟨K, 1, none⟩ = some (.int .i64 q.turn) ∧ w'.cell? ⟨K, 2, none⟩ = some (.int .i64 q.castle) ∧ w'.cell? ⟨K, 3, none⟩ = some (.int .i64 q.ep) ∧
    w'.cell? ⟨K, 4, none⟩ = some (.int .i64 q.half) ∧ w'.cell? ⟨K, 5, none⟩ = some (.int .i64 q.full) ∧
    w'.cell? ⟨b', o', none⟩ = some (.int .i64 (trAt l 0).1) ∧ w'.cell? ⟨b', o' + 1, none⟩ = some (.int .i64 (trAt l 0).2.1) ∧ w'.cell? ⟨b', o' + 2, none⟩ = some (.int .i64 (trAt l 0).2.2) := by
  have h9 := keep9 h hr hi hb
  simpa using h9
theorem drop_tr {l : List (Int × Int × Int)} {i : Nat} (hi : i < l.length) : l.drop i = trAt l i :: l.drop (i + 1) := by
  rw [List.drop_eq_getElem_cons hi]
  unfold trAt
  rw [List.getElem?_eq_getElem hi]
  rfl
theorem hasT_neg (q : Pos) (t : Int × Int × Int) : decide (mvIdx (movesR q) t.1 t.2.1 t.2.2 < 0) = !hasT q t := by
  unfold hasT
  rw [Bool.eq_iff_iff]
  simp

set_option maxHeartbeats 8000000 in
theorem tellR_any (b off cap : Nat) (a : Option Addr) (cp : Nat) (p : Pos) (l : List (Int × Int × Int)) (w : World) (hm : MayP p) (hbr : Brd w b off p.L) (hl : l.length ≤ 200)
    (hr : l.length = 0 ∨ ∃ b off, a = some ⟨b, off, none⟩ ∧ TrRow w b off l) :
    Calls Tryz.prog 17 #[chessV b off cap p, .slice a l.length cp] w (RetB (tellV (tellS p true [] l)) w) := by
  have hbl := hbr.lt
  have HR := Lib.hid hr
  have HM := Lib.hid hm
  have HB := Lib.hid hbr
  clear hr hm hbr
  unfold chessV
  go_enter Tryz.func17, Tryz.ntmps17
  go_wp2_with fail
  generalize hW0 : World.alloc _ _ = W0
  have hS : PB w W0 w.heap.size b off cap p := by
    rw [← hW0]; exact ⟨Blk.new w _ _, HB.out.below ((Below.refl _ _).alloc (Nat.le_refl _) _) hbl, by omega, Nat.le_refl _, (Below.refl _ _).alloc (Nat.le_refl _) _⟩
  clear hW0
  go_loopg [6, 7] l.length (fun g s6 s7 wx => ∃ (i : Nat) (s : List UInt8) (q : Pos) (b off cap : Nat), i ≤ l.length ∧ g = l.length - i ∧ s7 = .int .i64 i ∧ s6 = .string ⟨s.toArray⟩ ∧ s.length ≤ i * 50 ∧ PB w wx w.heap.size b off cap q ∧ MayP q ∧ tellS p true [] l = tellS q (i == 0) s (l.drop i))
  case atStart => exact ⟨0, [], p, b, off, cap, by omega, rfl, rfl, rfl, by simp, hS, HM.out, rfl⟩
  case round =>
  clear hS HM HB hbl
  obtain ⟨i, s, q, b, off, cap, hi, hg, rfl, rfl, hsl, hS, hm, ht⟩ := hrel
  have Hg := Lib.hid hg
  have Ht := Lib.hid ht
  have Hm := Lib.hid hm
  clear hg ht hm
  by_cases hil : i = l.length
  · have hge : ¬ i < l.length := by omega
    have Ht2 := Lib.hid (show tellS p true [] l = some s by rw [Ht.out, hil, List.drop_length, tellS])
    clear hil Ht
    have hbw := hS.below
    go_wp2
    go_ret2
    exact ⟨by rw [Ht2.out]; rfl, hbw⟩
  have hilt : i < l.length := by omega
  clear hil hi
  rcases HR.out with h | ⟨b', o', rfl, hR⟩
  · omega
  have HR2 := Lib.hid hR
  clear HR hR
  have hmv : ∀ w1, Below wr.heap.size wr w1 → _ := fun w1 hb => movesAll_any b off cap q w1 (hS.brd.below hb hS.brd.lt) Hm.out.ok (posM_of Hm.out).king
  have hix : ∀ v w1, MvSl w1 v (movesR q) → Calls Tryz.prog 10 #[v, .agg #[.int .i64 (trAt l i).1, .int .i64 (trAt l i).2.1, .int .i64 (trAt l i).2.2]] w1 (RetB (.int .i64 (mvIdx (movesR q) (trAt l i).1 (trAt l i).2.1 (trAt l i).2.2)) w1) :=
    fun v w1 h => moveAt_sl v _ _ _ _ w1 h (Nat.le_trans (movesUpto_le q 64) (by decide))
  unfold chessV at hmv
  have HV := Lib.hid hmv
  have HI := Lib.hid hix
  have HS := Lib.hid hS
  have hSl := hS.kP.lt
  clear hmv hix
  obtain ⟨p0, p1, p2, p3, p4, p5, t0, t1, t2⟩ := keep9 hS HR2.out hilt (Below.refl _ _)
  have hki : (i : Int) < l.length := by omega
  clear hS
  go_upto_region 5 with fail
  go_cut [21] from 14 to 20 (fun s21 wx => s21 = .bool (!hasT q (trAt l i)) ∧ Below wr.heap.size wr wx)
  case first =>
    go_region_held3 (fun w' => w'.cell? ⟨w.heap.size, 0, none⟩ = some (.slice (some ⟨b, off, none⟩) 64 cap) ∧ w'.cell? ⟨w.heap.size, 1, none⟩ = some (.int .i64 q.turn) ∧ w'.cell? ⟨w.heap.size, 2, none⟩ = some (.int .i64 q.castle) ∧ w'.cell? ⟨w.heap.size, 3, none⟩ = some (.int .i64 q.ep) ∧
        w'.cell? ⟨w.heap.size, 4, none⟩ = some (.int .i64 q.half) ∧ w'.cell? ⟨w.heap.size, 5, none⟩ = some (.int .i64 q.full) ∧
        w'.cell? ⟨b', o' + i * 3, none⟩ = some (.int .i64 (trAt l i).1) ∧ w'.cell? ⟨b', o' + i * 3 + 1, none⟩ = some (.int .i64 (trAt l i).2.1) ∧ w'.cell? ⟨b', o' + i * 3 + 2, none⟩ = some (.int .i64 (trAt l i).2.2))
      (first | exact keep9 HS.out HR2.out hilt (((Below.refl wr.heap.size wr).drew.trans hb1).trans (hb2.mono hb1.size)) | exact keep9 HS.out HR2.out hilt ((Below.refl wr.heap.size wr).drew.trans hb1) | go_keep)
      (first
        | (go_at_call 11; refine (HV.out _ ((Below.refl wr.heap.size wr).drew)).mono ?_; rintro e w1 ⟨v, rfl, hown, hb1⟩; have hMS := MvSl.of_row hown; obtain ⟨a1, cp1, rfl⟩ := ownsRow_slice hown; clear hown)
        | (go_at_call 10; refine (HI.out _ _ hMS).mono ?_; rintro e w2 ⟨rfl, hb2⟩))
    all_goals
      go_wp2
      go_meet
      exact ⟨by rw [hasT_neg], ((Below.refl wr.heap.size wr).drew.trans hb1).trans (hb2.mono hb1.size)⟩
  case rest =>
  obtain ⟨rfl, hb1⟩ := hcut
  clear p0 p1 p2 p3 p4 p5 t0 t1 t2
  have hS := HS.out.trans hb1
  cases hT : hasT q (trAt l i)
  case false =>
    have Ht2 := Lib.hid (show tellS p true [] l = none by rw [Ht.out, drop_tr hilt, tellS, hT]; rfl)
    clear hT Ht
    have hbw := hS.below
    go_wp2
    go_ret2
    exact ⟨by rw [Ht2.out]; rfl, hbw⟩
  case true =>
  have Ht2 := Lib.hid (show tellS p true [] l = tellS (doneR q (mvOf (trAt l i))) false (s ++ preS q (i == 0) ++ wordR q (mvOf (trAt l i))) (l.drop (i + 1)) by rw [Ht.out, drop_tr hilt, tellS, hT]; rfl)
  have HY := Lib.hid (hasT_yes hT)
  clear hT Ht HI HV HS hb1
  have hf0 := Hm.out.ok.f0
  have hf1 := Hm.out.ok.f1
  have hD : ∀ w1, Calls Tryz.prog 42 #[.int .i64 q.full] w1 (RetB (.string ⟨(decL q.full.toNat).toArray⟩) w1) := fun w1 => by
    have h := dec_any q.full.toNat (by omega) w1
    rwa [show ((q.full.toNat : Nat) : Int) = q.full by omega] at h
  have HD := Lib.hid hD
  have hDl := decL_le q.full.toNat
  clear hD
  have hpk : ∀ D, D = decL q.full.toNat → preS q (i == 0) = (if (i == 0) = true then [] else [32]) ++ (if q.turn = 0 then D ++ [46, 32] else []) ++ (if q.turn = 1 ∧ (i == 0) = true then D ++ [46, 46, 46, 32] else []) := fun D e => by rw [e]; rfl
  have HK := Lib.hid (hpk _ rfl)
  clear hpk
  generalize decL q.full.toNat = D at *
  obtain ⟨s2, hs2⟩ : ∃ s2, s2 = s ++ preS q (i == 0) := ⟨_, rfl⟩
  rw [← hs2] at Ht2
  have hs2l : s2.length ≤ s.length + 10 := by
    rw [hs2, HK.out, List.length_append]
    have := hDl
    repeat' split
    all_goals simp
    all_goals omega
  have HS2 := Lib.hid hs2
  clear hs2
  obtain ⟨p0, p1, p2, p3, p4, p5, t0, t1, t2⟩ := keep9 hS HR2.out hilt (Below.refl _ _)
  have hSl2 := hS.kP.lt
  have hturn := Hm.out.ok.turn
  clear hf0 hf1
  rcases hturn with h0 | h0 <;> rcases Nat.eq_zero_or_pos i with hi0 | hi0
  all_goals
    rw [h0] at p1
    have H0 := Lib.hid h0
    clear h0
  · subst hi0
    have e : ((⟨s.toArray⟩ : ByteArray) ++ ⟨D.toArray⟩ ++ ⟨#[46, 32]⟩) = ⟨s2.toArray⟩ := by rw [HS2.out, HK.out, H0.out, bytes_app s D, show (⟨#[46, 32]⟩ : ByteArray) = ⟨[46, 32].toArray⟩ from rfl, bytes_app]; simp
    have E := Lib.hid e
    clear e
    go_upto_region 13 with (go_at_call 42; refine (HD.out _).mono ?_; rintro e w1 ⟨rfl, hb1⟩; have q1 := (hb1.cell (p := ⟨w.heap.size, 1, none⟩) hSl2).trans p1)
    rw [E.out]
    clear q1 E
    clear p0 p1 p2 p3 p4 p5 t0 t1 t2 HD HK hDl HS2
    have hS3 := hS.trans hb1
    have HS3 := Lib.hid hS3
    have hSl3 := hS3.kP.lt
    obtain ⟨p0, p1, p2, p3, p4, p5, t0, t1, t2⟩ := keep90 hS3 HR2.out hilt (Below.refl _ _)
    have hpl : ∀ wx, Below w1.heap.size w1 wx → Calls Tryz.prog 12 #[chessV b off cap q, mvV (mvOf (trAt l 0))] wx (RetB (strV (plainL q (mvOf (trAt l 0)))) wx) := fun wx hb => by
      have hM := posM_of Hm.out
      obtain ⟨k1, k2, k3, k4⟩ := hM.mem _ HY.out.1
      exact plainWord_any b off cap q _ wx (HS3.out.brd.below hb HS3.out.brd.lt) hM.ok k1 k2 k3 k4 hM.king fun x hx => ⟨(hM.mem x hx).1, (hM.mem x hx).2.1⟩
    have hel : ∀ wx, Below w1.heap.size w1 wx → Calls Tryz.prog 13 #[chessV b off cap q, mvV (mvOf (trAt l 0))] wx (RetB (strV (endL q (mvOf (trAt l 0)))) wx) := fun wx hb => by
      have hM := posM_of Hm.out
      obtain ⟨k1, k2, k3, k4⟩ := hM.mem _ HY.out.1
      exact wordEnd_any b off cap q _ wx (HS3.out.brd.below hb HS3.out.brd.lt) hM.ok k1 k2 k3 k4 (hM.nextOk _ HY.out.1) (hM.nextKing _ HY.out.1) (hM.nextGo _ HY.out.1)
    have hdn : ∀ wx, Below w1.heap.size w1 wx → Calls Tryz.prog 32 #[chessV b off cap q, mvV (mvOf (trAt l 0))] wx fun e w' => ∃ g cq, e = .returned (chessV g 0 cq (doneR q (mvOf (trAt l 0)))) ∧ OwnB w' g (doneL q (mvOf (trAt l 0))) ∧ wx.heap.size ≤ g ∧ Below wx.heap.size wx w' := fun wx hb => by
      have hM := posM_of Hm.out
      obtain ⟨k1, k2, k3, k4⟩ := hM.mem _ HY.out.1
      have hP := hM.ok
      exact moveDone_any b off cap q _ wx (HS3.out.brd.below hb HS3.out.brd.lt) hP.turn hP.c0 hP.c1 hP.h0 hP.h1 hP.f0 hP.f1 (by have := hP.ep; omega) k1 k2 k3 k4
    unfold mvV chessV at hpl hel hdn
    rw [← HY.out.2.1, ← HY.out.2.2.1, ← HY.out.2.2.2] at hpl hel hdn
    unfold strV at hpl hel
    have hpll := plainL_le q (mvOf (trAt l 0))
    have hell := endL_le2 q (mvOf (trAt l 0))
    have hmay : MayP (doneR q (mvOf (trAt l 0))) := mayP_next Hm.out (mem_movesR.1 HY.out.1).1 (mem_movesR.1 HY.out.1).2
    have HMay := Lib.hid hmay
    have hwr : wordR q (mvOf (trAt l 0)) = plainL q (mvOf (trAt l 0)) ++ endL q (mvOf (trAt l 0)) := rfl
    rw [hwr] at Ht2
    have HPl := Lib.hid hpl
    have HEl := Lib.hid hel
    have HDn := Lib.hid hdn
    clear hpl hel hdn hmay hwr HY Hm hS hS3 hb1
    generalize plainL q (mvOf (trAt l 0)) = pl at *
    generalize endL q (mvOf (trAt l 0)) = el at *
    have hs1 : ¬ 9223372036854775807 < s2.length + pl.length := by omega
    have hs2 : ¬ 9223372036854775807 < s2.length + pl.length + el.length := by omega
    go_cut [6] from 21 to 61 (fun s6 wx => s6 = .string ⟨(s2 ++ (pl ++ el)).toArray⟩ ∧ Below w1.heap.size w1 wx)
    case first =>
      go_region_held3 (fun w' => w'.cell? ⟨w.heap.size, 0, none⟩ = some (.slice (some ⟨b, off, none⟩) 64 cap) ∧ w'.cell? ⟨w.heap.size, 1, none⟩ = some (.int .i64 q.turn) ∧ w'.cell? ⟨w.heap.size, 2, none⟩ = some (.int .i64 q.castle) ∧ w'.cell? ⟨w.heap.size, 3, none⟩ = some (.int .i64 q.ep) ∧
        w'.cell? ⟨w.heap.size, 4, none⟩ = some (.int .i64 q.half) ∧ w'.cell? ⟨w.heap.size, 5, none⟩ = some (.int .i64 q.full) ∧
        w'.cell? ⟨b', o', none⟩ = some (.int .i64 (trAt l 0).1) ∧ w'.cell? ⟨b', o' + 1, none⟩ = some (.int .i64 (trAt l 0).2.1) ∧ w'.cell? ⟨b', o' + 2, none⟩ = some (.int .i64 (trAt l 0).2.2))
        (first | exact keep90 HS3.out HR2.out hilt (((Below.refl w1.heap.size w1).drew.trans hb2).trans (hb3.mono hb2.size)) | exact keep90 HS3.out HR2.out hilt ((Below.refl w1.heap.size w1).drew.trans hb2) | exact keep90 HS3.out HR2.out hilt ((Below.refl w1.heap.size w1).drew) | go_keep)
        (first
          | (go_at_call 12; refine (HPl.out _ ((Below.refl w1.heap.size w1).drew)).mono ?_; rintro e w2 ⟨rfl, hb2⟩)
          | (go_at_call 13; refine (HEl.out _ ((Below.refl w1.heap.size w1).drew.trans hb2)).mono ?_; rintro e w3 ⟨rfl, hb3⟩))
      all_goals
        go_wp2
        go_meet
        exact ⟨congrArg Value.string (by rw [bytes_app s2 pl, bytes_app, List.append_assoc]), ((Below.refl w1.heap.size w1).drew.trans hb2).trans (hb3.mono hb2.size)⟩
    case rest =>
    obtain ⟨rfl, hb2⟩ := hcut
    clear p0 p1 p2 p3 p4 p5 t0 t1 t2 HPl HEl
    have hS4 := HS3.out.trans hb2
    have hdn2 := HDn.out _ (hb2.trans ((Below.refl wc.heap.size wc).drew.mono hb2.size))
    have HD2 := Lib.hid hdn2
    have HS4 := Lib.hid hS4
    obtain ⟨p0, p1, p2, p3, p4, p5, t0, t1, t2⟩ := keep90 hS4 HR2.out hilt (Below.refl _ _)
    have hSl4 := hS4.kP.lt
    clear hdn2 HDn hS4 HS3 hb2 hs1 hs2
    go_upto_region 14 with fail
    refine wp_still_tail_drew 5 (by kernel_rfl) (by kernel_rfl) ?_
    rintro _ rfl
    simp only [List.take_succ_cons, List.take_zero, List.drop_succ_cons, List.drop_zero]
    repeat still_step
    refine wpStill_nil ?_
    go_wp2_with (go_at_call 32; refine HD2.out.mono ?_; rintro e w4 ⟨g, cq, rfl, hown, hgl, hb4⟩; have hK4 := HS4.out.kP.below ((Below.refl _ _).drew.trans hb4) HS4.out.kP.lt; have f0 := hK4.free 0; have f1 := hK4.free 1; have f2 := hK4.free 2; have f3 := hK4.free 3; have f4 := hK4.free 4; have f5 := hK4.free 5; have c0 := hK4.cell (o := 0) rfl; have c1 := hK4.cell (o := 1) rfl; have c2 := hK4.cell (o := 2) rfl; have c3 := hK4.cell (o := 3) rfl; have c4 := hK4.cell (o := 4) rfl; have c5 := hK4.cell (o := 5) rfl)
    have hb5 : Below w.heap.size w w4 := HS4.out.below.trans ((Below.refl wc.heap.size wc).drew.trans hb4 |>.mono HS4.out.below.size)
    have hg1 : g ≠ w.heap.size := by have h1 : wc.heap.size ≤ g := hgl; omega
    have hS5 := (HS4.out.trans ((Below.refl wc.heap.size wc).drew.trans hb4)).put (g := g) (c := cq) (q' := doneR q (mvOf (trAt l 0))) (hown.brd HMay.out.ok.bd) hg1
    go_roundg (l.length - (0 + 1))
    case measure => have := Hg.out; omega
    case rel => exact ⟨0 + 1, s2 ++ (pl ++ el), doneR q (mvOf (trAt l 0)), g, 0, cq, by omega, rfl, by go_num, rfl, by rw [List.length_append, List.length_append]; omega, hS5, HMay.out, by rw [show (0 + 1 == 0) = false from beq_eq_false_iff_ne.2 (by omega)]; exact Ht2.out⟩
  · have hi1 : (0 : Int) < i := by omega
    have e : ((⟨s.toArray⟩ : ByteArray) ++ ⟨#[32]⟩ ++ ⟨D.toArray⟩ ++ ⟨#[46, 32]⟩) = ⟨s2.toArray⟩ := by rw [HS2.out, HK.out, H0.out, show (i == 0) = false from beq_eq_false_iff_ne.2 (by omega), show (⟨#[46, 32]⟩ : ByteArray) = ⟨[46, 32].toArray⟩ from rfl, show (⟨#[32]⟩ : ByteArray) = ⟨[32].toArray⟩ from rfl, bytes_app, bytes_app, bytes_app]; simp
    have E := Lib.hid e
    clear hi0 e
    go_upto_region 13 with (go_at_call 42; refine (HD.out _).mono ?_; rintro e w1 ⟨rfl, hb1⟩; have q1 := (hb1.cell (p := ⟨w.heap.size, 1, none⟩) hSl2).trans p1)
    rw [E.out]
    clear q1 E hi1
    clear p0 p1 p2 p3 p4 p5 t0 t1 t2 HD HK hDl HS2
    have hS3 := hS.trans hb1
    have HS3 := Lib.hid hS3
    have hSl3 := hS3.kP.lt
    obtain ⟨p0, p1, p2, p3, p4, p5, t0, t1, t2⟩ := keep9 hS3 HR2.out hilt (Below.refl _ _)
    have hpl : ∀ wx, Below w1.heap.size w1 wx → Calls Tryz.prog 12 #[chessV b off cap q, mvV (mvOf (trAt l i))] wx (RetB (strV (plainL q (mvOf (trAt l i)))) wx) := fun wx hb => by
      have hM := posM_of Hm.out
      obtain ⟨k1, k2, k3, k4⟩ := hM.mem _ HY.out.1
      exact plainWord_any b off cap q _ wx (HS3.out.brd.below hb HS3.out.brd.lt) hM.ok k1 k2 k3 k4 hM.king fun x hx => ⟨(hM.mem x hx).1, (hM.mem x hx).2.1⟩
    have hel : ∀ wx, Below w1.heap.size w1 wx → Calls Tryz.prog 13 #[chessV b off cap q, mvV (mvOf (trAt l i))] wx (RetB (strV (endL q (mvOf (trAt l i)))) wx) := fun wx hb => by
      have hM := posM_of Hm.out
      obtain ⟨k1, k2, k3, k4⟩ := hM.mem _ HY.out.1
      exact wordEnd_any b off cap q _ wx (HS3.out.brd.below hb HS3.out.brd.lt) hM.ok k1 k2 k3 k4 (hM.nextOk _ HY.out.1) (hM.nextKing _ HY.out.1) (hM.nextGo _ HY.out.1)
    have hdn : ∀ wx, Below w1.heap.size w1 wx → Calls Tryz.prog 32 #[chessV b off cap q, mvV (mvOf (trAt l i))] wx fun e w' => ∃ g cq, e = .returned (chessV g 0 cq (doneR q (mvOf (trAt l i)))) ∧ OwnB w' g (doneL q (mvOf (trAt l i))) ∧ wx.heap.size ≤ g ∧ Below wx.heap.size wx w' := fun wx hb => by
      have hM := posM_of Hm.out
      obtain ⟨k1, k2, k3, k4⟩ := hM.mem _ HY.out.1
      have hP := hM.ok
      exact moveDone_any b off cap q _ wx (HS3.out.brd.below hb HS3.out.brd.lt) hP.turn hP.c0 hP.c1 hP.h0 hP.h1 hP.f0 hP.f1 (by have := hP.ep; omega) k1 k2 k3 k4
    unfold mvV chessV at hpl hel hdn
    rw [← HY.out.2.1, ← HY.out.2.2.1, ← HY.out.2.2.2] at hpl hel hdn
    unfold strV at hpl hel
    have hpll := plainL_le q (mvOf (trAt l i))
    have hell := endL_le2 q (mvOf (trAt l i))
    have hmay : MayP (doneR q (mvOf (trAt l i))) := mayP_next Hm.out (mem_movesR.1 HY.out.1).1 (mem_movesR.1 HY.out.1).2
    have HMay := Lib.hid hmay
    have hwr : wordR q (mvOf (trAt l i)) = plainL q (mvOf (trAt l i)) ++ endL q (mvOf (trAt l i)) := rfl
    rw [hwr] at Ht2
    have HPl := Lib.hid hpl
    have HEl := Lib.hid hel
    have HDn := Lib.hid hdn
    clear hpl hel hdn hmay hwr HY Hm hS hS3 hb1
    generalize plainL q (mvOf (trAt l i)) = pl at *
    generalize endL q (mvOf (trAt l i)) = el at *
    have hs1 : ¬ 9223372036854775807 < s2.length + pl.length := by omega
    have hs2 : ¬ 9223372036854775807 < s2.length + pl.length + el.length := by omega
    go_cut [6] from 21 to 61 (fun s6 wx => s6 = .string ⟨(s2 ++ (pl ++ el)).toArray⟩ ∧ Below w1.heap.size w1 wx)
    case first =>
      go_region_held3 (fun w' => w'.cell? ⟨w.heap.size, 0, none⟩ = some (.slice (some ⟨b, off, none⟩) 64 cap) ∧ w'.cell? ⟨w.heap.size, 1, none⟩ = some (.int .i64 q.turn) ∧ w'.cell? ⟨w.heap.size, 2, none⟩ = some (.int .i64 q.castle) ∧ w'.cell? ⟨w.heap.size, 3, none⟩ = some (.int .i64 q.ep) ∧
        w'.cell? ⟨w.heap.size, 4, none⟩ = some (.int .i64 q.half) ∧ w'.cell? ⟨w.heap.size, 5, none⟩ = some (.int .i64 q.full) ∧
        w'.cell? ⟨b', o' + i * 3, none⟩ = some (.int .i64 (trAt l i).1) ∧ w'.cell? ⟨b', o' + i * 3 + 1, none⟩ = some (.int .i64 (trAt l i).2.1) ∧ w'.cell? ⟨b', o' + i * 3 + 2, none⟩ = some (.int .i64 (trAt l i).2.2))
        (first | exact keep9 HS3.out HR2.out hilt (((Below.refl w1.heap.size w1).drew.trans hb2).trans (hb3.mono hb2.size)) | exact keep9 HS3.out HR2.out hilt ((Below.refl w1.heap.size w1).drew.trans hb2) | exact keep9 HS3.out HR2.out hilt ((Below.refl w1.heap.size w1).drew) | go_keep)
        (first
          | (go_at_call 12; refine (HPl.out _ ((Below.refl w1.heap.size w1).drew)).mono ?_; rintro e w2 ⟨rfl, hb2⟩)
          | (go_at_call 13; refine (HEl.out _ ((Below.refl w1.heap.size w1).drew.trans hb2)).mono ?_; rintro e w3 ⟨rfl, hb3⟩))
      all_goals
        go_wp2
        go_meet
        exact ⟨congrArg Value.string (by rw [bytes_app s2 pl, bytes_app, List.append_assoc]), ((Below.refl w1.heap.size w1).drew.trans hb2).trans (hb3.mono hb2.size)⟩
    case rest =>
    obtain ⟨rfl, hb2⟩ := hcut
    clear p0 p1 p2 p3 p4 p5 t0 t1 t2 HPl HEl
    have hS4 := HS3.out.trans hb2
    have hdn2 := HDn.out _ (hb2.trans ((Below.refl wc.heap.size wc).drew.mono hb2.size))
    have HD2 := Lib.hid hdn2
    have HS4 := Lib.hid hS4
    obtain ⟨p0, p1, p2, p3, p4, p5, t0, t1, t2⟩ := keep9 hS4 HR2.out hilt (Below.refl _ _)
    have hSl4 := hS4.kP.lt
    clear hdn2 HDn hS4 HS3 hb2 hs1 hs2
    go_upto_region 14 with fail
    refine wp_still_tail_drew 5 (by kernel_rfl) (by kernel_rfl) ?_
    rintro _ rfl
    simp only [List.take_succ_cons, List.take_zero, List.drop_succ_cons, List.drop_zero]
    repeat still_step
    refine wpStill_nil ?_
    go_wp2_with (go_at_call 32; refine HD2.out.mono ?_; rintro e w4 ⟨g, cq, rfl, hown, hgl, hb4⟩; have hK4 := HS4.out.kP.below ((Below.refl _ _).drew.trans hb4) HS4.out.kP.lt; have f0 := hK4.free 0; have f1 := hK4.free 1; have f2 := hK4.free 2; have f3 := hK4.free 3; have f4 := hK4.free 4; have f5 := hK4.free 5; have c0 := hK4.cell (o := 0) rfl; have c1 := hK4.cell (o := 1) rfl; have c2 := hK4.cell (o := 2) rfl; have c3 := hK4.cell (o := 3) rfl; have c4 := hK4.cell (o := 4) rfl; have c5 := hK4.cell (o := 5) rfl)
    have hb5 : Below w.heap.size w w4 := HS4.out.below.trans ((Below.refl wc.heap.size wc).drew.trans hb4 |>.mono HS4.out.below.size)
    have hg1 : g ≠ w.heap.size := by have h1 : wc.heap.size ≤ g := hgl; omega
    have hS5 := (HS4.out.trans ((Below.refl wc.heap.size wc).drew.trans hb4)).put (g := g) (c := cq) (q' := doneR q (mvOf (trAt l i))) (hown.brd HMay.out.ok.bd) hg1
    go_roundg (l.length - (i + 1))
    case measure => have := Hg.out; omega
    case rel => exact ⟨i + 1, s2 ++ (pl ++ el), doneR q (mvOf (trAt l i)), g, 0, cq, by omega, rfl, by go_num, rfl, by rw [List.length_append, List.length_append]; omega, hS5, HMay.out, by rw [show (i + 1 == 0) = false from beq_eq_false_iff_ne.2 (by omega)]; exact Ht2.out⟩
  · subst hi0
    have e : ((⟨s.toArray⟩ : ByteArray) ++ ⟨D.toArray⟩ ++ ⟨#[46, 46, 46, 32]⟩) = ⟨s2.toArray⟩ := by rw [HS2.out, HK.out, H0.out, bytes_app s D, show (⟨#[46, 46, 46, 32]⟩ : ByteArray) = ⟨[46, 46, 46, 32].toArray⟩ from rfl, bytes_app]; simp
    have E := Lib.hid e
    clear e
    go_upto_region 13 with (go_at_call 42; refine (HD.out _).mono ?_; rintro e w1 ⟨rfl, hb1⟩)
    rw [E.out]
    clear E
    clear p0 p1 p2 p3 p4 p5 t0 t1 t2 HD HK hDl HS2
    have hS3 := hS.trans hb1
    have HS3 := Lib.hid hS3
    have hSl3 := hS3.kP.lt
    obtain ⟨p0, p1, p2, p3, p4, p5, t0, t1, t2⟩ := keep90 hS3 HR2.out hilt (Below.refl _ _)
    have hpl : ∀ wx, Below w1.heap.size w1 wx → Calls Tryz.prog 12 #[chessV b off cap q, mvV (mvOf (trAt l 0))] wx (RetB (strV (plainL q (mvOf (trAt l 0)))) wx) := fun wx hb => by
      have hM := posM_of Hm.out
      obtain ⟨k1, k2, k3, k4⟩ := hM.mem _ HY.out.1
      exact plainWord_any b off cap q _ wx (HS3.out.brd.below hb HS3.out.brd.lt) hM.ok k1 k2 k3 k4 hM.king fun x hx => ⟨(hM.mem x hx).1, (hM.mem x hx).2.1⟩
    have hel : ∀ wx, Below w1.heap.size w1 wx → Calls Tryz.prog 13 #[chessV b off cap q, mvV (mvOf (trAt l 0))] wx (RetB (strV (endL q (mvOf (trAt l 0)))) wx) := fun wx hb => by
      have hM := posM_of Hm.out
      obtain ⟨k1, k2, k3, k4⟩ := hM.mem _ HY.out.1
      exact wordEnd_any b off cap q _ wx (HS3.out.brd.below hb HS3.out.brd.lt) hM.ok k1 k2 k3 k4 (hM.nextOk _ HY.out.1) (hM.nextKing _ HY.out.1) (hM.nextGo _ HY.out.1)
    have hdn : ∀ wx, Below w1.heap.size w1 wx → Calls Tryz.prog 32 #[chessV b off cap q, mvV (mvOf (trAt l 0))] wx fun e w' => ∃ g cq, e = .returned (chessV g 0 cq (doneR q (mvOf (trAt l 0)))) ∧ OwnB w' g (doneL q (mvOf (trAt l 0))) ∧ wx.heap.size ≤ g ∧ Below wx.heap.size wx w' := fun wx hb => by
      have hM := posM_of Hm.out
      obtain ⟨k1, k2, k3, k4⟩ := hM.mem _ HY.out.1
      have hP := hM.ok
      exact moveDone_any b off cap q _ wx (HS3.out.brd.below hb HS3.out.brd.lt) hP.turn hP.c0 hP.c1 hP.h0 hP.h1 hP.f0 hP.f1 (by have := hP.ep; omega) k1 k2 k3 k4
    unfold mvV chessV at hpl hel hdn
    rw [← HY.out.2.1, ← HY.out.2.2.1, ← HY.out.2.2.2] at hpl hel hdn
    unfold strV at hpl hel
    have hpll := plainL_le q (mvOf (trAt l 0))
    have hell := endL_le2 q (mvOf (trAt l 0))
    have hmay : MayP (doneR q (mvOf (trAt l 0))) := mayP_next Hm.out (mem_movesR.1 HY.out.1).1 (mem_movesR.1 HY.out.1).2
    have HMay := Lib.hid hmay
    have hwr : wordR q (mvOf (trAt l 0)) = plainL q (mvOf (trAt l 0)) ++ endL q (mvOf (trAt l 0)) := rfl
    rw [hwr] at Ht2
    have HPl := Lib.hid hpl
    have HEl := Lib.hid hel
    have HDn := Lib.hid hdn
    clear hpl hel hdn hmay hwr HY Hm hS hS3 hb1
    generalize plainL q (mvOf (trAt l 0)) = pl at *
    generalize endL q (mvOf (trAt l 0)) = el at *
    have hs1 : ¬ 9223372036854775807 < s2.length + pl.length := by omega
    have hs2 : ¬ 9223372036854775807 < s2.length + pl.length + el.length := by omega
    go_cut [6] from 21 to 61 (fun s6 wx => s6 = .string ⟨(s2 ++ (pl ++ el)).toArray⟩ ∧ Below w1.heap.size w1 wx)
    case first =>
      go_region_held3 (fun w' => w'.cell? ⟨w.heap.size, 0, none⟩ = some (.slice (some ⟨b, off, none⟩) 64 cap) ∧ w'.cell? ⟨w.heap.size, 1, none⟩ = some (.int .i64 q.turn) ∧ w'.cell? ⟨w.heap.size, 2, none⟩ = some (.int .i64 q.castle) ∧ w'.cell? ⟨w.heap.size, 3, none⟩ = some (.int .i64 q.ep) ∧
        w'.cell? ⟨w.heap.size, 4, none⟩ = some (.int .i64 q.half) ∧ w'.cell? ⟨w.heap.size, 5, none⟩ = some (.int .i64 q.full) ∧
        w'.cell? ⟨b', o', none⟩ = some (.int .i64 (trAt l 0).1) ∧ w'.cell? ⟨b', o' + 1, none⟩ = some (.int .i64 (trAt l 0).2.1) ∧ w'.cell? ⟨b', o' + 2, none⟩ = some (.int .i64 (trAt l 0).2.2))
        (first | exact keep90 HS3.out HR2.out hilt (((Below.refl w1.heap.size w1).drew.trans hb2).trans (hb3.mono hb2.size)) | exact keep90 HS3.out HR2.out hilt ((Below.refl w1.heap.size w1).drew.trans hb2) | exact keep90 HS3.out HR2.out hilt ((Below.refl w1.heap.size w1).drew) | go_keep)
        (first
          | (go_at_call 12; refine (HPl.out _ ((Below.refl w1.heap.size w1).drew)).mono ?_; rintro e w2 ⟨rfl, hb2⟩)
          | (go_at_call 13; refine (HEl.out _ ((Below.refl w1.heap.size w1).drew.trans hb2)).mono ?_; rintro e w3 ⟨rfl, hb3⟩))
      all_goals
        go_wp2
        go_meet
        exact ⟨congrArg Value.string (by rw [bytes_app s2 pl, bytes_app, List.append_assoc]), ((Below.refl w1.heap.size w1).drew.trans hb2).trans (hb3.mono hb2.size)⟩
    case rest =>
    obtain ⟨rfl, hb2⟩ := hcut
    clear p0 p1 p2 p3 p4 p5 t0 t1 t2 HPl HEl
    have hS4 := HS3.out.trans hb2
    have hdn2 := HDn.out _ (hb2.trans ((Below.refl wc.heap.size wc).drew.mono hb2.size))
    have HD2 := Lib.hid hdn2
    have HS4 := Lib.hid hS4
    obtain ⟨p0, p1, p2, p3, p4, p5, t0, t1, t2⟩ := keep90 hS4 HR2.out hilt (Below.refl _ _)
    have hSl4 := hS4.kP.lt
    clear hdn2 HDn hS4 HS3 hb2 hs1 hs2
    go_upto_region 14 with fail
    refine wp_still_tail_drew 5 (by kernel_rfl) (by kernel_rfl) ?_
    rintro _ rfl
    simp only [List.take_succ_cons, List.take_zero, List.drop_succ_cons, List.drop_zero]
    repeat still_step
    refine wpStill_nil ?_
    go_wp2_with (go_at_call 32; refine HD2.out.mono ?_; rintro e w4 ⟨g, cq, rfl, hown, hgl, hb4⟩; have hK4 := HS4.out.kP.below ((Below.refl _ _).drew.trans hb4) HS4.out.kP.lt; have f0 := hK4.free 0; have f1 := hK4.free 1; have f2 := hK4.free 2; have f3 := hK4.free 3; have f4 := hK4.free 4; have f5 := hK4.free 5; have c0 := hK4.cell (o := 0) rfl; have c1 := hK4.cell (o := 1) rfl; have c2 := hK4.cell (o := 2) rfl; have c3 := hK4.cell (o := 3) rfl; have c4 := hK4.cell (o := 4) rfl; have c5 := hK4.cell (o := 5) rfl)
    have hb5 : Below w.heap.size w w4 := HS4.out.below.trans ((Below.refl wc.heap.size wc).drew.trans hb4 |>.mono HS4.out.below.size)
    have hg1 : g ≠ w.heap.size := by have h1 : wc.heap.size ≤ g := hgl; omega
    have hS5 := (HS4.out.trans ((Below.refl wc.heap.size wc).drew.trans hb4)).put (g := g) (c := cq) (q' := doneR q (mvOf (trAt l 0))) (hown.brd HMay.out.ok.bd) hg1
    go_roundg (l.length - (0 + 1))
    case measure => have := Hg.out; omega
    case rel => exact ⟨0 + 1, s2 ++ (pl ++ el), doneR q (mvOf (trAt l 0)), g, 0, cq, by omega, rfl, by go_num, rfl, by rw [List.length_append, List.length_append]; omega, hS5, HMay.out, by rw [show (0 + 1 == 0) = false from beq_eq_false_iff_ne.2 (by omega)]; exact Ht2.out⟩
  · have hi1 : (0 : Int) < i := by omega
    have e : ((⟨s.toArray⟩ : ByteArray) ++ ⟨#[32]⟩) = ⟨s2.toArray⟩ := by rw [HS2.out, HK.out, H0.out, show (i == 0) = false from beq_eq_false_iff_ne.2 (by omega), show (⟨#[32]⟩ : ByteArray) = ⟨[32].toArray⟩ from rfl, bytes_app]; simp
    have E := Lib.hid e
    clear hi0 e
    go_upto_region 13 with fail
    rw [E.out]
    clear E hi1
    obtain ⟨w1, hw1, hb1⟩ : ∃ w1, wc = w1 ∧ Below wc.heap.size wc w1 := ⟨wc, rfl, Below.refl _ _⟩
    rw [hw1]
    clear hw1
    clear p0 p1 p2 p3 p4 p5 t0 t1 t2 HD HK hDl HS2
    have hS3 := hS.trans hb1
    have HS3 := Lib.hid hS3
    have hSl3 := hS3.kP.lt
    obtain ⟨p0, p1, p2, p3, p4, p5, t0, t1, t2⟩ := keep9 hS3 HR2.out hilt (Below.refl _ _)
    have hpl : ∀ wx, Below w1.heap.size w1 wx → Calls Tryz.prog 12 #[chessV b off cap q, mvV (mvOf (trAt l i))] wx (RetB (strV (plainL q (mvOf (trAt l i)))) wx) := fun wx hb => by
      have hM := posM_of Hm.out
      obtain ⟨k1, k2, k3, k4⟩ := hM.mem _ HY.out.1
      exact plainWord_any b off cap q _ wx (HS3.out.brd.below hb HS3.out.brd.lt) hM.ok k1 k2 k3 k4 hM.king fun x hx => ⟨(hM.mem x hx).1, (hM.mem x hx).2.1⟩
    have hel : ∀ wx, Below w1.heap.size w1 wx → Calls Tryz.prog 13 #[chessV b off cap q, mvV (mvOf (trAt l i))] wx (RetB (strV (endL q (mvOf (trAt l i)))) wx) := fun wx hb => by
      have hM := posM_of Hm.out
      obtain ⟨k1, k2, k3, k4⟩ := hM.mem _ HY.out.1
      exact wordEnd_any b off cap q _ wx (HS3.out.brd.below hb HS3.out.brd.lt) hM.ok k1 k2 k3 k4 (hM.nextOk _ HY.out.1) (hM.nextKing _ HY.out.1) (hM.nextGo _ HY.out.1)
    have hdn : ∀ wx, Below w1.heap.size w1 wx → Calls Tryz.prog 32 #[chessV b off cap q, mvV (mvOf (trAt l i))] wx fun e w' => ∃ g cq, e = .returned (chessV g 0 cq (doneR q (mvOf (trAt l i)))) ∧ OwnB w' g (doneL q (mvOf (trAt l i))) ∧ wx.heap.size ≤ g ∧ Below wx.heap.size wx w' := fun wx hb => by
      have hM := posM_of Hm.out
      obtain ⟨k1, k2, k3, k4⟩ := hM.mem _ HY.out.1
      have hP := hM.ok
      exact moveDone_any b off cap q _ wx (HS3.out.brd.below hb HS3.out.brd.lt) hP.turn hP.c0 hP.c1 hP.h0 hP.h1 hP.f0 hP.f1 (by have := hP.ep; omega) k1 k2 k3 k4
    unfold mvV chessV at hpl hel hdn
    rw [← HY.out.2.1, ← HY.out.2.2.1, ← HY.out.2.2.2] at hpl hel hdn
    unfold strV at hpl hel
    have hpll := plainL_le q (mvOf (trAt l i))
    have hell := endL_le2 q (mvOf (trAt l i))
    have hmay : MayP (doneR q (mvOf (trAt l i))) := mayP_next Hm.out (mem_movesR.1 HY.out.1).1 (mem_movesR.1 HY.out.1).2
    have HMay := Lib.hid hmay
    have hwr : wordR q (mvOf (trAt l i)) = plainL q (mvOf (trAt l i)) ++ endL q (mvOf (trAt l i)) := rfl
    rw [hwr] at Ht2
    have HPl := Lib.hid hpl
    have HEl := Lib.hid hel
    have HDn := Lib.hid hdn
    clear hpl hel hdn hmay hwr HY Hm hS hS3 hb1
    generalize plainL q (mvOf (trAt l i)) = pl at *
    generalize endL q (mvOf (trAt l i)) = el at *
    have hs1 : ¬ 9223372036854775807 < s2.length + pl.length := by omega
    have hs2 : ¬ 9223372036854775807 < s2.length + pl.length + el.length := by omega
    go_cut [6] from 21 to 61 (fun s6 wx => s6 = .string ⟨(s2 ++ (pl ++ el)).toArray⟩ ∧ Below w1.heap.size w1 wx)
    case first =>
      go_region_held3 (fun w' => w'.cell? ⟨w.heap.size, 0, none⟩ = some (.slice (some ⟨b, off, none⟩) 64 cap) ∧ w'.cell? ⟨w.heap.size, 1, none⟩ = some (.int .i64 q.turn) ∧ w'.cell? ⟨w.heap.size, 2, none⟩ = some (.int .i64 q.castle) ∧ w'.cell? ⟨w.heap.size, 3, none⟩ = some (.int .i64 q.ep) ∧
        w'.cell? ⟨w.heap.size, 4, none⟩ = some (.int .i64 q.half) ∧ w'.cell? ⟨w.heap.size, 5, none⟩ = some (.int .i64 q.full) ∧
        w'.cell? ⟨b', o' + i * 3, none⟩ = some (.int .i64 (trAt l i).1) ∧ w'.cell? ⟨b', o' + i * 3 + 1, none⟩ = some (.int .i64 (trAt l i).2.1) ∧ w'.cell? ⟨b', o' + i * 3 + 2, none⟩ = some (.int .i64 (trAt l i).2.2))
        (first | exact keep9 HS3.out HR2.out hilt (((Below.refl w1.heap.size w1).drew.trans hb2).trans (hb3.mono hb2.size)) | exact keep9 HS3.out HR2.out hilt ((Below.refl w1.heap.size w1).drew.trans hb2) | exact keep9 HS3.out HR2.out hilt ((Below.refl w1.heap.size w1).drew) | go_keep)
        (first
          | (go_at_call 12; refine (HPl.out _ ((Below.refl w1.heap.size w1).drew)).mono ?_; rintro e w2 ⟨rfl, hb2⟩)
          | (go_at_call 13; refine (HEl.out _ ((Below.refl w1.heap.size w1).drew.trans hb2)).mono ?_; rintro e w3 ⟨rfl, hb3⟩))
      all_goals
        go_wp2
        go_meet
        exact ⟨congrArg Value.string (by rw [bytes_app s2 pl, bytes_app, List.append_assoc]), ((Below.refl w1.heap.size w1).drew.trans hb2).trans (hb3.mono hb2.size)⟩
    case rest =>
    obtain ⟨rfl, hb2⟩ := hcut
    clear p0 p1 p2 p3 p4 p5 t0 t1 t2 HPl HEl
    have hS4 := HS3.out.trans hb2
    have hdn2 := HDn.out _ (hb2.trans ((Below.refl wc.heap.size wc).drew.mono hb2.size))
    have HD2 := Lib.hid hdn2
    have HS4 := Lib.hid hS4
    obtain ⟨p0, p1, p2, p3, p4, p5, t0, t1, t2⟩ := keep9 hS4 HR2.out hilt (Below.refl _ _)
    have hSl4 := hS4.kP.lt
    clear hdn2 HDn hS4 HS3 hb2 hs1 hs2
    go_upto_region 14 with fail
    refine wp_still_tail_drew 5 (by kernel_rfl) (by kernel_rfl) ?_
    rintro _ rfl
    simp only [List.take_succ_cons, List.take_zero, List.drop_succ_cons, List.drop_zero]
    repeat still_step
    refine wpStill_nil ?_
    go_wp2_with (go_at_call 32; refine HD2.out.mono ?_; rintro e w4 ⟨g, cq, rfl, hown, hgl, hb4⟩; have hK4 := HS4.out.kP.below ((Below.refl _ _).drew.trans hb4) HS4.out.kP.lt; have f0 := hK4.free 0; have f1 := hK4.free 1; have f2 := hK4.free 2; have f3 := hK4.free 3; have f4 := hK4.free 4; have f5 := hK4.free 5; have c0 := hK4.cell (o := 0) rfl; have c1 := hK4.cell (o := 1) rfl; have c2 := hK4.cell (o := 2) rfl; have c3 := hK4.cell (o := 3) rfl; have c4 := hK4.cell (o := 4) rfl; have c5 := hK4.cell (o := 5) rfl)
    have hb5 : Below w.heap.size w w4 := HS4.out.below.trans ((Below.refl wc.heap.size wc).drew.trans hb4 |>.mono HS4.out.below.size)
    have hg1 : g ≠ w.heap.size := by have h1 : wc.heap.size ≤ g := hgl; omega
    have hS5 := (HS4.out.trans ((Below.refl wc.heap.size wc).drew.trans hb4)).put (g := g) (c := cq) (q' := doneR q (mvOf (trAt l i))) (hown.brd HMay.out.ok.bd) hg1
    go_roundg (l.length - (i + 1))
    case measure => have := Hg.out; omega
    case rel => exact ⟨i + 1, s2 ++ (pl ++ el), doneR q (mvOf (trAt l i)), g, 0, cq, by omega, rfl, by go_num, rfl, by rw [List.length_append, List.length_append]; omega, hS5, HMay.out, by rw [show (i + 1 == 0) = false from beq_eq_false_iff_ne.2 (by omega)]; exact Ht2.out⟩

end Go.Proofs.YthffhhbbhjcdeaaGreatDoor
namespace Go.Proofs.YthffhhbbhjcdeaaGreatDoor
open Go.RowKit
set_option maxRecDepth 100000

theorem row_below {w w1 : World} {B sz n : Nat} {e : TypeId} {v : Value} {xs : List Value} (h : w.ownsRow B e sz v n xs) (hb : Below w.heap.size w w1) : w1.ownsRow B e sz v n xs :=
  h.kept (row := none) ⟨hb.os, hb.tape, hb.output, hb.size, fun k hk _ => hb.block k hk⟩ (Classical.em _)

structure GB (w wx : World) (K B b off cap : Nat) (q : Pos) (e : TypeId) (sz : Nat) (v : Value) (n : Nat) (xs : List Value) : Prop where
  pb : PB w wx K b off cap q
  own : wx.ownsRow B e sz v n xs
  free : ∀ k, v.ownBlock = some k → k ≠ b
  kb : K < B
  bs : B ≤ wx.heap.size
section
variable {w wx w1 : World} {K B b off cap : Nat} {q : Pos} {e : TypeId} {sz : Nat} {v : Value} {n : Nat} {xs : List Value}
theorem GB.trans (h : GB w wx K B b off cap q e sz v n xs) (hb : Below wx.heap.size wx w1) : GB w w1 K B b off cap q e sz v n xs :=
  ⟨h.pb.trans hb, row_below h.own hb, h.free, h.kb, Nat.le_trans h.bs hb.size⟩
theorem GB.lt (h : GB w wx K B b off cap q e sz v n xs) : w.heap.size < B := Nat.lt_of_le_of_lt h.pb.base h.kb
/-- The row grows. -/
theorem GB.app (h : GB w wx K B b off cap q e sz v n xs) {v' : Value} {n' : Nat} {xs' : List Value} (hown : w1.ownsRow B e sz v' n' xs') (hg : wx.grownBy w1 v.ownBlock) (hat : v'.ownBlock = v.ownBlock ∨ v'.ownBlock = some wx.heap.size) :
    GB w w1 K B b off cap q e sz v' n' xs' := by
  have hlt : ∀ k, v.ownBlock = some k → B ≤ k ∧ k < wx.heap.size := h.own.lt
  have hkb := h.kb
  have hbs := h.bs
  have hbl := h.pb.brd.lt
  have hbase := h.pb.base
  have hfree := h.free
  have hkK : wx.heap[K]? = wx.heap[K]? := rfl
  have hnK : some K ≠ v.ownBlock := fun he => by have := hlt _ he.symm; omega
  have hnb : some b ≠ v.ownBlock := fun he => hfree _ he.symm rfl
  have hbb : w1.heap[b]? = wx.heap[b]? := hg.block b hbl hnb
  refine ⟨⟨h.pb.kP.of_heap (hg.block K (by omega) hnK), ⟨Nat.lt_of_lt_of_le hbl hg.size, fun i hi => (World.cell?_of_block (a := ⟨b, off + i, none⟩) hbb).trans (h.pb.brd.cell i hi), h.pb.brd.bd⟩, h.pb.sep, h.pb.base, ?_⟩, hown, ?_, h.kb, Nat.le_trans h.bs hg.size⟩
  · exact h.pb.below.grown hg (by omega) fun k hk => by have := hlt k hk; omega
  · intro k hk
    rcases hat with he | he
    · exact hfree k (he ▸ hk)
    · rw [he] at hk
      cases hk
      omega
/-- Another position is laid in the box. -/
theorem GB.put (h : GB w wx K B b off cap q e sz v n xs) (hb : Below wx.heap.size wx w1) {g c : Nat} {q' : Pos} (hbr : Brd w1 g 0 q'.L) (hgl : wx.heap.size ≤ g) :
    GB w ((((((w1.setCell ⟨K, 0, none⟩ (.slice (some ⟨g, 0, none⟩) 64 c)).setCell ⟨K, 1, none⟩ (.int .i64 q'.turn)).setCell ⟨K, 2, none⟩ (.int .i64 q'.castle)).setCell ⟨K, 3, none⟩ (.int .i64 q'.ep)).setCell ⟨K, 4, none⟩ (.int .i64 q'.half)).setCell ⟨K, 5, none⟩ (.int .i64 q'.full)) K B g 0 c q' e sz v n xs := by
  have hK := h.pb.kP.lt
  refine ⟨(h.pb.trans hb).put hbr (by omega), ?_, fun k hk => ?_, h.kb, ?_⟩
  · have hkb := h.kb
    iterate 6 refine ownsRow_setCell_below ?_ hkb _
    exact row_below h.own hb
  · have := h.own.lt k hk
    omega
  · have := h.bs
    have := hb.size
    simp
    omega
end

/-- A row of words that lies still. -/
def WRow (wx : World) (K B : Nat) (a : Option Addr) (L : List (List UInt8)) : Prop := L.length = 0 ∨ ∃ wb, a = some ⟨wb, 0, none⟩ ∧ wb ≠ K ∧ wb < B ∧ ∀ j, j < L.length → wx.cell? ⟨wb, j, none⟩ = some (strV (L.getD j []))
section
variable {w wx w1 : World} {K B b off cap : Nat} {q : Pos} {e : TypeId} {sz : Nat} {v : Value} {n : Nat} {xs : List Value} {a : Option Addr} {L : List (List UInt8)}
theorem WRow.trans (h : WRow wx K B a L) (hB : B ≤ wx.heap.size) (hb : Below wx.heap.size wx w1) : WRow w1 K B a L := by
  rcases h with h | ⟨wb, e, h1, h2, h3⟩
  · exact .inl h
  · exact .inr ⟨wb, e, h1, h2, fun j hj => (hb.cell (p := ⟨wb, j, none⟩) (by show wb < wx.heap.size; omega)).trans (h3 j hj)⟩
theorem WRow.app (h : WRow wx K B a L) (hown : wx.ownsRow B e sz v n xs) (hg : wx.grownBy w1 v.ownBlock) : WRow w1 K B a L := by
  rcases h with h | ⟨wb, e, h1, h2, h3⟩
  · exact .inl h
  · exact .inr ⟨wb, e, h1, h2, fun j hj => hg.cell (h3 j hj) fun he => by have := hown.lt _ he.symm; simp at this; omega⟩
theorem WRow.store (h : WRow wx K B a L) (o : Nat) (u : Value) : WRow (wx.setCell ⟨K, o, none⟩ u) K B a L := by
  rcases h with h | ⟨wb, e, h1, h2, h3⟩
  · exact .inl h
  · exact .inr ⟨wb, e, h1, h2, fun j hj => (World.cell?_setCell_other _ _ _ _ (by simp [h1])).trans (h3 j hj)⟩
theorem WRow.get (h : WRow wx K B a L) {i : Nat} (hi : i < L.length) : ∃ wb, a = some ⟨wb, 0, none⟩ ∧ wx.cell? ⟨wb, i, none⟩ = some (strV (L.getD i [])) := by
  rcases h with h | ⟨wb, e, h1, h2, h3⟩
  · omega
  · exact ⟨wb, e, h3 i hi⟩
/-- A row of words that the call has made. -/
theorem WRow.of_own (h : wx.ownsRow B 9 1 v L.length (strsV L)) (hK : K < B) : ∃ a c, v = .slice a L.length c ∧ WRow wx K wx.heap.size a L := by
  obtain ⟨h1, h2⟩ := h
  rcases h2 with ⟨rfl, h0⟩ | ⟨g, cap, cur, rfl, hg, hh, hn, hcap, hsz, ht⟩
  · exact ⟨none, 0, by rw [h0], .inl h0⟩
  · refine ⟨_, cap, rfl, .inr ⟨g, rfl, by omega, (Array.getElem?_eq_some_iff.1 hh).1, fun j hj => ?_⟩⟩
    have e2 : (strsV L)[j]? = some (strV (L.getD j [])) := by
      unfold strsV strV
      rw [List.getElem?_map, List.getElem?_eq_getElem hj]
      simp [List.getD, hj]
    rw [← e2, ← ht, List.getElem?_take_of_lt (by omega)]
    simp [World.cell?, hh]
end

theorem wordsGo_in : ∀ (s u : List UInt8), ∀ x ∈ wordsGo s u, x.length ≤ s.length + u.length
  | [], u => by
    intro x hx
    unfold wordsGo at hx
    split at hx
    · cases hx
    · simp at hx
      subst hx
      simp
  | c :: r, u => by
    intro x hx
    unfold wordsGo at hx
    have h1 := wordsGo_in r [] x
    have h2 := wordsGo_in r (u ++ [c]) x
    simp at h1 h2
    repeat' split at hx
    · have := h1 hx; simp; omega
    · rcases List.mem_cons.1 hx with rfl | hx
      · simp
      · have := h1 hx; simp; omega
    · have := h2 hx; simp; omega
theorem words_in (s : List UInt8) {x : List UInt8} (hx : x ∈ wordsL s) : x.length ≤ s.length := by simpa using wordsGo_in s [] x hx
theorem words_le (s : List UInt8) : (wordsL s).length ≤ s.length + 1 := wordsGo_len s []
theorem word_at (s : List UInt8) (i : Nat) : ((wordsL s).getD i []).length ≤ s.length := by
  by_cases h : i < (wordsL s).length
  · have e : (wordsL s).getD i [] = (wordsL s)[i] := by simp [List.getD, h]
    rw [e]
    exact words_in s (List.getElem_mem h)
  · have e : (wordsL s).getD i [] = [] := by simp [List.getD, Nat.le_of_not_lt h]
    rw [e]
    simp
theorem drop_word {L : List (List UInt8)} {i : Nat} (h : i < L.length) : L.drop i = L.getD i [] :: L.drop (i + 1) := by
  rw [List.drop_eq_getElem_cons h]
  simp [List.getD, h]

end Go.Proofs.YthffhhbbhjcdeaaGreatDoor
namespace Go.Proofs.YthffhhbbhjcdeaaGreatDoor
open Go.RowKit
set_option maxRecDepth 100000

theorem parseV_form (o : Option Mv) : parseV o = .tuple #[mvV (o.getD ⟨0, 0, 0⟩), .bool o.isSome] := by cases o <;> rfl
theorem keep7 {w wx w' : World} {K b off cap wb i : Nat} {q : Pos} {u : List UInt8} (h : PB w wx K b off cap q) (hc : wx.cell? ⟨wb, i, none⟩ = some (.string ⟨u.toArray⟩)) (hb : Below wx.heap.size wx w') :
    w'.cell? ⟨K, 0, none⟩ = some (.slice (some ⟨b, off, none⟩) 64 cap) ∧ w'.cell? ⟨K, 1, none⟩ = some (.int .i64 q.turn) ∧ w'.cell? ⟨K, 2, none⟩ = some (.int .i64 q.castle) ∧ w'.cell? ⟨K, 3, none⟩ = some (.int .i64 q.ep) ∧
    w'.cell? ⟨K, 4, none⟩ = some (.int .i64 q.half) ∧ w'.cell? ⟨K, 5, none⟩ = some (.int .i64 q.full) ∧ w'.cell? ⟨wb, i, none⟩ = some (.string ⟨u.toArray⟩) := by
  have h2 := h.trans hb
  exact ⟨h2.kP.cell rfl, h2.kP.cell rfl, h2.kP.cell rfl, h2.kP.cell rfl, h2.kP.cell rfl, h2.kP.cell rfl, (hb.cell (p := ⟨wb, i, none⟩) (World.block_lt_of_cell? wx _ hc)).trans hc⟩
theorem zero_alloc (w : World) : Blk (w.alloc (.cells #[.int .i64 0, .int .i64 0, .int .i64 0] 26)) w.heap.size #[.int .i64 0, .int .i64 0, .int .i64 0] := Blk.new _ _ _

set_option maxHeartbeats 8000000 in
theorem gameR_any (b off cap : Nat) (p : Pos) (s : List UInt8) (w : World) (hm : MayP p) (hbr : Brd w b off p.L) (hs : s.length ≤ 4000) :
    Calls Tryz.prog 18 #[chessV b off cap p, .string ⟨s.toArray⟩] w fun e w' => ∃ v, e = .returned (.tuple #[v, .int .i64 (gameG p [] 0 (wordsL s)).2.1, .int .i64 (gameG p [] 0 (wordsL s)).2.2]) ∧ MvSl w' v (gameG p [] 0 (wordsL s)).1 ∧ Below w.heap.size w w' := by
  obtain ⟨i0, hi0, hz0, hz1, hz2⟩ := info_parts Tryz.info26
  have hbl := hbr.lt
  have hLl := words_le s
  have hwl : ∀ i, ((wordsL s).getD i []).length ≤ 4000 := fun i => Nat.le_trans (word_at s i) hs
  have HW : ∀ w1, Calls Tryz.prog 43 #[.string ⟨s.toArray⟩] w1 _ := fun w1 => wordsOf_any s w1 (by omega)
  generalize wordsL s = L at *
  have HWL := Lib.hid hwl
  have HWo := Lib.hid HW
  have HM := Lib.hid hm
  have HB := Lib.hid hbr
  clear hwl HW hm hbr
  unfold chessV
  go_enter Tryz.func18, Tryz.ntmps18
  go_upto_region 1 with fail
  generalize hW0 : World.alloc _ _ = W0
  have hS : PB w W0 w.heap.size b off cap p := by
    rw [← hW0]; exact ⟨Blk.new w _ _, HB.out.below ((Below.refl _ _).alloc (Nat.le_refl _) _) hbl, by omega, Nat.le_refl _, (Below.refl _ _).alloc (Nat.le_refl _) _⟩
  clear hW0
  have hSl := hS.kP.lt
  go_upto_region 2 with (go_at_call 43; refine (HWo.out _).mono ?_; rintro e w1 ⟨v, rfl, hown, hb1⟩; obtain ⟨a, c, rfl, hwr⟩ := WRow.of_own (K := w.heap.size) hown hSl)
  have hG : GB w w1 w.heap.size w1.heap.size b off cap p 26 3 (.slice none 0 0) 0 [] := ⟨hS.trans hb1, World.ownsRow_nil _ _ _ _, fun k hk => (by cases hk), Nat.lt_of_lt_of_le hSl hb1.size, Nat.le_refl _⟩
  clear hS hb1 hown
  have HG0 := Lib.hid hG
  have HWR := Lib.hid hwr
  have hB : w.heap.size < w1.heap.size := hG.kb
  generalize hBB : w1.heap.size = B at *
  clear hG hwr
  go_wp2_with fail
  go_loopg [8, 9] L.length (fun g s8 s9 wx => ∃ (i : Nat) (acc : List Mv) (q : Pos) (b off cap : Nat), i ≤ L.length ∧ g = L.length - i ∧ s9 = .int .i64 i ∧ acc.length ≤ i ∧ acc.length ≤ 200 ∧ GB w wx w.heap.size B b off cap q 26 3 s8 acc.length (mvCells acc) ∧ WRow wx w.heap.size B a L ∧ MayP q ∧ gameG p [] 0 L = gameG q acc i (L.drop i))
  case atStart => exact ⟨0, [], p, b, off, cap, by omega, rfl, rfl, by simp, by simp, HG0.out, HWR.out, HM.out, rfl⟩
  case round =>
  clear HG0 HWR HM HB hbl
  obtain ⟨i, acc, q, b, off, cap, hi, hg, rfl, hacc, hacc2, hS, hwr, hm, ht⟩ := hrel
  obtain ⟨a1, c1, rfl⟩ := ownsRow_slice hS.own
  have Hg := Lib.hid hg
  have Ht := Lib.hid ht
  have Hm := Lib.hid hm
  have HWR := Lib.hid hwr
  clear hg ht hm hwr
  by_cases hil : i = L.length
  · have hge : ¬ i < L.length := by omega
    have Ht2 := Lib.hid (show gameG p [] 0 L = (acc, 0, 0) by rw [Ht.out, hil, List.drop_length, gameG])
    clear hil Ht
    have hbw := hS.pb.below
    have hMS := MvSl.of_row hS.own
    go_wp2
    go_ret3
    rw [Ht2.out]
    exact ⟨_, rfl, hMS, hbw⟩
  have hilt : i < L.length := by omega
  have hki : (i : Int) < L.length := by omega
  clear hil hi
  obtain ⟨wb, rfl, hc⟩ := HWR.out.get hilt
  have ht2 := Ht.out
  rw [drop_word hilt, gameG] at ht2
  have hul := HWL.out i
  generalize L.getD i [] = u at *
  clear Ht
  unfold strV at hc
  have hnum : ∀ w1, Calls Tryz.prog 44 #[.string ⟨u.toArray⟩] w1 (RetW (.bool (numB u)) w1) := fun w1 => numberedR_any u w1 (by omega)
  cases hn : numB u
  case true =>
    rw [hn] at ht2 hnum
    have Ht2 := Lib.hid ht2
    have HN := Lib.hid hnum
    have HS := Lib.hid hS
    clear ht2 hnum hS hn
    go_wp2_with (go_at_call 44; refine (HN.out _).mono ?_; rintro e w2 ⟨rfl, rfl⟩)
    go_roundg (L.length - (i + 1))
    case measure => have := Hg.out; omega
    case rel => exact ⟨i + 1, acc, q, b, off, cap, by omega, rfl, by go_num, by omega, by omega, HS.out, HWR.out, Hm.out, Ht2.out⟩
  case false =>
  rw [hn] at ht2 hnum
  have HN := Lib.hid hnum
  have HS := Lib.hid hS
  clear hnum hn hS
  go_upto_region 7 with (go_at_call 44; refine (HN.out _).mono ?_; rintro e w2 ⟨rfl, rfl⟩)
  have HO := Lib.hid (show overB u = (u == [49, 45, 48] || u == [48, 45, 49] || u == [49, 47, 50, 45, 49, 47, 50] || u == [42]) from rfl)
  have HT := Lib.hid ht2
  clear ht2
  go_cut [50] from 20 to 49 (fun s50 wx => s50 = .bool (overB u) ∧ wx = wr)
  case first =>
    go_wp2
    all_goals
      go_meet
      refine ⟨?_, rfl⟩
      first
        | (rw [HO.out]; done)
        | (rw [HO.out]; simp [*])
  case rest =>
  obtain ⟨rfl, rfl⟩ := hcut
  have ht2 := HT.out
  clear HO HT
  cases ho : overB u
  case true =>
    have Ht2 := Lib.hid (show gameG p [] 0 L = (acc, 0, 0) by rw [ht2, ho]; rfl)
    clear ht2 ho
    have hbw := HS.out.pb.below
    have hMS := MvSl.of_row HS.out.own
    go_wp2
    go_ret3
    rw [Ht2.out]
    exact ⟨_, rfl, hMS, hbw⟩
  case false =>
  have hpar : ∀ w1, Below wc.heap.size wc w1 → Calls Tryz.prog 9 #[chessV b off cap q, strV u] w1 (RetB (parseV (parseL q u)) w1) := fun w1 hb => parseWord_any b off cap q u w1 (HS.out.pb.brd.below hb HS.out.pb.brd.lt) (posM_of Hm.out) (by omega)
  have ht3 : gameG p [] 0 L = (match parseL q u with | none => ([], i, 1) | some m => if acc.length = 200 then ([], i, 11) else gameG (doneR q m) (acc ++ [m]) (i + 1) (L.drop (i + 1))) := by rw [ht2, ho]; rfl
  clear ht2 ho
  have hK := HS.out.pb.kP
  have p0 := hK.cell (o := 0) rfl
  have p1 := hK.cell (o := 1) rfl
  have p2 := hK.cell (o := 2) rfl
  have p3 := hK.cell (o := 3) rfl
  have p4 := hK.cell (o := 4) rfl
  have p5 := hK.cell (o := 5) rfl
  clear hK
  rw [parseV_form] at hpar
  unfold chessV strV mvV at hpar
  generalize hM : (parseL q u).getD ⟨0, 0, 0⟩ = M at *
  generalize hok : (parseL q u).isSome = ok at *
  have HP := Lib.hid hpar
  have Ht3 := Lib.hid ht3
  have HMe := Lib.hid hM
  have Hok := Lib.hid hok
  clear hpar ht3 hM hok
  have hb0 : Below wc.heap.size wc wc.drew := (Below.refl wc.heap.size wc).drew
  have hbA : ∀ o, Below wc.heap.size wc (wc.drew.alloc o) := fun o => hb0.alloc (Nat.le_refl _) o
  have hSl3 := HS.out.pb.kP.lt
  have hwbl : wb < wc.heap.size := World.block_lt_of_cell? wc _ hc
  have hC := Lib.hid hc
  go_upto_region 8 with fail
  go_cut [10, 11] from 51 to 59 (fun s10 s11 wx => ∃ Mb, s10 = .pointer (some ⟨Mb, 0, none⟩) ∧ s11 = .bool ok ∧ Blk wx Mb #[.int .i64 M.fr, .int .i64 M.tg, .int .i64 M.into] ∧ Below wc.heap.size wc wx ∧ wc.heap.size ≤ Mb)
  case first =>
    go_region_held3 (fun w' => w'.cell? ⟨w.heap.size, 0, none⟩ = some (.slice (some ⟨b, off, none⟩) 64 cap) ∧ w'.cell? ⟨w.heap.size, 1, none⟩ = some (.int .i64 q.turn) ∧ w'.cell? ⟨w.heap.size, 2, none⟩ = some (.int .i64 q.castle) ∧ w'.cell? ⟨w.heap.size, 3, none⟩ = some (.int .i64 q.ep) ∧
      w'.cell? ⟨w.heap.size, 4, none⟩ = some (.int .i64 q.half) ∧ w'.cell? ⟨w.heap.size, 5, none⟩ = some (.int .i64 q.full) ∧ w'.cell? ⟨wb, i, none⟩ = some (.string ⟨u.toArray⟩))
      (first | exact keep7 HS.out.pb hC.out (hb0.trans hb2) | exact keep7 HS.out.pb hC.out ((hb0.trans hb2).alloc (hb0.trans hb2).size _) | exact keep7 HS.out.pb hC.out ((hbA _).trans (hb2.mono (hbA _).size)) | exact keep7 HS.out.pb hC.out (((((hbA _).trans (hb2.mono (hbA _).size)).setCell (p := ⟨wc.heap.size, 0, none⟩) (Nat.le_refl _) _).setCell (p := ⟨wc.heap.size, 1, none⟩) (Nat.le_refl _) _).setCell (p := ⟨wc.heap.size, 2, none⟩) (Nat.le_refl _) _) | exact keep7 HS.out.pb hC.out hb0 | go_keep)
      (first
        | (go_at_call 9; refine (HP.out _ hb0).mono ?_; rintro e w2 ⟨rfl, hb2⟩)
        | (go_at_call 9; refine (HP.out _ (hbA _)).mono ?_; rintro e w2 ⟨rfl, hb2⟩; have hZ : Blk w2 wc.heap.size #[.int .i64 0, .int .i64 0, .int .i64 0] := (zero_alloc wc.drew).below hb2 (by simp); have f0 := hZ.free 0; have f1 := hZ.free 1; have f2 := hZ.free 2; have r0 := hZ.cell (o := 0) rfl; have r1 := hZ.cell (o := 1) rfl; have r2 := hZ.cell (o := 2) rfl))
    · go_wp2
      go_meet
      exact ⟨_, rfl, rfl, Blk.new' rfl _ _, (hb0.trans hb2).alloc (hb0.trans hb2).size _, (hb0.trans hb2).size⟩
    · go_wp2
      go_meet
      exact ⟨_, rfl, rfl, ((hZ.set 0 _).set 1 _).set 2 _, ((((hbA _).trans (hb2.mono (hbA _).size)).setCell (p := ⟨wc.heap.size, 0, none⟩) (Nat.le_refl _) _).setCell (p := ⟨wc.heap.size, 1, none⟩) (Nat.le_refl _) _).setCell (p := ⟨wc.heap.size, 2, none⟩) (Nat.le_refl _) _, Nat.le_refl _⟩
  case rest =>
  clear p0 p1 p2 p3 p4 p5 hbA hb0
  obtain ⟨Mb, rfl, rfl, hMb, hb2, hMl⟩ := hcut
  cases ok
  case false =>
    have Ht4 := Lib.hid (show gameG p [] 0 L = ([], i, 1) by
      have h := Hok.out
      have h3 := Ht3.out
      cases hp : parseL q u with
      | none => rw [hp] at h3; exact h3
      | some m => rw [hp] at h; cases h)
    have hbw := HS.out.pb.below.trans (hb2.mono HS.out.pb.below.size)
    clear Ht3 Hok HMe
    go_wp2
    go_ret3
    rw [Ht4.out]
    exact ⟨_, rfl, .inl ⟨rfl, rfl⟩, hbw⟩
  case true =>
  have hsome : parseL q u = some M := by
    have h := Hok.out
    have h2 := HMe.out
    cases hp : parseL q u with
    | none => rw [hp] at h; cases h
    | some m => rw [hp] at h2; exact congrArg some h2
  have ht4 : gameG p [] 0 L = (if acc.length = 200 then ([], i, 11) else gameG (doneR q M) (acc ++ [M]) (i + 1) (L.drop (i + 1))) := by rw [Ht3.out, hsome]
  have Hmem := Lib.hid (parseL_mem hsome)
  clear Ht3 Hok HMe hsome
  by_cases h200 : acc.length = 200
  · have Ht5 := Lib.hid (show gameG p [] 0 L = ([], i, 11) by rw [ht4, if_pos h200])
    have hbw := HS.out.pb.below.trans (hb2.mono HS.out.pb.below.size)
    have h201 : ((acc.length : Int) == 200) = true := by simp [h200]
    clear ht4 h200
    go_wp2
    go_ret3
    rw [Ht5.out]
    exact ⟨_, rfl, .inl ⟨rfl, rfl⟩, hbw⟩
  · have Ht5 := Lib.hid (show gameG p [] 0 L = gameG (doneR q M) (acc ++ [M]) (i + 1) (L.drop (i + 1)) by rw [ht4, if_neg h200])
    have h201 : ((acc.length : Int) == 200) = false := by simp; omega
    have hal : acc.length < 200 := by omega
    clear ht4 h200
    have hS2 := HS.out.trans hb2
    have hW2 := HWR.out.trans HS.out.bs hb2
    have hfree : some Mb ≠ (Value.slice a1 acc.length c1).ownBlock := fun he => by have := (HS.out.own.lt _ he.symm).2; omega
    have hMlt := hMb.lt
    have hMK : Mb ≠ w.heap.size := by omega
    have hdn : ∀ wx, Brd wx b off q.L → Calls Tryz.prog 32 #[chessV b off cap q, mvV M] wx fun e w' => ∃ g cq, e = .returned (chessV g 0 cq (doneR q M)) ∧ OwnB w' g (doneL q M) ∧ wx.heap.size ≤ g ∧ Below wx.heap.size wx w' := fun wx hb => by
      have hM := posM_of Hm.out
      obtain ⟨k1, k2, k3, k4⟩ := hM.mem _ Hmem.out
      have hP := hM.ok
      exact moveDone_any b off cap q _ wx hb hP.turn hP.c0 hP.c1 hP.h0 hP.h1 hP.f0 hP.f1 (by have := hP.ep; omega) k1 k2 k3 k4
    unfold mvV chessV at hdn
    have hmay : MayP (doneR q M) := mayP_next Hm.out (mem_movesR.1 Hmem.out).1 (mem_movesR.1 Hmem.out).2
    have HMay := Lib.hid hmay
    have HDn := Lib.hid hdn
    have HS2 := Lib.hid hS2
    have HW2 := Lib.hid hW2
    have HMb := Lib.hid hMb
    have m0 := hMb.cell (o := 0) rfl
    have m1 := hMb.cell (o := 1) rfl
    have m2 := hMb.cell (o := 2) rfl
    have hwcB := hS2.bs
    clear hmay hdn hS2 hW2 hMb hC hc HWR HS hb2
    go_wp2_with (at_builtin; refine wpList_append_own_at _ rfl _ _ 37 rfl B 26 i0 (.agg #[.int .i64 0, .int .i64 0, .int .i64 0]) 3 24 Tryz.underlying37 hi0 hz0 hz1 hz2 rfl (by decide) _ _ _ rfl (HS2.out.own.alloc _) ⟨wc.heap.size, 0, none⟩ 1 1 [.int .i64 M.fr, .int .i64 M.tg, .int .i64 M.into] rfl rfl ?c1 ?c2 ?c3 ?c4 ?c5 ?_)
    case c1 => exact three_new _ _ _ _ _
    case c2 => intro x hx; simp at hx; rcases hx with rfl | rfl | rfl <;> rfl
    case c3 => unfold maxLen; omega
    case c4 => omega
    case c5 => simp; omega
    intro v' w3 hown' hgrow _ hat
    have hA := HS2.out.trans ((Below.refl wc.heap.size wc).alloc (Nat.le_refl _) (.cells #[.int .i64 M.fr, .int .i64 M.tg, .int .i64 M.into] 26))
    have hS3 : GB w w3 w.heap.size B b off cap q 26 3 v' (acc ++ [M]).length (mvCells (acc ++ [M])) := by
      have h := hA.app hown' hgrow (by simpa using hat)
      rw [List.length_append, mvCells_append, mvCells_one]
      exact h
    have hW3 := (HW2.out.trans HS2.out.bs ((Below.refl wc.heap.size wc).alloc (Nat.le_refl _) (.cells #[.int .i64 M.fr, .int .i64 M.tg, .int .i64 M.into] 26))).app hA.own hgrow
    have hMb3 := (HMb.out.alloc (.cells #[.int .i64 M.fr, .int .i64 M.tg, .int .i64 M.into] 26)).of_heap (hgrow.block Mb (by simp; omega) hfree)
    have HS3 := Lib.hid hS3
    have HW3 := Lib.hid hW3
    have p0 := hS3.pb.kP.cell (o := 0) rfl
    have p1 := hS3.pb.kP.cell (o := 1) rfl
    have p2 := hS3.pb.kP.cell (o := 2) rfl
    have p3 := hS3.pb.kP.cell (o := 3) rfl
    have p4 := hS3.pb.kP.cell (o := 4) rfl
    have p5 := hS3.pb.kP.cell (o := 5) rfl
    have n0 := hMb3.cell (o := 0) rfl
    have n1 := hMb3.cell (o := 1) rfl
    have n2 := hMb3.cell (o := 2) rfl
    clear hA hS3 hW3 hMb3 hown' hgrow hat HS2 HW2 HMb m0 m1 m2
    go_wp2_with (go_at_call 32; refine (HDn.out _ HS3.out.pb.brd).mono ?_; rintro e w4 ⟨g, cq, rfl, hown, hgl, hb4⟩; have hK4 := HS3.out.pb.kP.below hb4 HS3.out.pb.kP.lt; have f0 := hK4.free 0; have f1 := hK4.free 1; have f2 := hK4.free 2; have f3 := hK4.free 3; have f4 := hK4.free 4; have f5 := hK4.free 5; have c0 := hK4.cell (o := 0) rfl; have c1 := hK4.cell (o := 1) rfl; have c2 := hK4.cell (o := 2) rfl; have c3 := hK4.cell (o := 3) rfl; have c4 := hK4.cell (o := 4) rfl; have c5 := hK4.cell (o := 5) rfl)
    have hS5 := HS3.out.put hb4 (c := cq) (q' := doneR q M) (hown.brd HMay.out.ok.bd) hgl
    go_roundg (L.length - (i + 1))
    case measure => have := Hg.out; omega
    case rel =>
      refine ⟨i + 1, acc ++ [M], doneR q M, g, 0, cq, by omega, rfl, by go_num, by simp; omega, by simp; omega, hS5, ?_, HMay.out, Ht5.out⟩
      iterate 6 refine WRow.store ?_ _ _
      exact HW3.out.trans HS3.out.bs hb4

end Go.Proofs.YthffhhbbhjcdeaaGreatDoor
