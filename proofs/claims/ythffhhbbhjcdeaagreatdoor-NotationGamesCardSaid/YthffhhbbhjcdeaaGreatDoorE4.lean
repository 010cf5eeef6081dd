/- WALKS: the scribe's parse. WALKS: Parse. -/
import Derived.Test.YthffhhbbhjcdeaaGreatDoorE2
import Derived.Test.YthffhhbbhjcdeaaGreatDoorP9
set_option linter.unusedVariables false
set_option linter.unusedSimpArgs false
namespace Go.Proofs.YthffhhbbhjcdeaaGreatDoor
open Go.RowKit
set_option maxRecDepth 100000

structure PW (w wx : World) (S b off cap : Nat) (p : Pos) (v : Value) : Prop where
  scr : Scr wx S b off cap p v
  kR : Blk wx w.heap.size #[.int .i64 0, .int .i64 0, .int .i64 0]
  below : Below w.heap.size w wx
theorem PW.trans {w wx w1 : World} {S b off cap : Nat} {p : Pos} {v : Value} (h : PW w wx S b off cap p v) (hb : Below wx.heap.size wx w1) : PW w w1 S b off cap p v :=
  ⟨h.scr.below hb, h.kR.below hb h.kR.lt, h.below.trans (hb.mono h.below.size)⟩

theorem sign_grows (w : World) : MapGrows Tryz.prog 53 #[] pieceF w := fun W x hx _ => by
  refine (sign_any x hx W).mono ?_
  rintro e w' ⟨he, hb⟩
  exact ⟨he, hb⟩
theorem piece_range (x : Nat) (hx : x ≤ 1114111) : -2147483648 ≤ pieceF x ∧ pieceF x ≤ 2147483647 := by
  unfold pieceF
  repeat' split
  all_goals omega

set_option maxHeartbeats 4000000 in
theorem parseP_any {S b off cap : Nat} {p : Pos} {v : Value} {w : World} (hm : MayP p) (hs : Scr w S b off cap p v) (s : List UInt8) (hl : s.length ≤ 4000000) (mx : Int) (hmax : w.cell? ⟨0, 0, none⟩ = some (.int .i64 mx)) (hT : Lib.Utf8Tabs 1 2 w) :
    Calls Tryz.prog 24 #[.pointer (some ⟨S, 0, none⟩), strV s] w (RetB (parseV (progParse p s)) w) := by
  obtain ⟨ao, nn, cp, rfl⟩ : ∃ ao n cp, v = .slice ao n cp := by
    rcases hs.sl with ⟨rfl, _⟩ | ⟨b, off, cap, rfl, _⟩
    · exact ⟨_, _, _, rfl⟩
    · exact ⟨_, _, _, rfl⟩
  have h0lt : 0 < w.heap.size := by
    rcases Nat.lt_or_ge 0 w.heap.size with h | h
    · exact h
    · exfalso
      rw [World.cell?] at hmax
      simp [Array.getElem?_eq_none h] at hmax
  have hR : ∀ w1, Below w.heap.size w w1 → Calls Tryz.prog 51 #[.string ⟨s.toArray⟩, .string ⟨#[48]⟩, .string ⟨#[79]⟩] w1 fun e w' => e = .returned (.string ⟨(Lib.replaceAll s [48] [79]).toArray⟩) ∧ Below w1.heap.size w1 w' := fun w1 hb => by
    refine Tryz.strings_ReplaceAll ⟨s.toArray⟩ ⟨#[48]⟩ ⟨#[79]⟩ mx w1 ?_ ((hb.cell (p := ⟨0, 0, none⟩) h0lt).trans hmax) (by decide) ?_
    · show s.toArray.size < _; simp; omega
    · have := Lib.countB_le ⟨#[48]⟩ (by decide) s.length ⟨s.toArray⟩ (by show s.toArray.size ≤ _; simp)
      have h1 : (ByteArray.mk s.toArray).size = s.length := by show s.toArray.size = _; simp
      have h2 : (ByteArray.mk #[79]).size = 1 := rfl
      rw [h1, h2]; omega
  have hM : ∀ w1 (t : List UInt8), Below w.heap.size w w1 → t.length ≤ 4000000 → Calls Tryz.prog 52 #[.func (.func 53) #[] #[], .string ⟨t.toArray⟩] w1 fun e w' => e = .returned (.string ⟨(Lib.mapD pieceF t).toArray⟩) ∧ Below w1.heap.size w1 w' := fun w1 t hb ht =>
    Tryz.strings_Map_grows 53 #[] (enters_of Tryz.func53 (by kernel_rfl) rfl) pieceF ⟨t.toArray⟩ w1 (by show t.toArray.size < _; simp; omega) (sign_grows w1) piece_range (Utf8Tabs_below hT hb)
  have hpi := progIn_eq s
  have hpw : progW s = Lib.mapD pieceF (progIn s) := rfl
  have hpil : (progIn s).length ≤ 4000000 := by
                                                 unfold progIn
                                                 split
                                                 · rw [List.length_map]; exact hl
                                                 · exact hl
  have hnn : nn = (movesR p).length := by
    rcases hs.sl with ⟨hv, h0⟩ | ⟨b, off, cap, hv, _⟩
    · injection hv with _ h _; rw [h, h0]; rfl
    · injection hv
  have hnb : nn ≤ 20000 := by rw [hnn]; have := movesUpto_le p 64; rw [movesR]; omega
  have Hnn := Lib.hid hnn
  have HR := Lib.hid hR
  have HM := Lib.hid hM
  have Hm := Lib.hid hm
  have Hpi := Lib.hid hpi
  have Hpw := Lib.hid hpw
  clear hR hM hm hmax hT hpi hpw hnn
  unfold strV
  go_enter Tryz.func24, Tryz.ntmps24
  go_upto_region 1 with fail
  generalize hW0 : World.alloc _ _ = W0
  have hS : PW w W0 S b off cap p (.slice ao nn cp) := by
    have hb0 : Below w.heap.size w W0 := by rw [← hW0]; exact (Below.refl _ _).alloc (Nat.le_refl _) _
    exact ⟨hs.below hb0, by rw [← hW0]; exact Blk.new w _ _, hb0⟩
  clear hW0 hs
  have hq : progIn s = (if (Lib.hasPrefix s [48, 45, 48] && !decide (0 ≤ Lib.indexByte s 79)) = true then Lib.replaceAll s [48] [79] else s) := Hpi.out
  go_cut [15] from 9 to 14 (fun s15 wx => s15 = .bool (Lib.hasPrefix s [48, 45, 48] && !decide (0 ≤ Lib.indexByte s 79)) ∧ wx = W0)
  case first =>
    have c49 : ∀ w1, Calls Tryz.prog 49 #[.string ⟨s.toArray⟩, .string ⟨#[48, 45, 48]⟩] w1 fun e w' => e = .returned (.bool (Lib.hasPrefix s [48, 45, 48])) ∧ w' = w1 := fun w1 => Tryz.strings_HasPrefix _ _ w1
    have c50 : ∀ w1, Calls Tryz.prog 50 #[.string ⟨s.toArray⟩, .string ⟨#[79]⟩] w1 fun e w' => e = .returned (.bool (decide (0 ≤ Lib.indexByte s 79))) ∧ w' = w1 := fun w1 => Tryz.strings_Contains_one _ 79 w1
    have C49 := Lib.hid c49
    have C50 := Lib.hid c50
    clear c49 c50 hq Hpi
    generalize Lib.hasPrefix s [48, 45, 48] = q1 at *
    generalize decide (0 ≤ Lib.indexByte s 79) = q2 at *
    cases q1 <;> cases q2
    all_goals
      go_wp2_with (first
        | (go_at_call 49; refine (C49.out _).mono ?_; rintro e w1 ⟨rfl, rfl⟩)
        | (go_at_call 50; refine (C50.out _).mono ?_; rintro e w1 ⟨rfl, rfl⟩))
      go_meet
      exact ⟨rfl, rfl⟩
  case rest =>
  obtain ⟨rfl, rfl⟩ := hcut
  generalize (Lib.hasPrefix s [48, 45, 48] && !decide (0 ≤ Lib.indexByte s 79)) = q at *
  have Hq := Lib.hid hq
  clear hq Hpi
  go_upto_if 15 with fail
  go_cut [1] from 16 to 17 (fun s1 wx => s1 = .string ⟨(progIn s).toArray⟩ ∧ PW w wx S b off cap p (.slice ao nn cp))
  case first =>
    have hbw := hS.below
    cases q
    case true =>
      go_wp2_with (go_at_call 51; refine (HR.out _ hbw).mono ?_; rintro e w1 ⟨rfl, hb1⟩)
      go_meet
      exact ⟨by rw [Hq.out]; rfl, hS.trans hb1⟩
    case false =>
      go_wp2
      go_meet
      exact ⟨by rw [Hq.out]; rfl, hS⟩
  case rest =>
  clear hS Hq
  obtain ⟨rfl, hS⟩ := hcut
  go_upto_region 3 with fail
  go_cut [1] from 18 to 19 (fun s1 wx => s1 = .string ⟨(progW s).toArray⟩ ∧ PW w wx S b off cap p (.slice ao nn cp))
  case first =>
    have hbw := hS.below
    go_wp2_with (go_at_call 52; refine (HM.out _ _ hbw hpil).mono ?_; rintro e w1 ⟨rfl, hb1⟩)
    go_meet
    exact ⟨by rw [Hpw.out], hS.trans hb1⟩
  case rest =>
  clear hS
  obtain ⟨rfl, hS⟩ := hcut
  have hpar : progParse p s = (movesR p).find? (progHit p s) := rfl
  have Hpar := Lib.hid hpar
  have hph : ∀ m, progHit p s m = (progW s == plainL p m || progW s == plainL p m ++ endL p m) := fun _ => rfl
  have Hph := Lib.hid hph
  clear hpar hph Hpw hpil
  generalize progW s = t at *
  have s6 := hS.scr.blk.cell (o := 6) rfl
  go_upto_region 5 with fail
  clear s6
  go_loopg [25] nn (fun gh s25 wx => ∃ k : Nat, k ≤ nn ∧ gh = nn - k ∧ s25 = .int .i64 k ∧ (∀ i, i < k → progHit p s (mvAt (movesR p) i) = false) ∧ PW w wx S b off cap p (.slice ao nn cp))
  case atStart => exact ⟨0, by omega, rfl, rfl, by intro i h; omega, hS⟩
  case round =>
  clear hS
  obtain ⟨k, hk, hg, rfl, hz, hS⟩ := hrel
  have Hg := Lib.hid hg
  have Hz := Lib.hid hz
  clear hg hz
  by_cases hkn : k = nn
  · subst hkn
    have r0 := hS.kR.cell (o := 0) rfl
    have r1 := hS.kR.cell (o := 1) rfl
    have r2 := hS.kR.cell (o := 2) rfl
    have f0 := hS.kR.free 0
    have f1 := hS.kR.free 1
    have f2 := hS.kR.free 2
    go_wp2
    have hR2 := ((hS.kR.set 0 (.int .i64 0)).set 1 (.int .i64 0)).set 2 (.int .i64 0)
    refine bodyPost_ret (ret_moveB rfl rfl rfl hR2) rfl ⟨?_, ?_⟩
    · rw [Hpar.out, find_no (fun i hi => Hz.out i (by rw [Hnn.out]; exact hi))]; rfl
    · iterate 3 refine Below.setCell ?_ (by simp) _
      exact hS.below
  have hkl : k < nn := by omega
  have hkm : k < (movesR p).length := by rw [← Hnn.out]; exact hkl
  have Hkm := Lib.hid hkm
  clear hkn hk hkm
  obtain ⟨bq, oq, cq, hv, hr⟩ : ∃ bq oq cq, Value.slice ao nn cp = .slice (some ⟨bq, oq, none⟩) (movesR p).length cq ∧ MvRow wr bq oq (movesR p) := by
    rcases hS.scr.sl with ⟨hv, h0⟩ | h
    · exact absurd Hkm.out (by rw [h0]; simp)
    · exact h
  injection hv with ea en ec
  subst ea
  clear en ec
  have hmem := mvAt_mem Hkm.out
  have hki : (k : Int) < nn := by omega
  generalize hmv : mvAt (movesR p) k = m at *
  have Hmv := Lib.hid hmv
  clear hmv
  obtain ⟨g0, g1, g2⟩ := hr.get k Hkm.out
  rw [Hmv.out] at g0 g1 g2
  have hPs := (mem_movesR.1 hmem).1
  have hA : ∀ w1, Scr w1 S b off cap p (.slice (some ⟨bq, oq, none⟩) nn cp) → Calls Tryz.prog 47 #[.pointer (some ⟨S, 0, none⟩), mvV m] w1 (RetB (strV (plainL p m)) w1) := fun w1 h => plainP_any Hm.out h hPs
  have hE : ∀ w1, Scr w1 S b off cap p (.slice (some ⟨bq, oq, none⟩) nn cp) → Calls Tryz.prog 48 #[.pointer (some ⟨S, 0, none⟩), mvV m] w1 (RetB (strV (endL p m)) w1) := fun w1 h => endP_any Hm.out h hmem
  unfold mvV strV at hA hE
  have HA := Lib.hid hA
  have HE := Lib.hid hE
  have hpl := plainL_le p m
  have hel := endL_le1 p m
  have hwh : progHit p s m = (t == plainL p m || (Lib.hasPrefix t (plainL p m) && t == plainL p m ++ endL p m)) := by rw [Hph.out, eq_prefix]
  have Hwh := Lib.hid hwh
  clear hA hE hwh hPs hr Hph
  generalize plainL p m = pl at *
  generalize endL p m = el at *
  go_upto_region 7 with fail
  generalize hW1 : World.alloc wr _ = W1
  have hMS : PW w W1 S b off cap p (.slice (some ⟨bq, oq, none⟩) nn cp) ∧ Blk W1 wr.heap.size #[.int .i64 m.fr, .int .i64 m.tg, .int .i64 m.into] := by
    rw [← hW1]; exact ⟨hS.trans ((Below.refl _ _).alloc (Nat.le_refl _) _), Blk.new _ _ _⟩
  clear hW1 hS g0 g1 g2
  obtain ⟨hS, hM⟩ := hMS
  go_cut [8] from 29 to 31 (fun s8 wx => s8 = .string ⟨pl.toArray⟩ ∧ PW w wx S b off cap p (.slice (some ⟨bq, oq, none⟩) nn cp) ∧ Blk wx wr.heap.size #[.int .i64 m.fr, .int .i64 m.tg, .int .i64 m.into])
  case first =>
    have m0 := hM.cell (o := 0) rfl
    have m1 := hM.cell (o := 1) rfl
    have m2 := hM.cell (o := 2) rfl
    have hs1 := hS.scr
    go_wp2_with (go_at_call 47; refine (HA.out _ hs1).mono ?_; rintro e w1 ⟨rfl, hb1⟩)
    go_meet
    exact ⟨rfl, hS.trans hb1, hM.below hb1 hM.lt⟩
  case rest =>
  clear hS hM
  obtain ⟨rfl, hS, hM⟩ := hcut
  go_upto_region 8 with fail
  go_cut [48] from 32 to 47 (fun s48 wx => s48 = .bool (progHit p s m) ∧ PW w wx S b off cap p (.slice (some ⟨bq, oq, none⟩) nn cp) ∧ Blk wx wr.heap.size #[.int .i64 m.fr, .int .i64 m.tg, .int .i64 m.into])
  case first =>
    have m0 := hM.cell (o := 0) rfl
    have m1 := hM.cell (o := 1) rfl
    have m2 := hM.cell (o := 2) rfl
    have hs1 := hS.scr
    have c49 : ∀ w1, Calls Tryz.prog 49 #[.string ⟨t.toArray⟩, .string ⟨pl.toArray⟩] w1 fun e w' => e = .returned (.bool (Lib.hasPrefix t pl)) ∧ w' = w1 := fun w1 => Tryz.strings_HasPrefix _ _ w1
    have C49 := Lib.hid c49
    clear c49
    generalize Lib.hasPrefix t pl = q1 at *
    have hap : (ByteArray.mk pl.toArray ++ ByteArray.mk el.toArray) = ⟨(pl ++ el).toArray⟩ := bytes_app pl el
    cases e1 : (t == pl)
    case true =>
      go_wp2
      go_meet
      exact ⟨by rw [Hwh.out, e1]; rfl, hS, hM⟩
    case false =>
    cases q1
    case false =>
      go_wp2_with (go_at_call 49; refine (C49.out _).mono ?_; rintro e w1 ⟨rfl, rfl⟩)
      go_meet
      exact ⟨by rw [Hwh.out, e1]; rfl, hS, hM⟩
    case true =>
      go_wp2_with (first
        | (go_at_call 49; refine (C49.out _).mono ?_; rintro e w1 ⟨rfl, rfl⟩)
        | (go_at_call 48; refine (HE.out _ hs1).mono ?_; rintro e w1 ⟨rfl, hb1⟩))
      go_meet
      refine ⟨?_, hS.trans hb1, hM.below hb1 hM.lt⟩
      rw [Hwh.out, e1, Bool.true_and, Bool.false_or]
  case rest =>
  clear hS hM
  obtain ⟨rfl, hS, hM⟩ := hcut
  have m0 := hM.cell (o := 0) rfl
  have m1 := hM.cell (o := 1) rfl
  have m2 := hM.cell (o := 2) rfl
  cases ehit : progHit p s m
  case false =>
    go_wp2
    go_roundg (nn - (k + 1))
    case measure => have := Hg.out; omega
    case rel => exact ⟨k + 1, by omega, rfl, by go_num, fun i hi => by rcases Nat.lt_or_eq_of_le (Nat.le_of_lt_succ hi) with h | rfl; exact Hz.out i h; rw [Hmv.out]; exact ehit, hS⟩
  case true =>
    have r0 := hS.kR.cell (o := 0) rfl
    have r1 := hS.kR.cell (o := 1) rfl
    have r2 := hS.kR.cell (o := 2) rfl
    have f0 := hS.kR.free 0
    have f1 := hS.kR.free 1
    have f2 := hS.kR.free 2
    go_wp2
    have hR2 := ((hS.kR.set 0 (.int .i64 m.fr)).set 1 (.int .i64 m.tg)).set 2 (.int .i64 m.into)
    refine bodyPost_ret (ret_moveB rfl rfl rfl hR2) rfl ⟨?_, ?_⟩
    · rw [Hpar.out, find_at Hkm.out (by rw [Hmv.out]; exact ehit) Hz.out, Hmv.out]; rfl
    · iterate 3 refine Below.setCell ?_ (by simp) _
      exact hS.below

end Go.Proofs.YthffhhbbhjcdeaaGreatDoor
namespace Go.Proofs.YthffhhbbhjcdeaaGreatDoor
open Go.RowKit
set_option maxRecDepth 100000

structure PP (w wx : World) (cs : Array Value) : Prop where
  kP : Blk wx w.heap.size cs
  kR : Blk wx (w.heap.size + 1) #[.int .i64 0, .int .i64 0, .int .i64 0]
  below : Below w.heap.size w wx
theorem PP.trans {w wx w1 : World} {cs : Array Value} (h : PP w wx cs) (hb : Below wx.heap.size wx w1) : PP w w1 cs :=
  ⟨h.kP.below hb h.kP.lt, h.kR.below hb h.kR.lt, h.below.trans (hb.mono h.below.size)⟩

set_option maxHeartbeats 4000000 in
theorem parseQ_no (a : Option Addr) (n cap : Nat) (p : Pos) (s : List UInt8) (w : World) (hn : n ≤ 2000000) (hrow : n = 64 → ∃ b off, a = some ⟨b, off, none⟩ ∧ BrdA w b off p.L) (hbd : ∀ i, 64 ≤ i → p.L i = 0) (hwf : ∀ i, -9223372036854775808 ≤ p.L i ∧ p.L i ≤ 9223372036854775807) (hm : mayB n p = false) :
    Calls Tryz.prog 7 #[.agg #[.slice a n cap, .int .i64 p.turn, .int .i64 p.castle, .int .i64 p.ep, .int .i64 p.half, .int .i64 p.full], strV s] w (RetB (.tuple #[mvV ⟨0, 0, 0⟩, .int .i64 12]) w) := by
  have hN : ∀ w1, Below w.heap.size w w1 → Calls Tryz.prog 20 #[.agg #[.slice a n cap, .int .i64 p.turn, .int .i64 p.castle, .int .i64 p.ep, .int .i64 p.half, .int .i64 p.full]] w1 (RetB (.tuple #[.pointer none, .int .i64 12]) w1) :=
    fun w1 hb => newScribe_no a n cap p w1 hn (fun h => by obtain ⟨b, off, e, hB⟩ := hrow h; exact ⟨b, off, e, hB.below hb hB.lt⟩) hbd hwf hm
  have HN := Lib.hid hN
  clear hN hrow hbd hwf hm hn
  unfold strV
  go_enter Tryz.func7, Tryz.ntmps7
  go_upto_region 1 with fail
  generalize hW0 : World.alloc _ _ = W0
  have hS : PP w W0 #[.slice a n cap, .int .i64 p.turn, .int .i64 p.castle, .int .i64 p.ep, .int .i64 p.half, .int .i64 p.full] := by
    rw [← hW0]; exact ⟨(Blk.new w _ _).alloc _, Blk.new' (by simp) _ _, ((Below.refl _ _).alloc (Nat.le_refl _) _).alloc (by simp) _⟩
  clear hW0
  have p0 := hS.kP.cell (o := 0) rfl
  have p1 := hS.kP.cell (o := 1) rfl
  have p2 := hS.kP.cell (o := 2) rfl
  have p3 := hS.kP.cell (o := 3) rfl
  have p4 := hS.kP.cell (o := 4) rfl
  have p5 := hS.kP.cell (o := 5) rfl
  have hbw := hS.below
  go_upto_region 2 with (go_at_call 20; refine (HN.out _ hbw).mono ?_; rintro e w1 ⟨rfl, hb1⟩)
  have hS := hS.trans hb1
  have r0 := hS.kR.cell (o := 0) rfl
  have r1 := hS.kR.cell (o := 1) rfl
  have r2 := hS.kR.cell (o := 2) rfl
  have f0 := hS.kR.free 0
  have f1 := hS.kR.free 1
  have f2 := hS.kR.free 2
  go_wp2
  have hR2 := ((hS.kR.set 0 (.int .i64 0)).set 1 (.int .i64 0)).set 2 (.int .i64 0)
  refine bodyPost_ret (ret_moveB rfl rfl rfl hR2) rfl ⟨rfl, ?_⟩
  iterate 3 refine Below.setCell ?_ (by simp) _
  exact hS.below

def parseW (o : Option Mv) : Value := match o with | some m => .tuple #[mvV m, .int .i64 0] | none => .tuple #[mvV ⟨0, 0, 0⟩, .int .i64 1]

set_option maxHeartbeats 4000000 in
theorem parseQ_yes {b off cap : Nat} {p : Pos} {w : World} (s : List UInt8) (hm : MayP p) (hmay : mayB 64 p = true) (hbr : Brd w b off p.L) (hl : s.length ≤ 4000000) (mx : Int) (hmax : w.cell? ⟨0, 0, none⟩ = some (.int .i64 mx)) (hT : Lib.Utf8Tabs 1 2 w) :
    Calls Tryz.prog 7 #[chessV b off cap p, strV s] w (RetB (parseW (progParse p s)) w) := by
  have hlt := hbr.lt
  have h0lt : 0 < w.heap.size := by
    rcases Nat.lt_or_ge 0 w.heap.size with h | h
    · exact h
    · exfalso
      rw [World.cell?] at hmax
      simp [Array.getElem?_eq_none h] at hmax
  have hN : ∀ w1, Below w.heap.size w w1 → _ := fun w1 hb => newScribe_yes (cap := cap) hm hmay (hbr.below hb hlt)
  have hP : ∀ w1 S v, Below w.heap.size w w1 → Scr w1 S b off cap p v → Calls Tryz.prog 24 #[.pointer (some ⟨S, 0, none⟩), strV s] w1 (RetB (parseV (progParse p s)) w1) := fun w1 S v hb hs =>
    parseP_any hm hs s hl mx ((hb.cell (p := ⟨0, 0, none⟩) h0lt).trans hmax) (Utf8Tabs_below hT hb)
  unfold chessV at hN ⊢
  unfold strV at hP ⊢
  have HN := Lib.hid hN
  have HP := Lib.hid hP
  clear hN hP hmay hbr hm hmax hT
  go_enter Tryz.func7, Tryz.ntmps7
  go_upto_region 1 with fail
  generalize hW0 : World.alloc _ _ = W0
  have hS : PP w W0 #[.slice (some ⟨b, off, none⟩) 64 cap, .int .i64 p.turn, .int .i64 p.castle, .int .i64 p.ep, .int .i64 p.half, .int .i64 p.full] := by
    rw [← hW0]; exact ⟨(Blk.new w _ _).alloc _, Blk.new' (by simp) _ _, ((Below.refl _ _).alloc (Nat.le_refl _) _).alloc (by simp) _⟩
  clear hW0
  have p0 := hS.kP.cell (o := 0) rfl
  have p1 := hS.kP.cell (o := 1) rfl
  have p2 := hS.kP.cell (o := 2) rfl
  have p3 := hS.kP.cell (o := 3) rfl
  have p4 := hS.kP.cell (o := 4) rfl
  have p5 := hS.kP.cell (o := 5) rfl
  have hbw := hS.below
  go_upto_region 4 with (go_at_call 20; refine (HN.out _ hbw).mono ?_; rintro e w1 ⟨S, v, rfl, hSc, hb1⟩)
  clear p0 p1 p2 p3 p4 p5
  have hS := hS.trans hb1
  have hbw1 := hS.below
  cases hpar : progParse p s with
  | none =>
    have hC : Calls Tryz.prog 24 #[.pointer (some ⟨S, 0, none⟩), .string ⟨s.toArray⟩] w1 (RetB (.tuple #[.agg #[.int .i64 0, .int .i64 0, .int .i64 0], .bool false]) w1) := by
      have := HP.out w1 S v hbw1 hSc
      rw [hpar] at this
      exact this
    have HC := Lib.hid hC
    clear hC
    go_upto_region 5 with (go_at_call 24; refine HC.out.mono ?_; rintro e w2 ⟨rfl, hb2⟩)
    generalize hW2 : World.alloc w2 _ = W2
    have hS := (hS.trans hb2).trans (w1 := W2) (by rw [← hW2]; exact (Below.refl _ _).alloc (Nat.le_refl _) _)
    clear hW2
    have r0 := hS.kR.cell (o := 0) rfl
    have r1 := hS.kR.cell (o := 1) rfl
    have r2 := hS.kR.cell (o := 2) rfl
    have f0 := hS.kR.free 0
    have f1 := hS.kR.free 1
    have f2 := hS.kR.free 2
    go_wp2
    have hR2 := ((hS.kR.set 0 (.int .i64 0)).set 1 (.int .i64 0)).set 2 (.int .i64 0)
    refine bodyPost_ret (ret_moveB rfl rfl rfl hR2) rfl ⟨by rw [hpar]; rfl, ?_⟩
    iterate 3 refine Below.setCell ?_ (by simp) _
    exact hS.below
  | some m =>
    have hC : Calls Tryz.prog 24 #[.pointer (some ⟨S, 0, none⟩), .string ⟨s.toArray⟩] w1 (RetB (.tuple #[.agg #[.int .i64 m.fr, .int .i64 m.tg, .int .i64 m.into], .bool true]) w1) := by
      have := HP.out w1 S v hbw1 hSc
      rw [hpar] at this
      exact this
    have HC := Lib.hid hC
    clear hC
    go_upto_region 5 with (go_at_call 24; refine HC.out.mono ?_; rintro e w2 ⟨rfl, hb2⟩)
    generalize hW2 : World.alloc w2 _ = W2
    have hS := (hS.trans hb2).trans (w1 := W2) (by rw [← hW2]; exact (Below.refl _ _).alloc (Nat.le_refl _) _)
    have hM : Blk W2 w2.heap.size #[.int .i64 m.fr, .int .i64 m.tg, .int .i64 m.into] := by rw [← hW2]; exact Blk.new _ _ _
    clear hW2
    have m0 := hM.cell (o := 0) rfl
    have m1 := hM.cell (o := 1) rfl
    have m2 := hM.cell (o := 2) rfl
    have r0 := hS.kR.cell (o := 0) rfl
    have r1 := hS.kR.cell (o := 1) rfl
    have r2 := hS.kR.cell (o := 2) rfl
    have f0 := hS.kR.free 0
    have f1 := hS.kR.free 1
    have f2 := hS.kR.free 2
    go_wp2
    have hR2 := ((hS.kR.set 0 (.int .i64 m.fr)).set 1 (.int .i64 m.tg)).set 2 (.int .i64 m.into)
    refine bodyPost_ret (ret_moveB rfl rfl rfl hR2) rfl ⟨by rw [hpar]; rfl, ?_⟩
    iterate 3 refine Below.setCell ?_ (by simp) _
    exact hS.below

end Go.Proofs.YthffhhbbhjcdeaaGreatDoor
