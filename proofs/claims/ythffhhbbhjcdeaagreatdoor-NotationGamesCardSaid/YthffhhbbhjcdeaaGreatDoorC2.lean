/- WALKS: the program's Reach: the contract of its iterator. -/
import Derived.Test.YthffhhbbhjcdeaaGreatDoorC1
import Derived.Test.YthffhhbbhjcdeaaGreatDoorF
import Derived.RangeFuncNested
import Derived.RangeFuncBound
import Derived.RangeFuncCalls
import Derived.RangeFuncLeaves
import Derived.Shelf.Abstract
import Derived.Shelf.RegionOpen
import Derived.OwnWalkIn
import Derived.TacticsInMore
import Derived.LoopNIn
import Derived.LoopIn
import Derived.Deep.CutBlock
import Derived.Deep.RegionHeld3
set_option linter.unusedVariables false
set_option linter.unusedSimpArgs false
namespace Go.Proofs.YthffhhbbhjcdeaaGreatDoor
open Go.RowKit
attribute [local go_sem] Oper.semAt_some
set_option maxRecDepth 100000

theorem grownN_below {wx w1 : World} (h : Below wx.heap.size wx w1) : wx.grownBy w1 none := ⟨h.os, h.tape, h.output, h.size, fun k hk _ => h.block k hk⟩
theorem abides_below {α : Type} {J : α → World → Prop} {B : Nat} (hJ : AbidesFrom B J) {s : α} {A C : World} (h : J s A) (hb : Below A.heap.size A C) : J s C :=
  hJ s A C none h (grownN_below hb) (fun r e => by cases e)

/-- The iterator at work: the board, the two boxes. -/
structure RC (W : World) (b off cap bp ba bl : Nat) (L : Nat → Int) (fr : Nat) : Prop where
  brd : Brd W b off L
  pl : W.cell? ⟨bp, 0, none⟩ = some (.slice (some ⟨b, off, none⟩) 64 cap)
  at_ : W.cell? ⟨ba, 0, none⟩ = some (.int .i64 fr)
  sb : Sf bl W b
  sp : Sf bl W bp
  sa : Sf bl W ba
  ll : bl < W.heap.size
  ol : ∀ k, OwnK bl W k → k < W.heap.size
theorem RC.kp {W W' : World} {b off cap bp ba bl fr : Nat} {L : Nat → Int} (h : RC W b off cap bp ba bl L fr) (hk : KpR bl W W') : RC W' b off cap bp ba bl L fr := by
  obtain ⟨b1, b2⟩ := h.sb.kp hk
  obtain ⟨p1, p2⟩ := h.sp.kp hk
  obtain ⟨a1, a2⟩ := h.sa.kp hk
  exact ⟨⟨b1.lt, fun i hi => (cell_heap b2).trans (h.brd.cell i hi), h.brd.bd⟩, (cell_heap p2).trans h.pl, (cell_heap a2).trans h.at_, b1, p1, a1, Nat.lt_of_lt_of_le h.ll hk.size, hk.lt h.ol⟩
theorem RC.grow {W W' : World} {b off cap bp ba bl fr : Nat} {L : Nat → Int} (h : RC W b off cap bp ba bl L fr) (hb : Below W.heap.size W W') : RC W' b off cap bp ba bl L fr := h.kp (FrK.of_below hb h.ll).kp

abbrev Sq := Fin 64
def sqs (l : List Sq) : List Nat := l.map (·.val)
def sqA (x : Sq) : Array Value := #[.int .i64 (x.val : Int)]

theorem fwd_side {x : Int} (h : x = 1 ∨ x = -1) : 1 - 2 * sideR x = fwdI x := by rcases h with rfl | rfl <;> rfl

theorem movedI_lt {fr : Nat} {x y : Int} (hf : fr < 64) (h : 0 ≤ movedI fr x y) : (movedI fr x y).toNat < 64 := by
  unfold movedI at h ⊢
  split at h
  · omega
  · rw [if_neg (by assumption)]; omega

def pawnPart (fr : Nat) (x : Int) : Nat → List Nat
  | 0 => []
  | 1 => pawnL fr x (-1)
  | _ => pawnL fr x (-1) ++ pawnL fr x 1

/-- The places on a way by a step. -/
def rayOf (L : Nat → Int) (fr : Nat) (one : Bool) (s : Int × Int) : List Nat := rayL L one s.1 s.2 8 (movedI fr s.1 s.2)
/-- Where k + 1 steps lead on an empty board; -1: off it. -/
def iterM (fr : Nat) (s : Int × Int) : Nat → Int
  | 0 => movedI fr s.1 s.2
  | k + 1 => if iterM fr s k < 0 then -1 else movedI (iterM fr s k).toNat s.1 s.2
structure StepsOk (k : Int) : Prop where
  len : (stepsL k).length ≤ 8
  bd : ∀ s, s ∈ stepsL k → -2 ≤ s.1 ∧ s.1 ≤ 2 ∧ -2 ≤ s.2 ∧ s.2 ≤ 2
  out : ∀ s, s ∈ stepsL k → ∀ fr, fr < 64 → iterM fr s 7 < 0
theorem iter_out : ∀ s ∈ leapS ++ (slantS ++ straightS), ∀ fr < 64, iterM fr s 7 < 0 := by decide +kernel
theorem steps_ok {k : Int} (h0 : 2 ≤ k) (h6 : k ≤ 6) : StepsOk k := by
  have hk : k = 2 ∨ k = 3 ∨ k = 4 ∨ k = 5 ∨ k = 6 := by omega
  have hs : ∀ s, s ∈ stepsL k → s ∈ leapS ++ (slantS ++ straightS) := by
    intro s h
    rcases hk with rfl | rfl | rfl | rfl | rfl
    · exact List.mem_append_left _ h
    · exact List.mem_append_right _ (List.mem_append_left _ h)
    · exact List.mem_append_right _ (List.mem_append_right _ h)
    · exact List.mem_append_right _ h
    · exact List.mem_append_right _ h
  refine ⟨by rcases hk with rfl | rfl | rfl | rfl | rfl <;> decide, fun s h => ?_, fun s h => iter_out s (hs s h)⟩
  have key : ∀ s ∈ leapS ++ (slantS ++ straightS), -2 ≤ s.1 ∧ s.1 ≤ 2 ∧ -2 ≤ s.2 ∧ s.2 ≤ 2 := by decide
  exact key s (hs s h)

theorem iterM_lt {fr : Nat} {s : Int × Int} (hf : fr < 64) : ∀ k, 0 ≤ iterM fr s k → iterM fr s k < 64
  | 0, h => by have := movedI_lt hf h; unfold iterM at h ⊢; omega
  | k + 1, h => by
    unfold iterM at h ⊢
    split at h
    · omega
    · rename_i h2
      rw [if_neg h2]
      have := iterM_lt (s := s) hf k (by omega)
      have := movedI_lt (fr := (iterM fr s k).toNat) (x := s.1) (y := s.2) (by omega) h
      omega

def ReachPost (J Jx : List Sq → World → Prop) (l : List Nat) (e : Ending) (W' : World) : Prop := (∃ v, e = .returned v) ∧ ((∃ xs, sqs xs = l ∧ J xs W') ∨ ∃ pre, sqs pre <+: l ∧ Jx pre W')

set_option maxHeartbeats 4000000 in
theorem reach_stops (b off cap bp ba bl : Nat) (L : Nat → Int) (fr n : Nat) (w : World) (hf : fr < 64) (hC : RC w b off cap bp ba bl L fr) :
    SeqStopsK Fence.wide n Tryz.prog 102 #[.pointer (some ⟨bp, 0, none⟩), .pointer (some ⟨ba, 0, none⟩)] sqA (KpR bl) (fun xs => sqs xs = reachL L fr) (fun pre => sqs pre <+: reachL L fr) (reachL L fr).length w := by
  intro l J Jx W hW hJ hJx hY h0
  refine callsIn_wide.2 ?_
  show Calls Tryz.prog 102 #[.func (.yield l) #[] #[], .pointer (some ⟨bp, 0, none⟩), .pointer (some ⟨ba, 0, none⟩)] W (ReachPost J Jx (reachL L fr))
  replace hC := hC.grow hW
  have hJ0 := fun s A C (h : J s A) hb => abides_below hJ h (C := C) hb
  have HY := Lib.hid hY
  clear hY hW hJ hJx w
  have hx0 := (hC.brd.bd fr).1
  have hx1 := (hC.brd.bd fr).2
  have c1 := hC.pl
  have c2 := hC.at_
  have c3 := hC.brd.cell fr hf
  have hz := sizeI_cases hx0 hx1
  have hr : reachL L fr = if sizeI (L fr) = 0 then [] else if sizeI (L fr) = 1 then pawnPart fr (L fr) 2
    else (stepsL (sizeI (L fr))).flatMap fun s => rayL L (oneB (sizeI (L fr))) s.1 s.2 8 (movedI fr s.1 s.2) := rfl
  have Hr := Lib.hid hr
  clear hr
  generalize hx : L fr = x at *
  have Hx := Lib.hid hx
  clear hx
  cases k0 : (sizeI x == 0)
  case true =>
    go_enter Tryz.func102, Tryz.ntmps102
    go_wp2_with (go_at_call 59; refine (kindP_any _ _ (by omega) (by omega)).mono ?_; rintro e w' ⟨rfl, rfl⟩)
    go_end0
    refine ⟨⟨_, rfl⟩, .inl ⟨[], ?_, h0⟩⟩
    simp at k0
    rw [Hr.out, if_pos k0]
    rfl
  case false =>
  cases k1 : (sizeI x == 1)
  case true =>
    go_enter Tryz.func102, Tryz.ntmps102
    go_wp2_with (go_at_call 59; refine (kindP_any _ _ (by omega) (by omega)).mono ?_; rintro e w' ⟨rfl, rfl⟩)
    have hx1' : x = 1 ∨ x = -1 := by simp at k1; unfold sizeI at k1; split at k1 <;> omega
    have hfd := fwd_side hx1'
    have hfb : fwdI x = 1 ∨ fwdI x = -1 := by rcases hx1' with rfl | rfl <;> simp [fwdI]
    have hsb : sideR x = 0 ∨ sideR x = 1 := by rcases hx1' with rfl | rfl <;> simp [sideR]
    replace hr : reachL L fr = pawnPart fr x 2 := by
      simp at k1
      rw [Hr.out, if_neg (by omega), if_pos k1]
    clear Hr
    have Hr := Lib.hid hr
    have Hfd := Lib.hid hfd
    have Hpc := Lib.hid (And.intro hx1' (And.intro hfb hsb))
    clear hr hfd hx1' hfb hsb
    go_loopg [57] 2 (fun g s57 wr => ∃ (k : Nat) (pre : List Sq), k ≤ 2 ∧ g = 2 - k ∧ s57 = .int .i64 k ∧ J pre wr ∧ RC wr b off cap bp ba bl L fr ∧ sqs pre = pawnPart fr x k)
    case atStart => exact ⟨0, [], by omega, rfl, rfl, h0, hC, rfl⟩
    case round =>
    clear h0 hC c1 c2 c3
    obtain ⟨k, pre, hk, hg, rfl, hJp, hC, hpre⟩ := hrel
    have Hg := Lib.hid hg
    have Hpre := Lib.hid hpre
    clear hg hpre
    by_cases hk2 : k = 2
    · subst hk2
      go_wp2
      go_end0
      exact ⟨⟨_, rfl⟩, .inl ⟨pre, by rw [Hpre.out, Hr.out], hJp⟩⟩
    obtain ⟨d, hd, hidx, hpp⟩ : ∃ d : Int, (d = -1 ∨ d = 1) ∧ (∀ w, (Instr.index 83 (.agg #[.int .i64 (-1), .int .i64 1]) (.int .i64 k)).run Tryz.prog w = .ok (.int .i64 d) w) ∧ pawnPart fr x (k + 1) = pawnPart fr x k ++ pawnL fr x d := by
      have hk' : k = 0 ∨ k = 1 := by omega
      rcases hk' with rfl | rfl
      · exact ⟨-1, .inl rfl, fun _ => by kernel_rfl, rfl⟩
      · exact ⟨1, .inr rfl, fun _ => by kernel_rfl, rfl⟩
    have hklt : k < 2 := by omega
    have hdk : decide ((k : Int) < 2) = true := by simp; omega
    have hki : (k : Int) < 2 := by omega
    clear hk2 hk
    have Hpp := Lib.hid hpp
    have Hd := Lib.hid hd
    clear hpp hd
    have c2 := hC.at_
    go_upto_region 17 with fail
    go_cut [8] from 60 to 66 (fun s8 wx => s8 = .int .i64 (movedI fr d (fwdI x)) ∧ J pre wx ∧ RC wx b off cap bp ba bl L fr)
    case first =>
      have hla := hC.sa.lt
      go_region_held3 (fun w' => w'.cell? ⟨ba, 0, none⟩ = some (.int .i64 fr)) (first | exact (hb1.cell (p := ⟨ba, 0, none⟩) hla).trans c2 | go_keep)
        (first
        | (go_at_call 60; refine (sideP_any _ _).mono ?_; rintro e w' ⟨rfl, rfl⟩)
        | (go_at_call 63; refine (forwardP_any _ _ (by have := Hpc.out; omega) (by have := Hpc.out; omega)).mono ?_; rintro e w' ⟨rfl, rfl⟩; rw [Hfd.out])
        | (go_at_call 103; refine (movedP_any fr d (fwdI x) _ hf (by have := Hd.out; omega) (by have := Hd.out; omega) (by have := Hpc.out; omega) (by have := Hpc.out; omega)).mono ?_; rintro e w' ⟨rfl, hb1⟩))
      go_wp2
      go_meet
      have hb2 : Below wr.heap.size wr w' := ((Below.refl wr.heap.size wr).drew).trans hb1
      exact ⟨rfl, hJ0 _ _ _ hJp hb2, hC.grow hb2⟩
    case rest =>
    clear hC hJp c2 hidx
    obtain ⟨rfl, hJp, hC⟩ := hcut
    have hpl : pawnL fr x d = if movedI fr d (fwdI x) < 0 then [] else [(movedI fr d (fwdI x)).toNat] := rfl
    rw [hpl] at Hpp
    clear hpl
    have hml := @movedI_lt fr d (fwdI x) hf
    generalize movedI fr d (fwdI x) = mv at *
    cases hm : decide (0 ≤ mv)
    case false =>
      go_wp2
      go_roundg (2 - (k + 1))
      case measure => have := Hg.out; omega
      case rel =>
        refine ⟨k + 1, pre, by omega, rfl, by go_num, hJp, hC, ?_⟩
        have h1 := Hpp.out
        rw [if_pos (by simp at hm; omega)] at h1
        rw [Hpre.out, h1, List.append_nil]
    case true =>
    have hm0 : 0 ≤ mv := by simpa using hm
    obtain ⟨q, rfl⟩ := Int.eq_ofNat_of_zero_le hm0
    have hq : q < 64 := hml hm0
    have Hm := Lib.hid hm
    clear hml hm
    have hpp := Hpp.out
    rw [if_neg (by omega)] at hpp
    clear Hpp
    have hlen : pre.length < (reachL L fr).length := by
      have h1 : pre.length = (pawnPart fr x k).length := by rw [← Hpre.out]; simp [sqs]
      have h2 : (pawnPart fr x (k + 1)).length = (pawnPart fr x k).length + 1 := by rw [hpp]; simp
      have h3 : (pawnPart fr x (k + 1)).length ≤ (reachL L fr).length := by
        rw [Hr.out]
        have hk' : k = 0 ∨ k = 1 := by omega
        rcases hk' with rfl | rfl
        · simp [pawnPart]
        · exact Nat.le_refl _
      omega
    have Hpp := Lib.hid hpp
    clear hpp
    obtain ⟨fn, tmps, assign, body, hy, hR⟩ := HY.out pre ⟨q, hq⟩ wc hJp hlen
    dsimp only [sqA] at hy
    go_upto_region 18 with fail
    refine (wpIn_wide (n := n)).1 ?_
    gi_wp2
    refine ⟨fun h => by simp [Fence.wide] at h, ?_⟩
    refine hR.mono ?_
    rintro e W2 (⟨rfl, hJ2, hk2⟩ | ⟨rfl, hJx2⟩)
    · replace hC := hC.kp hk2
      gi_wp2
      go_wp2
      go_roundg (2 - (k + 1))
      case measure => have := Hg.out; omega
      case rel =>
        refine ⟨k + 1, pre ++ [⟨q, hq⟩], by omega, rfl, by go_num, hJ2, hC, ?_⟩
        rw [Hpp.out, sqs, List.map_append, ← sqs, Hpre.out]
        rfl
    · gi_wp2
      go_wp2
      refine bodyPost_ret (results_none rfl _ _ _) rfl ?_
      refine ⟨⟨_, rfl⟩, .inr ⟨pre ++ [⟨q, hq⟩], ?_, hJx2⟩⟩
      rw [sqs, List.map_append, ← sqs, Hpre.out]
      have h1 := Hpp.out
      have hk' : k = 0 ∨ k = 1 := by omega
      rw [Hr.out]
      rcases hk' with rfl | rfl
      · refine ⟨pawnL fr x 1, ?_⟩
        simp only [List.map_cons, List.map_nil]
        rw [← show ((q : Int)).toNat = q from rfl, ← h1]
        rfl
      · refine ⟨[], ?_⟩
        simp only [List.map_cons, List.map_nil]
        rw [← show ((q : Int)).toNat = q from rfl, ← h1, List.append_nil]
  case false =>
  have hst : StepsOk (sizeI x) := steps_ok (by simp at k0 k1; omega) (by omega)
  replace hr : reachL L fr = (stepsL (sizeI x)).flatMap (rayOf L fr (oneB (sizeI x))) := by
    simp at k0 k1
    rw [Hr.out, if_neg k0, if_neg k1]; rfl
  clear Hr
  have Hr := Lib.hid hr
  have Hst := Lib.hid hst
  clear hr hst
  have hk2 : 2 ≤ sizeI x := by simp at k0 k1; omega
  have hk6 : sizeI x ≤ 6 := by omega
  go_enter Tryz.func102, Tryz.ntmps102
  go_wp2_with (first
    | (go_at_call 59; refine (kindP_any _ _ (by omega) (by omega)).mono ?_; rintro e w' ⟨rfl, rfl⟩)
    | (go_at_call 104; refine (stepsP_any _ _ hk2 hk6).mono ?_; rintro e w1 ⟨g, cp, rfl, hS, hb1, hg0, cs0, hB0⟩))
  have hJ1 := hJ0 _ _ _ h0 hb1
  have hC1 := hC.grow hb1
  have hSg : Sf bl w1 g := Sf.fresh hb1 hg0 hC.ll hC.ol hB0
  clear hC h0 c1 c2 c3 hB0
  have hlen := Hst.out.len
  generalize hSs : stepsL (sizeI x) = S at *
  have HS := Lib.hid hSs
  clear hSs
  go_loopg [22] S.length (fun gg s22 wr => ∃ (i : Nat) (pre : List Sq), i ≤ S.length ∧ gg = S.length - i ∧ s22 = .int .i64 i ∧ J pre wr ∧ RC wr b off cap bp ba bl L fr ∧ StepRow wr g S ∧ Sf bl wr g ∧ sqs pre = (S.take i).flatMap (rayOf L fr (oneB (sizeI x))))
  case atStart => exact ⟨0, [], by omega, rfl, rfl, hJ1, hC1, hS, hSg, by simp [sqs]⟩
  case round =>
  clear hJ1 hC1 hS hSg
  obtain ⟨i, pre, hi, hg, rfl, hJp, hC, hS, hSg, hpre⟩ := hrel
  have Hg := Lib.hid hg
  have Hpre := Lib.hid hpre
  clear hg hpre
  by_cases hil : i = S.length
  · subst hil
    go_wp2
    go_end0
    exact ⟨⟨_, rfl⟩, .inl ⟨pre, by rw [Hpre.out, Hr.out, List.take_length], hJp⟩⟩
  have hlt : i < S.length := by omega
  clear hil hi
  obtain ⟨s, hs⟩ : ∃ s, S[i]? = some s := ⟨S[i], List.getElem?_eq_getElem hlt⟩
  have hmem : s ∈ stepsL (sizeI x) := by rw [HS.out]; exact List.mem_of_getElem? hs
  obtain ⟨s1, s2⟩ := s
  have hbd := Hst.out.bd _ hmem
  have hout := Hst.out.out _ hmem fr hf
  dsimp only at hbd
  have htk : (S.take (i + 1)).flatMap (rayOf L fr (oneB (sizeI x))) = (S.take i).flatMap (rayOf L fr (oneB (sizeI x))) ++ rayOf L fr (oneB (sizeI x)) (s1, s2) := by
    rw [List.take_add_one, hs, List.flatMap_append]; simp
  have Htk := Lib.hid htk
  have Hout := Lib.hid hout
  clear htk hout hmem
  obtain ⟨q1, q2⟩ := hS.cell i _ hs
  dsimp only at q1 q2
  have Hs := Lib.hid hs
  clear hs
  have c2 := hC.at_
  have hki : (i : Int) < S.length := by omega
  go_upto_block 2 with fail
  go_cut [11] from 24 to 50 (fun s11 wx => ∃ mid : List Sq, J (pre ++ mid) wx ∧ RC wx b off cap bp ba bl L fr ∧ StepRow wx g S ∧ Sf bl wx g ∧ sqs mid = rayOf L fr (oneB (sizeI x)) (s1, s2))
  case rest =>
    clear hJp hC hS hSg q1 q2 c2
    obtain ⟨mid, hJp, hC, hS, hSg, hmid⟩ := hcut
    go_wp2
    go_roundg (S.length - (i + 1))
    case measure => have := Hg.out; omega
    case rel => exact ⟨i + 1, pre ++ mid, by omega, rfl, by go_num, hJp, hC, hS, hSg, by rw [sqs, List.map_append, ← sqs, ← sqs, Hpre.out, hmid, Htk.out]⟩
  case first =>
  go_upto_region 6 with fail
  generalize hW0 : World.alloc _ _ = W0
  have hb3 : Below wr.heap.size wr W0 := by rw [← hW0]; exact (Below.refl wr.heap.size wr).alloc (Nat.le_refl _) _
  have hSx : Sf bl W0 wr.heap.size := by rw [← hW0]; exact Sf.new rfl hC.ll hC.ol #[.int .i64 s1, .int .i64 s2] 131
  have hX : Blk W0 wr.heap.size #[.int .i64 s1, .int .i64 s2] := by rw [← hW0]; exact Blk.new _ _ _
  clear hW0 q1 q2 c2
  replace hJp := hJ0 _ _ _ hJp hb3
  replace hS := hS.below hb3 hS.lt
  replace hSg := hSg.below hb3 hC.ll
  replace hC := hC.grow hb3
  clear hb3
  generalize wr.heap.size = bx at *
  go_cut [11] from 26 to 28 (fun s11 wx => s11 = .int .i64 (movedI fr s1 s2) ∧ J pre wx ∧ RC wx b off cap bp ba bl L fr ∧ StepRow wx g S ∧ Sf bl wx g ∧ Blk wx bx #[.int .i64 s1, .int .i64 s2] ∧ Sf bl wx bx)
  case first =>
    have c2 := hC.at_
    have x0 := hX.cell (o := 0) rfl
    have x1 := hX.cell (o := 1) rfl
    go_wp2_with (go_at_call 103; refine (movedP_any fr s1 s2 _ hf (by omega) (by omega) (by omega) (by omega)).mono ?_; rintro e w2 ⟨rfl, hb2⟩)
    go_meet
    exact ⟨rfl, hJ0 _ _ _ hJp hb2, hC.grow hb2, hS.below hb2 hS.lt, hSg.below hb2 hC.ll, hX.below hb2 hX.lt, hSx.below hb2 hC.ll⟩
  case rest =>
  clear hJp hC hS hSg hX hSx
  obtain ⟨rfl, hJp, hC, hS, hSg, hX, hSx⟩ := hcut
  have hin : (reachL L fr) = (S.take i).flatMap (rayOf L fr (oneB (sizeI x))) ++ rayOf L fr (oneB (sizeI x)) (s1, s2) ++ (S.drop (i + 1)).flatMap (rayOf L fr (oneB (sizeI x))) := by
    rw [← Htk.out, Hr.out, ← List.flatMap_append, List.take_append_drop]
  have Hin := Lib.hid hin
  clear hin
  go_wp2_with fail
  go_loopg [11] 8 (fun gg s11 wx => ∃ (k : Nat) (mid : List Sq), k ≤ 7 ∧ gg = 8 - k ∧ s11 = .int .i64 (iterM fr (s1, s2) k) ∧ J (pre ++ mid) wx ∧ RC wx b off cap bp ba bl L fr ∧ StepRow wx g S ∧ Sf bl wx g ∧ Blk wx bx #[.int .i64 s1, .int .i64 s2] ∧ Sf bl wx bx
    ∧ sqs mid ++ rayL L (oneB (sizeI x)) s1 s2 (8 - k) (iterM fr (s1, s2) k) = rayOf L fr (oneB (sizeI x)) (s1, s2))
  case atStart => exact ⟨0, [], by omega, rfl, rfl, by simpa using hJp, hC, hS, hSg, hX, hSx, by simp [sqs, rayOf, iterM]⟩
  case round =>
  clear hJp hC hS hSg hX hSx
  obtain ⟨k, mid, hk, hgg, rfl, hJp, hC, hS, hSg, hX, hSx, hmid⟩ := hrel
  have Hgg := Lib.hid hgg
  have hnext : iterM fr (s1, s2) (k + 1) = if iterM fr (s1, s2) k < 0 then -1 else movedI (iterM fr (s1, s2) k).toNat s1 s2 := rfl
  have hk7 : 0 ≤ iterM fr (s1, s2) k → k < 7 := by
    intro h
    rcases Nat.lt_or_ge k 7 with h7 | h7
    · exact h7
    · have : k = 7 := by omega
      subst this
      have := Hout.out
      omega
  have hlt64 := iterM_lt (fr := fr) (s := (s1, s2)) hf k
  generalize iterM fr (s1, s2) k = tg at *
  have hray : rayL L (oneB (sizeI x)) s1 s2 (8 - k) tg = if tg < 0 then [] else tg.toNat :: (if L tg.toNat ≠ 0 ∨ oneB (sizeI x) = true then [] else rayL L (oneB (sizeI x)) s1 s2 (7 - k) (movedI tg.toNat s1 s2)) := by
    rw [show 8 - k = (7 - k) + 1 by omega]; rfl
  rw [hray] at hmid
  clear hgg hray
  cases hm : decide (0 ≤ tg)
  case false =>
    rw [if_pos (by simp at hm; omega), List.append_nil] at hmid
    have Hmid := Lib.hid hmid
    clear hmid hnext hk7 hlt64
    go_wp2
    go_meet
    exact ⟨mid, hJp, hC, hS, hSg, Hmid.out⟩
  case true =>
  have hm0 : 0 ≤ tg := by simpa using hm
  obtain ⟨q, rfl⟩ := Int.eq_ofNat_of_zero_le hm0
  have hq : q < 64 := by have := hlt64 hm0; omega
  replace hk7 := hk7 hm0
  rw [if_neg (by omega)] at hmid hnext
  rw [show ((q : Int)).toNat = q from rfl] at hmid hnext
  clear hlt64 hm hm0 hk
  have Hnext := Lib.hid hnext
  have hlen2 : (pre ++ mid).length < (reachL L fr).length := by
    rw [Hin.out, ← hmid, ← Hpre.out]
    simp [sqs]
  have Hmid := Lib.hid hmid
  have hpfx : sqs (pre ++ mid ++ [⟨q, hq⟩]) <+: reachL L fr := by
    rw [Hin.out, ← hmid, ← Hpre.out]
    simp only [sqs, List.map_append, List.map_cons, List.map_nil, List.append_assoc, List.cons_append, List.nil_append]
    refine ⟨(if L q ≠ 0 ∨ oneB (sizeI x) = true then [] else rayL L (oneB (sizeI x)) s1 s2 (7 - k) (movedI q s1 s2)) ++ (S.drop (i + 1)).flatMap (rayOf L fr (oneB (sizeI x))), ?_⟩
    simp only [List.append_assoc, List.cons_append, List.nil_append]
  have Hpfx := Lib.hid hpfx
  clear hnext hmid hpfx
  obtain ⟨fn, tmps, assign, body, hy, hR⟩ := HY.out (pre ++ mid) ⟨q, hq⟩ wr hJp hlen2
  dsimp only [sqA] at hy
  go_upto_region 9 with fail
  refine (wpIn_wide (n := n)).1 ?_
  gi_wp2
  refine ⟨fun h => by simp [Fence.wide] at h, ?_⟩
  refine hR.mono ?_
  rintro e W2 (⟨rfl, hJ2, hkp⟩ | ⟨rfl, hJx2⟩)
  case inr =>
    gi_wp2
    go_wp2
    refine bodyPost_ret (results_none rfl _ _ _) rfl ?_
    exact ⟨⟨_, rfl⟩, .inr ⟨pre ++ mid ++ [⟨q, hq⟩], Hpfx.out, hJx2⟩⟩
  case inl =>
  replace hC := hC.kp hkp
  obtain ⟨hSg, hg2⟩ := hSg.kp hkp
  obtain ⟨hSx, hx2⟩ := hSx.kp hkp
  replace hX := hX.of_heap hx2
  replace hS : StepRow W2 g S := ⟨hSg.lt, fun i s h => ⟨(cell_heap hg2).trans (hS.cell i s h).1, (cell_heap hg2).trans (hS.cell i s h).2⟩⟩
  clear hy hR hkp hJp hg2 hx2
  have c1 := hC.pl
  have c3 := hC.brd.cell q hq
  have x0 := hX.cell (o := 0) rfl
  have x1 := hX.cell (o := 1) rfl
  have hob : oneB (sizeI x) = ((sizeI x == 2) || (sizeI x == 6)) := rfl
  have Hob := Lib.hid hob
  clear hob
  cases e0 : (L q != 0)
  case true =>
    gi_wp2
    go_wp2
    go_meet
    refine ⟨mid ++ [⟨q, hq⟩], by simpa using hJ2, hC, hS, hSg, ?_⟩
    rw [← Hmid.out, if_pos (.inl (by simpa using e0))]
    simp [sqs]
  case false =>
  cases e2 : (sizeI x == 2)
  case true =>
    gi_wp2
    go_wp2
    go_meet
    refine ⟨mid ++ [⟨q, hq⟩], by simpa using hJ2, hC, hS, hSg, ?_⟩
    rw [← Hmid.out, if_pos (.inr (by rw [Hob.out, e2]; rfl))]
    simp [sqs]
  case false =>
  cases e6 : (sizeI x == 6)
  case true =>
    gi_wp2
    go_wp2
    go_meet
    refine ⟨mid ++ [⟨q, hq⟩], by simpa using hJ2, hC, hS, hSg, ?_⟩
    rw [← Hmid.out, if_pos (.inr (by rw [Hob.out, e2, e6]; rfl))]
    simp [sqs]
  case false =>
  gi_wp2
  go_wp2_with (go_at_call 103; refine (movedP_any q s1 s2 _ hq (by omega) (by omega) (by omega) (by omega)).mono ?_; rintro e w2 ⟨rfl, hb2⟩)
  go_roundg (8 - (k + 1))
  case measure => have := Hgg.out; omega
  case rel =>
    refine ⟨k + 1, mid ++ [⟨q, hq⟩], by omega, rfl, by rw [Hnext.out], by simpa using hJ0 _ _ _ hJ2 hb2, hC.grow hb2, hS.below hb2 hS.lt, hSg.below hb2 hC.ll, hX.below hb2 hX.lt, hSx.below hb2 hC.ll, ?_⟩
    have h1 := Hmid.out
    rw [if_neg (by simp [Hob.out, e2, e6] at e0 ⊢; exact e0)] at h1
    rw [← h1, Hnext.out, show 8 - (k + 1) = 7 - k by omega]
    simp [sqs]

end Go.Proofs.YthffhhbbhjcdeaaGreatDoor
