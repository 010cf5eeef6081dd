/- WALKS: the program's Reach: the contract of its iterator, where a round may count on what comes being a place that is reached. -/
import Derived.Test.YthffhhbbhjcdeaaGreatDoorC2
set_option linter.unusedVariables false
set_option linter.unusedSimpArgs false
namespace Go.Proofs.YthffhhbbhjcdeaaGreatDoor
open Go.RowKit
attribute [local go_sem] Oper.semAt_some
set_option maxRecDepth 100000

/-- A place that is reached. -/
abbrev Sr (L : Nat → Int) (fr : Nat) := { x : Fin 64 // x.val ∈ reachL L fr }
def sqr {L : Nat → Int} {fr : Nat} (l : List (Sr L fr)) : List Nat := l.map (·.val.val)
def sqAr {L : Nat → Int} {fr : Nat} (x : Sr L fr) : Array Value := #[.int .i64 (x.val.val : Int)]

theorem sqr_app {L : Nat → Int} {fr : Nat} (a b : List (Sr L fr)) : sqr (a ++ b) = sqr a ++ sqr b := by simp [sqr]
theorem sqr_snoc {L : Nat → Int} {fr : Nat} (a : List (Sr L fr)) (x : Sr L fr) : sqr (a ++ [x]) = sqr a ++ [x.val.val] := by simp [sqr]

def ReachPostR {L : Nat → Int} {fr : Nat} (J Jx : List (Sr L fr) → World → Prop) (l : List Nat) (e : Ending) (W' : World) : Prop := (∃ v, e = .returned v) ∧ ((∃ xs, sqr xs = l ∧ J xs W') ∨ ∃ pre, sqr pre <+: l ∧ Jx pre W')

set_option maxHeartbeats 4000000 in
theorem reachR_stops (b off cap bp ba bl : Nat) (L : Nat → Int) (fr n : Nat) (w : World) (hf : fr < 64) (hC : RC w b off cap bp ba bl L fr) :
    SeqStopsK Fence.wide n Tryz.prog 102 #[.pointer (some ⟨bp, 0, none⟩), .pointer (some ⟨ba, 0, none⟩)] (sqAr (L := L) (fr := fr)) (KpR bl) (fun (xs : List (Sr L fr)) => sqr xs = reachL L fr) (fun (pre : List (Sr L fr)) => sqr pre <+: reachL L fr) (reachL L fr).length w := by
  intro l J Jx W hW hJ hJx hY h0
  refine callsIn_wide.2 ?_
  show Calls Tryz.prog 102 #[.func (.yield l) #[] #[], .pointer (some ⟨bp, 0, none⟩), .pointer (some ⟨ba, 0, none⟩)] W (ReachPostR J Jx (reachL L fr))
  replace hC := hC.grow hW
  have hJ0 := fun s A C (h : J s A) hb => abides_below hJ h (C := C) hb
  have HY := Lib.hid hY
  clear hY hW hJ hJx w
  have hx0 := (hC.brd.bd fr).1
  have hx1 := (hC.brd.bd fr).2
  have c1 := hC.pl
  have c2 := hC.at_
  have c3 := hC.brd.cell fr hf
  have hz := sizeI_cases hx0 hx1
  have hr : reachL L fr = if sizeI (L fr) = 0 then [] else if sizeI (L fr) = 1 then pawnPart fr (L fr) 2
    else (stepsL (sizeI (L fr))).flatMap fun s => rayL L (oneB (sizeI (L fr))) s.1 s.2 8 (movedI fr s.1 s.2) := rfl
  have Hr := Lib.hid hr
  clear hr
  generalize hx : L fr = x at *
  have Hx := Lib.hid hx
  clear hx
  cases k0 : (sizeI x == 0)
  case true =>
    go_enter Tryz.func102, Tryz.ntmps102
    go_wp2_with (go_at_call 59; refine (kindP_any _ _ (by omega) (by omega)).mono ?_; rintro e w' ⟨rfl, rfl⟩)
    go_end0
    refine ⟨⟨_, rfl⟩, .inl ⟨[], ?_, h0⟩⟩
    simp at k0
    rw [Hr.out, if_pos k0]
    rfl
  case false =>
  cases k1 : (sizeI x == 1)
  case true =>
    go_enter Tryz.func102, Tryz.ntmps102
    go_wp2_with (go_at_call 59; refine (kindP_any _ _ (by omega) (by omega)).mono ?_; rintro e w' ⟨rfl, rfl⟩)
    have hx1' : x = 1 ∨ x = -1 := by simp at k1; unfold sizeI at k1; split at k1 <;> omega
    have hfd := fwd_side hx1'
    have hfb : fwdI x = 1 ∨ fwdI x = -1 := by rcases hx1' with rfl | rfl <;> simp [fwdI]
    have hsb : sideR x = 0 ∨ sideR x = 1 := by rcases hx1' with rfl | rfl <;> simp [sideR]
    replace hr : reachL L fr = pawnPart fr x 2 := by
      simp at k1
      rw [Hr.out, if_neg (by omega), if_pos k1]
    clear Hr
    have Hr := Lib.hid hr
    have Hfd := Lib.hid hfd
    have Hpc := Lib.hid (And.intro hx1' (And.intro hfb hsb))
    clear hr hfd hx1' hfb hsb
    go_loopg [57] 2 (fun g s57 wr => ∃ (k : Nat) (pre : List (Sr L fr)), k ≤ 2 ∧ g = 2 - k ∧ s57 = .int .i64 k ∧ J pre wr ∧ RC wr b off cap bp ba bl L fr ∧ sqr pre = pawnPart fr x k)
    case atStart => exact ⟨0, [], by omega, rfl, rfl, h0, hC, rfl⟩
    case round =>
    clear h0 hC c1 c2 c3
    obtain ⟨k, pre, hk, hg, rfl, hJp, hC, hpre⟩ := hrel
    have Hg := Lib.hid hg
    have Hpre := Lib.hid hpre
    clear hg hpre
    by_cases hk2 : k = 2
    · subst hk2
      go_wp2
      go_end0
      exact ⟨⟨_, rfl⟩, .inl ⟨pre, by rw [Hpre.out, Hr.out], hJp⟩⟩
    obtain ⟨d, hd, hidx, hpp⟩ : ∃ d : Int, (d = -1 ∨ d = 1) ∧ (∀ w, (Instr.index 83 (.agg #[.int .i64 (-1), .int .i64 1]) (.int .i64 k)).run Tryz.prog w = .ok (.int .i64 d) w) ∧ pawnPart fr x (k + 1) = pawnPart fr x k ++ pawnL fr x d := by
      have hk' : k = 0 ∨ k = 1 := by omega
      rcases hk' with rfl | rfl
      · exact ⟨-1, .inl rfl, fun _ => by kernel_rfl, rfl⟩
      · exact ⟨1, .inr rfl, fun _ => by kernel_rfl, rfl⟩
    have hklt : k < 2 := by omega
    have hdk : decide ((k : Int) < 2) = true := by simp; omega
    have hki : (k : Int) < 2 := by omega
    clear hk2 hk
    have Hpp := Lib.hid hpp
    have Hd := Lib.hid hd
    clear hpp hd
    have c2 := hC.at_
    go_upto_region 17 with fail
    go_cut [8] from 60 to 66 (fun s8 wx => s8 = .int .i64 (movedI fr d (fwdI x)) ∧ J pre wx ∧ RC wx b off cap bp ba bl L fr)
    case first =>
      have hla := hC.sa.lt
      go_region_held3 (fun w' => w'.cell? ⟨ba, 0, none⟩ = some (.int .i64 fr)) (first | exact (hb1.cell (p := ⟨ba, 0, none⟩) hla).trans c2 | go_keep)
        (first
        | (go_at_call 60; refine (sideP_any _ _).mono ?_; rintro e w' ⟨rfl, rfl⟩)
        | (go_at_call 63; refine (forwardP_any _ _ (by have := Hpc.out; omega) (by have := Hpc.out; omega)).mono ?_; rintro e w' ⟨rfl, rfl⟩; rw [Hfd.out])
        | (go_at_call 103; refine (movedP_any fr d (fwdI x) _ hf (by have := Hd.out; omega) (by have := Hd.out; omega) (by have := Hpc.out; omega) (by have := Hpc.out; omega)).mono ?_; rintro e w' ⟨rfl, hb1⟩))
      go_wp2
      go_meet
      have hb2 : Below wr.heap.size wr w' := ((Below.refl wr.heap.size wr).drew).trans hb1
      exact ⟨rfl, hJ0 _ _ _ hJp hb2, hC.grow hb2⟩
    case rest =>
    clear hC hJp c2 hidx
    obtain ⟨rfl, hJp, hC⟩ := hcut
    have hpl : pawnL fr x d = if movedI fr d (fwdI x) < 0 then [] else [(movedI fr d (fwdI x)).toNat] := rfl
    rw [hpl] at Hpp
    clear hpl
    have hml := @movedI_lt fr d (fwdI x) hf
    generalize movedI fr d (fwdI x) = mv at *
    cases hm : decide (0 ≤ mv)
    case false =>
      go_wp2
      go_roundg (2 - (k + 1))
      case measure => have := Hg.out; omega
      case rel =>
        refine ⟨k + 1, pre, by omega, rfl, by go_num, hJp, hC, ?_⟩
        have h1 := Hpp.out
        rw [if_pos (by simp at hm; omega)] at h1
        rw [Hpre.out, h1, List.append_nil]
    case true =>
    have hm0 : 0 ≤ mv := by simpa using hm
    obtain ⟨q, rfl⟩ := Int.eq_ofNat_of_zero_le hm0
    have hq : q < 64 := hml hm0
    have Hm := Lib.hid hm
    clear hml hm
    have hpp := Hpp.out
    rw [if_neg (by omega)] at hpp
    clear Hpp
    have hlen : pre.length < (reachL L fr).length := by
      have h1 : pre.length = (pawnPart fr x k).length := by rw [← Hpre.out]; simp [sqr]
      have h2 : (pawnPart fr x (k + 1)).length = (pawnPart fr x k).length + 1 := by rw [hpp]; simp
      have h3 : (pawnPart fr x (k + 1)).length ≤ (reachL L fr).length := by
        rw [Hr.out]
        have hk' : k = 0 ∨ k = 1 := by omega
        rcases hk' with rfl | rfl
        · simp [pawnPart]
        · exact Nat.le_refl _
      omega
    have Hpp := Lib.hid hpp
    clear hpp
    have hqm : q ∈ reachL L fr := by
      have h1 := Hpp.out
      rw [Hr.out]
      have hk' : k = 0 ∨ k = 1 := by omega
      rcases hk' with rfl | rfl
      · refine List.mem_append_left _ ?_
        rw [show pawnL fr x (-1) = pawnPart fr x (0 + 1) from rfl, h1]; simp
      · show q ∈ pawnPart fr x (1 + 1)
        rw [h1]; simp
    obtain ⟨fn, tmps, assign, body, hy, hR⟩ := HY.out pre ⟨⟨q, hq⟩, hqm⟩ wc hJp hlen
    dsimp only [sqAr] at hy
    go_upto_region 18 with fail
    refine (wpIn_wide (n := n)).1 ?_
    gi_wp2
    refine ⟨fun h => by simp [Fence.wide] at h, ?_⟩
    refine hR.mono ?_
    rintro e W2 (⟨rfl, hJ2, hk2⟩ | ⟨rfl, hJx2⟩)
    · replace hC := hC.kp hk2
      gi_wp2
      go_wp2
      go_roundg (2 - (k + 1))
      case measure => have := Hg.out; omega
      case rel =>
        refine ⟨k + 1, pre ++ [⟨⟨q, hq⟩, hqm⟩], by omega, rfl, by go_num, hJ2, hC, ?_⟩
        rw [Hpp.out, sqr, List.map_append, ← sqr, Hpre.out]
        rfl
    · gi_wp2
      go_wp2
      refine bodyPost_ret (results_none rfl _ _ _) rfl ?_
      refine ⟨⟨_, rfl⟩, .inr ⟨pre ++ [⟨⟨q, hq⟩, hqm⟩], ?_, hJx2⟩⟩
      rw [sqr_snoc, Hpre.out]
      show _ ++ [q] <+: _
      have h1 := Hpp.out
      have hk' : k = 0 ∨ k = 1 := by omega
      rw [Hr.out]
      rcases hk' with rfl | rfl
      · refine ⟨pawnL fr x 1, ?_⟩
        try simp only [List.map_cons, List.map_nil]
        rw [← show ((q : Int)).toNat = q from rfl, ← h1]
        rfl
      · refine ⟨[], ?_⟩
        try simp only [List.map_cons, List.map_nil]
        rw [← show ((q : Int)).toNat = q from rfl, ← h1, List.append_nil]
  case false =>
  have hst : StepsOk (sizeI x) := steps_ok (by simp at k0 k1; omega) (by omega)
  replace hr : reachL L fr = (stepsL (sizeI x)).flatMap (rayOf L fr (oneB (sizeI x))) := by
    simp at k0 k1
    rw [Hr.out, if_neg k0, if_neg k1]; rfl
  clear Hr
  have Hr := Lib.hid hr
  have Hst := Lib.hid hst
  clear hr hst
  have hk2 : 2 ≤ sizeI x := by simp at k0 k1; omega
  have hk6 : sizeI x ≤ 6 := by omega
  go_enter Tryz.func102, Tryz.ntmps102
  go_wp2_with (first
    | (go_at_call 59; refine (kindP_any _ _ (by omega) (by omega)).mono ?_; rintro e w' ⟨rfl, rfl⟩)
    | (go_at_call 104; refine (stepsP_any _ _ hk2 hk6).mono ?_; rintro e w1 ⟨g, cp, rfl, hS, hb1, hg0, cs0, hB0⟩))
  have hJ1 := hJ0 _ _ _ h0 hb1
  have hC1 := hC.grow hb1
  have hSg : Sf bl w1 g := Sf.fresh hb1 hg0 hC.ll hC.ol hB0
  clear hC h0 c1 c2 c3 hB0
  have hlen := Hst.out.len
  generalize hSs : stepsL (sizeI x) = S at *
  have HS := Lib.hid hSs
  clear hSs
  go_loopg [22] S.length (fun gg s22 wr => ∃ (i : Nat) (pre : List (Sr L fr)), i ≤ S.length ∧ gg = S.length - i ∧ s22 = .int .i64 i ∧ J pre wr ∧ RC wr b off cap bp ba bl L fr ∧ StepRow wr g S ∧ Sf bl wr g ∧ sqr pre = (S.take i).flatMap (rayOf L fr (oneB (sizeI x))))
  case atStart => exact ⟨0, [], by omega, rfl, rfl, hJ1, hC1, hS, hSg, by simp [sqr]⟩
  case round =>
  clear hJ1 hC1 hS hSg
  obtain ⟨i, pre, hi, hg, rfl, hJp, hC, hS, hSg, hpre⟩ := hrel
  have Hg := Lib.hid hg
  have Hpre := Lib.hid hpre
  clear hg hpre
  by_cases hil : i = S.length
  · subst hil
    go_wp2
    go_end0
    exact ⟨⟨_, rfl⟩, .inl ⟨pre, by rw [Hpre.out, Hr.out, List.take_length], hJp⟩⟩
  have hlt : i < S.length := by omega
  clear hil hi
  obtain ⟨s, hs⟩ : ∃ s, S[i]? = some s := ⟨S[i], List.getElem?_eq_getElem hlt⟩
  have hmem : s ∈ stepsL (sizeI x) := by rw [HS.out]; exact List.mem_of_getElem? hs
  obtain ⟨s1, s2⟩ := s
  have hbd := Hst.out.bd _ hmem
  have hout := Hst.out.out _ hmem fr hf
  dsimp only at hbd
  have htk : (S.take (i + 1)).flatMap (rayOf L fr (oneB (sizeI x))) = (S.take i).flatMap (rayOf L fr (oneB (sizeI x))) ++ rayOf L fr (oneB (sizeI x)) (s1, s2) := by
    rw [List.take_add_one, hs, List.flatMap_append]; simp
  have Htk := Lib.hid htk
  have Hout := Lib.hid hout
  clear htk hout hmem
  obtain ⟨q1, q2⟩ := hS.cell i _ hs
  dsimp only at q1 q2
  have Hs := Lib.hid hs
  clear hs
  have c2 := hC.at_
  have hki : (i : Int) < S.length := by omega
  go_upto_block 2 with fail
  go_cut [11] from 24 to 50 (fun s11 wx => ∃ mid : List (Sr L fr), J (pre ++ mid) wx ∧ RC wx b off cap bp ba bl L fr ∧ StepRow wx g S ∧ Sf bl wx g ∧ sqr mid = rayOf L fr (oneB (sizeI x)) (s1, s2))
  case rest =>
    clear hJp hC hS hSg q1 q2 c2
    obtain ⟨mid, hJp, hC, hS, hSg, hmid⟩ := hcut
    go_wp2
    go_roundg (S.length - (i + 1))
    case measure => have := Hg.out; omega
    case rel => exact ⟨i + 1, pre ++ mid, by omega, rfl, by go_num, hJp, hC, hS, hSg, by rw [sqr, List.map_append, ← sqr, ← sqr, Hpre.out, hmid, Htk.out]⟩
  case first =>
  go_upto_region 6 with fail
  generalize hW0 : World.alloc _ _ = W0
  have hb3 : Below wr.heap.size wr W0 := by rw [← hW0]; exact (Below.refl wr.heap.size wr).alloc (Nat.le_refl _) _
  have hSx : Sf bl W0 wr.heap.size := by rw [← hW0]; exact Sf.new rfl hC.ll hC.ol #[.int .i64 s1, .int .i64 s2] 131
  have hX : Blk W0 wr.heap.size #[.int .i64 s1, .int .i64 s2] := by rw [← hW0]; exact Blk.new _ _ _
  clear hW0 q1 q2 c2
  replace hJp := hJ0 _ _ _ hJp hb3
  replace hS := hS.below hb3 hS.lt
  replace hSg := hSg.below hb3 hC.ll
  replace hC := hC.grow hb3
  clear hb3
  generalize wr.heap.size = bx at *
  go_cut [11] from 26 to 28 (fun s11 wx => s11 = .int .i64 (movedI fr s1 s2) ∧ J pre wx ∧ RC wx b off cap bp ba bl L fr ∧ StepRow wx g S ∧ Sf bl wx g ∧ Blk wx bx #[.int .i64 s1, .int .i64 s2] ∧ Sf bl wx bx)
  case first =>
    have c2 := hC.at_
    have x0 := hX.cell (o := 0) rfl
    have x1 := hX.cell (o := 1) rfl
    go_wp2_with (go_at_call 103; refine (movedP_any fr s1 s2 _ hf (by omega) (by omega) (by omega) (by omega)).mono ?_; rintro e w2 ⟨rfl, hb2⟩)
    go_meet
    exact ⟨rfl, hJ0 _ _ _ hJp hb2, hC.grow hb2, hS.below hb2 hS.lt, hSg.below hb2 hC.ll, hX.below hb2 hX.lt, hSx.below hb2 hC.ll⟩
  case rest =>
  clear hJp hC hS hSg hX hSx
  obtain ⟨rfl, hJp, hC, hS, hSg, hX, hSx⟩ := hcut
  have hin : (reachL L fr) = (S.take i).flatMap (rayOf L fr (oneB (sizeI x))) ++ rayOf L fr (oneB (sizeI x)) (s1, s2) ++ (S.drop (i + 1)).flatMap (rayOf L fr (oneB (sizeI x))) := by
    rw [← Htk.out, Hr.out, ← List.flatMap_append, List.take_append_drop]
  have Hin := Lib.hid hin
  clear hin
  go_wp2_with fail
  go_loopg [11] 8 (fun gg s11 wx => ∃ (k : Nat) (mid : List (Sr L fr)), k ≤ 7 ∧ gg = 8 - k ∧ s11 = .int .i64 (iterM fr (s1, s2) k) ∧ J (pre ++ mid) wx ∧ RC wx b off cap bp ba bl L fr ∧ StepRow wx g S ∧ Sf bl wx g ∧ Blk wx bx #[.int .i64 s1, .int .i64 s2] ∧ Sf bl wx bx
    ∧ sqr mid ++ rayL L (oneB (sizeI x)) s1 s2 (8 - k) (iterM fr (s1, s2) k) = rayOf L fr (oneB (sizeI x)) (s1, s2))
  case atStart => exact ⟨0, [], by omega, rfl, rfl, by simpa using hJp, hC, hS, hSg, hX, hSx, by simp [sqr, rayOf, iterM]⟩
  case round =>
  clear hJp hC hS hSg hX hSx
  obtain ⟨k, mid, hk, hgg, rfl, hJp, hC, hS, hSg, hX, hSx, hmid⟩ := hrel
  have Hgg := Lib.hid hgg
  have hnext : iterM fr (s1, s2) (k + 1) = if iterM fr (s1, s2) k < 0 then -1 else movedI (iterM fr (s1, s2) k).toNat s1 s2 := rfl
  have hk7 : 0 ≤ iterM fr (s1, s2) k → k < 7 := by
    intro h
    rcases Nat.lt_or_ge k 7 with h7 | h7
    · exact h7
    · have : k = 7 := by omega
      subst this
      have := Hout.out
      omega
  have hlt64 := iterM_lt (fr := fr) (s := (s1, s2)) hf k
  generalize iterM fr (s1, s2) k = tg at *
  have hray : rayL L (oneB (sizeI x)) s1 s2 (8 - k) tg = if tg < 0 then [] else tg.toNat :: (if L tg.toNat ≠ 0 ∨ oneB (sizeI x) = true then [] else rayL L (oneB (sizeI x)) s1 s2 (7 - k) (movedI tg.toNat s1 s2)) := by
    rw [show 8 - k = (7 - k) + 1 by omega]; rfl
  rw [hray] at hmid
  clear hgg hray
  cases hm : decide (0 ≤ tg)
  case false =>
    rw [if_pos (by simp at hm; omega), List.append_nil] at hmid
    have Hmid := Lib.hid hmid
    clear hmid hnext hk7 hlt64
    go_wp2
    go_meet
    exact ⟨mid, hJp, hC, hS, hSg, Hmid.out⟩
  case true =>
  have hm0 : 0 ≤ tg := by simpa using hm
  obtain ⟨q, rfl⟩ := Int.eq_ofNat_of_zero_le hm0
  have hq : q < 64 := by have := hlt64 hm0; omega
  replace hk7 := hk7 hm0
  rw [if_neg (by omega)] at hmid hnext
  rw [show ((q : Int)).toNat = q from rfl] at hmid hnext
  clear hlt64 hm hm0 hk
  have Hnext := Lib.hid hnext
  have hlen2 : (pre ++ mid).length < (reachL L fr).length := by
    rw [Hin.out, ← hmid, ← Hpre.out]
    simp [sqr]
  have Hmid := Lib.hid hmid
  have hqm : q ∈ reachL L fr := by
    rw [Hin.out, ← hmid]
    simp
  have hpfx : sqr (pre ++ mid ++ [⟨⟨q, hq⟩, hqm⟩]) <+: reachL L fr := by
    rw [sqr_snoc, sqr_app]
    show _ ++ [q] <+: _
    rw [Hin.out, ← hmid, ← Hpre.out]
    simp only [List.append_assoc, List.cons_append, List.nil_append]
    refine ⟨(if L q ≠ 0 ∨ oneB (sizeI x) = true then [] else rayL L (oneB (sizeI x)) s1 s2 (7 - k) (movedI q s1 s2)) ++ (S.drop (i + 1)).flatMap (rayOf L fr (oneB (sizeI x))), ?_⟩
    simp only [List.append_assoc, List.cons_append, List.nil_append]
  have Hpfx := Lib.hid hpfx
  clear hnext hmid hpfx
  obtain ⟨fn, tmps, assign, body, hy, hR⟩ := HY.out (pre ++ mid) ⟨⟨q, hq⟩, hqm⟩ wr hJp hlen2
  dsimp only [sqAr] at hy
  go_upto_region 9 with fail
  refine (wpIn_wide (n := n)).1 ?_
  gi_wp2
  refine ⟨fun h => by simp [Fence.wide] at h, ?_⟩
  refine hR.mono ?_
  rintro e W2 (⟨rfl, hJ2, hkp⟩ | ⟨rfl, hJx2⟩)
  case inr =>
    gi_wp2
    go_wp2
    refine bodyPost_ret (results_none rfl _ _ _) rfl ?_
    exact ⟨⟨_, rfl⟩, .inr ⟨pre ++ mid ++ [⟨⟨q, hq⟩, hqm⟩], Hpfx.out, hJx2⟩⟩
  case inl =>
  replace hC := hC.kp hkp
  obtain ⟨hSg, hg2⟩ := hSg.kp hkp
  obtain ⟨hSx, hx2⟩ := hSx.kp hkp
  replace hX := hX.of_heap hx2
  replace hS : StepRow W2 g S := ⟨hSg.lt, fun i s h => ⟨(cell_heap hg2).trans (hS.cell i s h).1, (cell_heap hg2).trans (hS.cell i s h).2⟩⟩
  clear hy hR hkp hJp hg2 hx2
  have c1 := hC.pl
  have c3 := hC.brd.cell q hq
  have x0 := hX.cell (o := 0) rfl
  have x1 := hX.cell (o := 1) rfl
  have hob : oneB (sizeI x) = ((sizeI x == 2) || (sizeI x == 6)) := rfl
  have Hob := Lib.hid hob
  clear hob
  cases e0 : (L q != 0)
  case true =>
    gi_wp2
    go_wp2
    go_meet
    refine ⟨mid ++ [⟨⟨q, hq⟩, hqm⟩], by simpa using hJ2, hC, hS, hSg, ?_⟩
    rw [← Hmid.out, if_pos (.inl (by simpa using e0))]
    simp [sqr]
  case false =>
  cases e2 : (sizeI x == 2)
  case true =>
    gi_wp2
    go_wp2
    go_meet
    refine ⟨mid ++ [⟨⟨q, hq⟩, hqm⟩], by simpa using hJ2, hC, hS, hSg, ?_⟩
    rw [← Hmid.out, if_pos (.inr (by rw [Hob.out, e2]; rfl))]
    simp [sqr]
  case false =>
  cases e6 : (sizeI x == 6)
  case true =>
    gi_wp2
    go_wp2
    go_meet
    refine ⟨mid ++ [⟨⟨q, hq⟩, hqm⟩], by simpa using hJ2, hC, hS, hSg, ?_⟩
    rw [← Hmid.out, if_pos (.inr (by rw [Hob.out, e2, e6]; rfl))]
    simp [sqr]
  case false =>
  gi_wp2
  go_wp2_with (go_at_call 103; refine (movedP_any q s1 s2 _ hq (by omega) (by omega) (by omega) (by omega)).mono ?_; rintro e w2 ⟨rfl, hb2⟩)
  go_roundg (8 - (k + 1))
  case measure => have := Hgg.out; omega
  case rel =>
    refine ⟨k + 1, mid ++ [⟨⟨q, hq⟩, hqm⟩], by omega, rfl, by rw [Hnext.out], by simpa using hJ0 _ _ _ hJ2 hb2, hC.grow hb2, hS.below hb2 hS.lt, hSg.below hb2 hC.ll, hX.below hb2 hX.lt, hSx.below hb2 hC.ll, ?_⟩
    have h1 := Hmid.out
    rw [if_neg (by simp [Hob.out, e2, e6] at e0 ⊢; exact e0)] at h1
    rw [← h1, Hnext.out, show 8 - (k + 1) = 7 - k by omega]
    simp [sqr]

end Go.Proofs.YthffhhbbhjcdeaaGreatDoor
