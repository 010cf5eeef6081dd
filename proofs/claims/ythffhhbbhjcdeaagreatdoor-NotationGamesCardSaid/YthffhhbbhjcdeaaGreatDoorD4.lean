/- WALKS: the plain word of a move. -/
import Derived.Test.YthffhhbbhjcdeaaGreatDoorD3
set_option linter.unusedVariables false
set_option linter.unusedSimpArgs false
namespace Go.Proofs.YthffhhbbhjcdeaaGreatDoor
open Go.RowKit
set_option maxRecDepth 100000

theorem builder_below {T e : TypeId} {B b : Nat} {p : Value} {bs : List Value} {W W' : World} (h : Lib.BuilderAt T e B b p bs W) (hb : Below W.heap.size W W') : Lib.BuilderAt T e B b p bs W' := by
  obtain ⟨hB, v, hv, hown, hne⟩ := h
  have hlt : b < W.heap.size := (Array.getElem?_eq_some_iff.1 hv).1
  exact ⟨hB, v, (hb.block b hlt).trans hv, hown.kept (row := none) ⟨hb.os, hb.tape, hb.output, hb.size, fun k hk _ => hb.block k hk⟩ (by cases hv : v.ownBlock <;> simp), hne⟩
theorem isB_below {T e : TypeId} {B b : Nat} {bs : List Value} {W W' : World} (h : Lib.IsBuilder T e B b bs W) (hb : Below W.heap.size W W') : Lib.IsBuilder T e B b bs W' := by
  rcases h with h | h
  · exact .inl (builder_below h hb)
  · exact .inr (builder_below h hb)

/-- plain at work: the scribe, the move's box, the builder. -/
structure PLB (w wx : World) (S b off cap : Nat) (p : Pos) (v : Value) (m : Mv) (bs : List UInt8) : Prop where
  scr : Scr w S b off cap p v
  kM : Blk wx w.heap.size #[.int .i64 m.fr, .int .i64 m.tg, .int .i64 m.into]
  below : Below w.heap.size w wx
  bd : Lib.IsBuilder 89 5 (w.heap.size + 1) (w.heap.size + 1) (Lib.byteCells bs) wx
  sz : w.heap.size + 2 ≤ wx.heap.size
section
variable {w wx w1 : World} {S b off cap : Nat} {p : Pos} {v : Value} {m : Mv} {bs : List UInt8}
theorem PLB.scr' (h : PLB w wx S b off cap p v m bs) : Scr wx S b off cap p v := h.scr.below h.below
theorem PLB.later (h : PLB w wx S b off cap p v m bs) (hb : Below wx.heap.size wx w1) : PLB w w1 S b off cap p v m bs :=
  ⟨h.scr, h.kM.below hb h.kM.lt, h.below.trans (hb.mono h.below.size), isB_below h.bd hb, Nat.le_trans h.sz hb.size⟩
theorem PLB.wrote {bs' : List UInt8} (h : PLB w wx S b off cap p v m bs) (hb : Below (w.heap.size + 1) wx w1) (hB : Lib.BuilderAt 89 5 (w.heap.size + 1) (w.heap.size + 1) (.pointer (some ⟨w.heap.size + 1, 0, none⟩)) (Lib.byteCells bs') w1) : PLB w w1 S b off cap p v m bs' :=
  ⟨h.scr, h.kM.below hb (by omega), h.below.trans (hb.mono (by omega)), .inr hB, Nat.le_trans h.sz hb.size⟩
theorem PLB.writeS (h : PLB w wx S b off cap p v m bs) (s : List UInt8) (hl : bs.length + s.length ≤ 1000) :
    Calls Tryz.prog 68 #[.pointer (some ⟨w.heap.size + 1, 0, none⟩), .string ⟨s.toArray⟩] wx fun e w1 => (∃ u, e = .returned (.tuple #[.int .i64 u, .nilIface])) ∧ PLB w w1 S b off cap p v m (bs ++ s) := by
  refine (writeS_any (w.heap.size + 1) (w.heap.size + 1) (Lib.byteCells bs) ⟨s.toArray⟩ wx h.bd (by simp [Lib.byteCells, ByteArray.size]; omega) (by have := h.sz; omega)).mono ?_
  rintro e w1 ⟨rfl, hB, hb⟩
  refine ⟨⟨_, rfl⟩, h.wrote hb ?_⟩
  have e : Lib.byteCells (bs ++ s) = Lib.byteCells bs ++ Lib.strCells ⟨s.toArray⟩ := by simp [Lib.byteCells, Lib.strCells]
  rw [e]; exact hB
theorem PLB.writeB (h : PLB w wx S b off cap p v m bs) (c : UInt8) (hl : bs.length ≤ 1000) :
    Calls Tryz.prog 82 #[.pointer (some ⟨w.heap.size + 1, 0, none⟩), .int .u8 c.toNat] wx fun e w1 => e = .returned .nilIface ∧ PLB w w1 S b off cap p v m (bs ++ [c]) := by
  refine (writeB_any (w.heap.size + 1) (w.heap.size + 1) (Lib.byteCells bs) c.toNat wx h.bd (by simp [Lib.byteCells]; omega) (by have := h.sz; omega)).mono ?_
  rintro e w1 ⟨rfl, hB, hb⟩
  refine ⟨rfl, h.wrote hb ?_⟩
  have e : Lib.byteCells (bs ++ [c]) = Lib.byteCells bs ++ [.int .u8 c.toNat] := by simp [Lib.byteCells]
  rw [e]; exact hB
theorem PLB.str (h : PLB w wx S b off cap p v m bs) (h0 : bs ≠ []) :
    Calls Tryz.prog 69 #[.pointer (some ⟨w.heap.size + 1, 0, none⟩)] wx (fun e w' => e = .returned (.string ⟨bs.toArray⟩) ∧ Below w.heap.size w w') := by
  refine (buildStr_any (w.heap.size + 1) (w.heap.size + 1) bs wx h.bd h0).mono ?_
  rintro e w' ⟨rfl, hb⟩
  exact ⟨rfl, h.below.trans (hb.mono (by omega))⟩
end

set_option maxHeartbeats 8000000 in
theorem plainP_any {S b off cap : Nat} {p : Pos} {v : Value} {w : World} {m : Mv} (hm : MayP p) (hs : Scr w S b off cap p v) (hP : Pseu p m) :
    Calls Tryz.prog 47 #[.pointer (some ⟨S, 0, none⟩), mvV m] w (RetB (strV (plainL p m)) w) := by
  have hf := hP.fr
  have ht := hP.tg
  obtain ⟨i0, i5⟩ := into_bd hP
  have hown := own_size hm.ok.turn ((sideR_own hm.ok.turn).1 hP.own)
  have hpos : 1 ≤ sizeI (p.L m.fr) := by have := (sideR_own hm.ok.turn).1 hP.own; omega
  have hin : ∀ q, q ∈ movesR p → q.fr < 64 ∧ q.tg < 64 := fun q hq => ⟨(mem_movesR.1 hq).1.fr, (mem_movesR.1 hq).1.tg⟩
  have hx0 := (hs.brd.bd m.fr).1
  have hx1 := (hs.brd.bd m.fr).2
  have HS := Lib.hid hs
  have HI := Lib.hid hin
  have hSl := hs.blk.lt
  have hb0 : ∀ o, Below w.heap.size w (w.alloc o) := fun o => (Below.refl _ _).alloc (Nat.le_refl _) o
  clear hm hP hown hin hs
  unfold mvV
  go_enter Tryz.func47, Tryz.ntmps47
  go_upto_region 1 with fail
  generalize hW0 : World.alloc _ _ = W0
  have hE : EN0 w W0 S b off cap p v m := ⟨HS.out.below (by rw [← hW0]; exact hb0 _), by rw [← hW0]; exact Blk.new _ _ _, by rw [← hW0]; exact hb0 _⟩
  have hsz0 : W0.heap.size = w.heap.size + 1 := by rw [← hW0]; simp
  clear hW0 hb0
  have hfi : (m.fr : Int) < 64 := by omega
  have hti : (m.tg : Int) < 64 := by omega
  go_cut [5] from 8 to 17 (fun s5 wx => s5 = .int .i64 (sizeI (p.L m.fr)) ∧ EN0 w wx S b off cap p v m ∧ wx.heap.size = w.heap.size + 1)
  case first =>
    have s0 := hE.scr.blk.cell (o := 0) rfl
    have m0 := hE.kM.cell (o := 0) rfl
    have m1 := hE.kM.cell (o := 1) rfl
    have hc0 := hE.scr.brd.cell m.fr hf
    have hc1 := hE.scr.brd.cell m.tg ht
    go_quiet ((go_at_call 59; exact quiet_retW (kindP_any _ _ (by omega) (by omega))))
    go_wp2
    go_meet
    exact ⟨rfl, hE.later (below_drewN (Below.refl _ _) _), hsz0⟩
  case rest =>
  clear hE hsz0
  obtain ⟨rfl, hE, hsz0⟩ := hcut
  go_upto_region 2 with fail
  go_cut [6] from 18 to 27 (fun s6 wx => s6 = .bool (p.L m.tg != 0) ∧ EN0 w wx S b off cap p v m ∧ wx.heap.size = w.heap.size + 1)
  case first =>
    have s0 := hE.scr.blk.cell (o := 0) rfl
    have m0 := hE.kM.cell (o := 0) rfl
    have m1 := hE.kM.cell (o := 1) rfl
    have hc0 := hE.scr.brd.cell m.fr hf
    have hc1 := hE.scr.brd.cell m.tg ht
    go_quiet (fail)
    go_wp2
    go_meet
    exact ⟨rfl, hE.later (below_drewN (Below.refl _ _) _), hsz0⟩
  case rest =>
  clear hE hsz0
  obtain ⟨rfl, hE, hsz0⟩ := hcut
  go_upto_block 0 with fail
  generalize hWb : World.alloc _ _ = Wb
  have hPL : PLB w Wb S b off cap p v m [] := by
    have hlw := hE.below.size
    refine ⟨HS.out, by rw [← hWb]; exact hE.kM.alloc _, by rw [← hWb]; exact hE.below.alloc hE.below.size _, .inl ⟨Nat.le_refl _, .slice none 0 0, ?_, World.ownsRow_nil _ _ _ _, by simp [Value.ownBlock]⟩, by rw [← hWb]; simp; omega⟩
    rw [← hWb, ← hsz0]
    exact World.alloc_heap_new _ _
  have hbt : w.heap.size + 1 = wc.heap.size := hsz0.symm
  clear hWb
  clear hE hsz0 hbt
  generalize hx : p.L m.fr = x at *
  have Hx := Lib.hid hx
  clear hx
  have hkg : kingGo p m = ((sizeI x == 6) && (sizeI ((m.tg : Int) - m.fr) == 2)) := by unfold kingGo; rw [Hx.out]
  have hpl : plainL p m = if kingGo p m then (if m.fr < m.tg then [79, 45, 79] else [79, 45, 79, 45, 79]) else headL p m ++ (if takesB p m then [120] else []) ++ nameL m.tg ++ intoL m := rfl
  rw [hkg] at hpl
  have hsz2 : (sizeI ((m.tg : Int) - m.fr) == 2) = true ↔ ((m.tg : Int) = m.fr + 2 ∨ (m.tg : Int) = m.fr - 2) := by
    rw [beq_iff_eq]; unfold sizeI; split <;> omega
  have hhd : headL p m = if (sizeI x == 1) = true then (if (m.fr % 8 != m.tg % 8) = true then (nameL m.fr).take 1 else []) else letterL (sizeI x).toNat ++ originL p m := by unfold headL pawnB; rw [Hx.out]
  have htk : takesB p m = if (sizeI x == 1) = true then m.fr % 8 != m.tg % 8 else p.L m.tg != 0 := by unfold takesB pawnB; rw [Hx.out]
  have hol : (originL p m).length ≤ 2 := by unfold originL; exact originOf_le _ _ _ _
  have k60 : 0 ≤ sizeI x := by omega
  have k66 : sizeI x ≤ 6 := by unfold sizeI; split <;> omega
  generalize hkk : sizeI x = kk at *
  clear hkk
  have Hpl := Lib.hid hpl
  have Hsz2 := Lib.hid hsz2
  have Hhd := Lib.hid hhd
  have Htk := Lib.hid htk
  have Hol := Lib.hid hol
  clear hkg hpl hsz2 hhd htk hol
  have hcase : (kk = 6 ∧ ((m.tg : Int) = m.fr + 2 ∨ (m.tg : Int) = m.fr - 2)) ∨ ¬ (kk = 6 ∧ ((m.tg : Int) = m.fr + 2 ∨ (m.tg : Int) = m.fr - 2)) := Classical.em _
  rcases hcase with ⟨rfl, hd⟩ | hnc
  · have m0 := hPL.kM.cell (o := 0) rfl
    have m1 := hPL.kM.cell (o := 1) rfl
    cases d1 : ((m.tg : Int) == m.fr + 2)
    case true =>
      have hpw : plainL p m = [79, 45, 79] := by
        have h1 : (m.tg : Int) = m.fr + 2 := by simpa using d1
        rw [Hpl.out, Hsz2.out.2 (.inl h1)]
        rw [if_pos (by decide), if_pos (by omega)]
      have Hpw := Lib.hid hpw
      clear hpw hd
      go_wp2
      go_ret
      exact ⟨by rw [Hpw.out]; rfl, hPL.below⟩
    case false =>
      have hd2 : (m.tg : Int) = m.fr - 2 := by simp at d1; omega
      have d2 : ((m.tg : Int) == m.fr - 2) = true := by simpa using hd2
      have hpw : plainL p m = [79, 45, 79, 45, 79] := by
        rw [Hpl.out, Hsz2.out.2 (.inr hd2)]
        rw [if_pos (by decide), if_neg (by omega)]
      have Hpw := Lib.hid hpw
      clear hpw hd hd2
      go_wp2
      go_ret
      exact ⟨by rw [Hpw.out]; rfl, hPL.below⟩
  have hpw : plainL p m = headL p m ++ (if takesB p m then [120] else []) ++ nameL m.tg ++ intoL m := by
    rw [Hpl.out, if_neg]
    rw [Bool.and_eq_true, beq_iff_eq, Hsz2.out]
    exact hnc
  have Hpw := Lib.hid hpw
  have Hnc := Lib.hid hnc
  clear hpw hnc Hpl
  have hhl := headL_le p m
  have HHl := Lib.hid hhl
  clear hhl
  go_cut [6] from 28 to 72 (fun s6 wx => s6 = .bool (takesB p m) ∧ PLB w wx S b off cap p v m (headL p m))
  case first =>
    have m0 := hPL.kM.cell (o := 0) rfl
    have m1 := hPL.kM.cell (o := 1) rfl
    have m2 := hPL.kM.cell (o := 2) rfl
    have hkc : kk = 1 ∨ kk = 2 ∨ kk = 3 ∨ kk = 4 ∨ kk = 5 ∨ kk = 6 := by omega
    rcases hkc with rfl | rfl | rfl | rfl | rfl | rfl
    · have hq1 := bits_seven m.fr hf
      have hq2 := bits_seven m.tg ht
      have hhd := Hhd.out
      have htk := Htk.out
      rw [if_pos (by decide)] at hhd htk
      have Hh := Lib.hid hhd
      have Ht := Lib.hid htk
      clear hhd htk
      obtain ⟨na, nb, hnm⟩ : ∃ na nb, nameL m.fr = [na, nb] := ⟨_, _, rfl⟩
      have hN : ∀ w, Calls Tryz.prog 81 #[.int .i64 m.fr] w (RetB (.string ⟨#[na, nb]⟩) w) := fun w => by
        have h := nameP_any m.fr hf w
        rw [hnm] at h
        exact h
      have HN := Lib.hid hN
      have Hnm := Lib.hid hnm
      clear hN hnm
      cases e4 : ((m.fr : Int) % 8 != (m.tg : Int) % 8)
      case false =>
        have e5 : (m.fr % 8 != m.tg % 8) = false := by rw [← bneMod]; exact e4
        have E5 := Lib.hid e5
        clear e5
        go_wp2
        go_meet
        refine ⟨by rw [Ht.out, E5.out], ?_⟩
        rw [Hh.out, E5.out]
        exact hPL
      case true =>
        have e5 : (m.fr % 8 != m.tg % 8) = true := by rw [← bneMod]; exact e4
        have E5 := Lib.hid e5
        clear e5
        have hw : ∀ w1, PLB w w1 S b off cap p v m [] → Calls Tryz.prog 68 #[.pointer (some ⟨w.heap.size + 1, 0, none⟩), .string ⟨#[na]⟩] w1 fun e w2 => (∃ u, e = .returned (.tuple #[.int .i64 u, .nilIface])) ∧ PLB w w2 S b off cap p v m [na] := fun w1 h => h.writeS [na] (by simp)
        have HW := Lib.hid hw
        clear hw
        have hex : (ByteArray.mk #[na, nb]).extract 0 1 = ⟨#[na]⟩ := by ext1; rfl
        go_wp2_with (first
          | (go_at_call 81; refine (HN.out _).mono ?_; rintro e w1 ⟨rfl, hb1⟩; have hPL1 := hPL.later hb1)
          | (go_at_call 68; refine (HW.out _ hPL1).mono ?_; rintro e w2 ⟨⟨u, rfl⟩, hPL2⟩))
        go_meet
        refine ⟨by rw [Ht.out, E5.out], ?_⟩
        rw [Hh.out, E5.out, Hnm.out]
        exact hPL2
    · have hhd := Hhd.out
      have htk := Htk.out
      rw [if_neg (by decide)] at hhd htk
      have Hh := Lib.hid hhd
      have Ht := Lib.hid htk
      clear hhd htk
      have hB1 : Calls Tryz.prog 82 #[.pointer (some ⟨w.heap.size + 1, 0, none⟩), .int .u8 78] Wb fun e w1 => e = .returned .nilIface ∧ PLB w w1 S b off cap p v m [78] := hPL.writeB 78 (by simp)
      have HB1 := Lib.hid hB1
      have hO : ∀ w1, PLB w w1 S b off cap p v m [78] → Calls Tryz.prog 83 #[.pointer (some ⟨S, 0, none⟩), .agg #[.int .i64 m.fr, .int .i64 m.tg, .int .i64 m.into]] w1 (RetB (.string ⟨(originL p m).toArray⟩) w1) := fun w1 h => originP_any h.scr' hf ht HI.out
      have HO := Lib.hid hO
      clear hB1 hO
      go_upto_region 5 with (go_at_call 82; refine HB1.out.mono ?_; rintro e w1 ⟨rfl, hPL1⟩)
      clear m0 m1 m2
      have m0 := hPL1.kM.cell (o := 0) rfl
      have m1 := hPL1.kM.cell (o := 1) rfl
      have m2 := hPL1.kM.cell (o := 2) rfl
      go_wp2_with (first
        | (go_at_call 83; refine (HO.out _ hPL1).mono ?_; rintro e w2 ⟨rfl, hb2⟩; have hPL2 := hPL1.later hb2)
        | (go_at_call 68; refine (hPL2.writeS (originL p m) (by have := Hol.out; simp; omega)).mono ?_; rintro e w3 ⟨⟨u, rfl⟩, hPL3⟩))
      go_meet
      refine ⟨by rw [Ht.out], ?_⟩
      rw [Hh.out]
      exact hPL3
    · have hhd := Hhd.out
      have htk := Htk.out
      rw [if_neg (by decide)] at hhd htk
      have Hh := Lib.hid hhd
      have Ht := Lib.hid htk
      clear hhd htk
      have hB1 : Calls Tryz.prog 82 #[.pointer (some ⟨w.heap.size + 1, 0, none⟩), .int .u8 66] Wb fun e w1 => e = .returned .nilIface ∧ PLB w w1 S b off cap p v m [66] := hPL.writeB 66 (by simp)
      have HB1 := Lib.hid hB1
      have hO : ∀ w1, PLB w w1 S b off cap p v m [66] → Calls Tryz.prog 83 #[.pointer (some ⟨S, 0, none⟩), .agg #[.int .i64 m.fr, .int .i64 m.tg, .int .i64 m.into]] w1 (RetB (.string ⟨(originL p m).toArray⟩) w1) := fun w1 h => originP_any h.scr' hf ht HI.out
      have HO := Lib.hid hO
      clear hB1 hO
      go_upto_region 5 with (go_at_call 82; refine HB1.out.mono ?_; rintro e w1 ⟨rfl, hPL1⟩)
      clear m0 m1 m2
      have m0 := hPL1.kM.cell (o := 0) rfl
      have m1 := hPL1.kM.cell (o := 1) rfl
      have m2 := hPL1.kM.cell (o := 2) rfl
      go_wp2_with (first
        | (go_at_call 83; refine (HO.out _ hPL1).mono ?_; rintro e w2 ⟨rfl, hb2⟩; have hPL2 := hPL1.later hb2)
        | (go_at_call 68; refine (hPL2.writeS (originL p m) (by have := Hol.out; simp; omega)).mono ?_; rintro e w3 ⟨⟨u, rfl⟩, hPL3⟩))
      go_meet
      refine ⟨by rw [Ht.out], ?_⟩
      rw [Hh.out]
      exact hPL3
    · have hhd := Hhd.out
      have htk := Htk.out
      rw [if_neg (by decide)] at hhd htk
      have Hh := Lib.hid hhd
      have Ht := Lib.hid htk
      clear hhd htk
      have hB1 : Calls Tryz.prog 82 #[.pointer (some ⟨w.heap.size + 1, 0, none⟩), .int .u8 82] Wb fun e w1 => e = .returned .nilIface ∧ PLB w w1 S b off cap p v m [82] := hPL.writeB 82 (by simp)
      have HB1 := Lib.hid hB1
      have hO : ∀ w1, PLB w w1 S b off cap p v m [82] → Calls Tryz.prog 83 #[.pointer (some ⟨S, 0, none⟩), .agg #[.int .i64 m.fr, .int .i64 m.tg, .int .i64 m.into]] w1 (RetB (.string ⟨(originL p m).toArray⟩) w1) := fun w1 h => originP_any h.scr' hf ht HI.out
      have HO := Lib.hid hO
      clear hB1 hO
      go_upto_region 5 with (go_at_call 82; refine HB1.out.mono ?_; rintro e w1 ⟨rfl, hPL1⟩)
      clear m0 m1 m2
      have m0 := hPL1.kM.cell (o := 0) rfl
      have m1 := hPL1.kM.cell (o := 1) rfl
      have m2 := hPL1.kM.cell (o := 2) rfl
      go_wp2_with (first
        | (go_at_call 83; refine (HO.out _ hPL1).mono ?_; rintro e w2 ⟨rfl, hb2⟩; have hPL2 := hPL1.later hb2)
        | (go_at_call 68; refine (hPL2.writeS (originL p m) (by have := Hol.out; simp; omega)).mono ?_; rintro e w3 ⟨⟨u, rfl⟩, hPL3⟩))
      go_meet
      refine ⟨by rw [Ht.out], ?_⟩
      rw [Hh.out]
      exact hPL3
    · have hhd := Hhd.out
      have htk := Htk.out
      rw [if_neg (by decide)] at hhd htk
      have Hh := Lib.hid hhd
      have Ht := Lib.hid htk
      clear hhd htk
      have hB1 : Calls Tryz.prog 82 #[.pointer (some ⟨w.heap.size + 1, 0, none⟩), .int .u8 81] Wb fun e w1 => e = .returned .nilIface ∧ PLB w w1 S b off cap p v m [81] := hPL.writeB 81 (by simp)
      have HB1 := Lib.hid hB1
      have hO : ∀ w1, PLB w w1 S b off cap p v m [81] → Calls Tryz.prog 83 #[.pointer (some ⟨S, 0, none⟩), .agg #[.int .i64 m.fr, .int .i64 m.tg, .int .i64 m.into]] w1 (RetB (.string ⟨(originL p m).toArray⟩) w1) := fun w1 h => originP_any h.scr' hf ht HI.out
      have HO := Lib.hid hO
      clear hB1 hO
      go_upto_region 5 with (go_at_call 82; refine HB1.out.mono ?_; rintro e w1 ⟨rfl, hPL1⟩)
      clear m0 m1 m2
      have m0 := hPL1.kM.cell (o := 0) rfl
      have m1 := hPL1.kM.cell (o := 1) rfl
      have m2 := hPL1.kM.cell (o := 2) rfl
      go_wp2_with (first
        | (go_at_call 83; refine (HO.out _ hPL1).mono ?_; rintro e w2 ⟨rfl, hb2⟩; have hPL2 := hPL1.later hb2)
        | (go_at_call 68; refine (hPL2.writeS (originL p m) (by have := Hol.out; simp; omega)).mono ?_; rintro e w3 ⟨⟨u, rfl⟩, hPL3⟩))
      go_meet
      refine ⟨by rw [Ht.out], ?_⟩
      rw [Hh.out]
      exact hPL3
    · have hhd := Hhd.out
      have htk := Htk.out
      rw [if_neg (by decide)] at hhd htk
      have Hh := Lib.hid hhd
      have Ht := Lib.hid htk
      clear hhd htk
      have d1 : ((m.tg : Int) == m.fr + 2) = false := by
        have := Hnc.out
        simp only [beq_eq_false_iff_ne]; omega
      have d2 : ((m.tg : Int) == m.fr - 2) = false := by
        have := Hnc.out
        simp only [beq_eq_false_iff_ne]; omega
      have hB1 : Calls Tryz.prog 82 #[.pointer (some ⟨w.heap.size + 1, 0, none⟩), .int .u8 75] Wb fun e w1 => e = .returned .nilIface ∧ PLB w w1 S b off cap p v m [75] := hPL.writeB 75 (by simp)
      have HB1 := Lib.hid hB1
      have hO : ∀ w1, PLB w w1 S b off cap p v m [75] → Calls Tryz.prog 83 #[.pointer (some ⟨S, 0, none⟩), .agg #[.int .i64 m.fr, .int .i64 m.tg, .int .i64 m.into]] w1 (RetB (.string ⟨(originL p m).toArray⟩) w1) := fun w1 h => originP_any h.scr' hf ht HI.out
      have HO := Lib.hid hO
      clear hB1 hO
      go_upto_region 5 with (go_at_call 82; refine HB1.out.mono ?_; rintro e w1 ⟨rfl, hPL1⟩)
      clear m0 m1 m2
      have m0 := hPL1.kM.cell (o := 0) rfl
      have m1 := hPL1.kM.cell (o := 1) rfl
      have m2 := hPL1.kM.cell (o := 2) rfl
      go_wp2_with (first
        | (go_at_call 83; refine (HO.out _ hPL1).mono ?_; rintro e w2 ⟨rfl, hb2⟩; have hPL2 := hPL1.later hb2)
        | (go_at_call 68; refine (hPL2.writeS (originL p m) (by have := Hol.out; simp; omega)).mono ?_; rintro e w3 ⟨⟨u, rfl⟩, hPL3⟩))
      go_meet
      refine ⟨by rw [Ht.out], ?_⟩
      rw [Hh.out]
      exact hPL3
  case rest =>
  clear hPL
  obtain ⟨rfl, hPL⟩ := hcut
  generalize htk : takesB p m = tk at *
  clear Htk
  generalize hhd : headL p m = hd at *
  clear Hhd htk hhd
  go_upto_if 73 with fail
  go_cut [] from 73 to 74 (fun wx => PLB w wx S b off cap p v m (hd ++ (if tk then [120] else [])))
  case first =>
    cases tk
    case false =>
      go_wp2
      go_meet
      simpa using hPL
    case true =>
      have hB1 : Calls Tryz.prog 82 #[.pointer (some ⟨w.heap.size + 1, 0, none⟩), .int .u8 120] wc fun e w1 => e = .returned .nilIface ∧ PLB w w1 S b off cap p v m (hd ++ [120]) := hPL.writeB 120 (by have := HHl.out; omega)
      have HB1 := Lib.hid hB1
      clear hB1
      go_wp2_with (go_at_call 82; refine HB1.out.mono ?_; rintro e w1 ⟨rfl, hPL1⟩)
      go_meet
      exact hPL1
  case rest =>
  clear hPL
  have hPL := hcut
  clear hcut
  have hl2 : (hd ++ (if tk then [(120 : UInt8)] else [])).length ≤ 5 := by
    rw [List.length_append]
    have := HHl.out
    split <;> simp <;> omega
  generalize hd ++ (if tk then [(120 : UInt8)] else []) = h2 at *
  have HL2 := Lib.hid hl2
  clear hl2 HHl
  have m1 := hPL.kM.cell (o := 1) rfl
  go_upto_region 17 with (first
    | (go_at_call 81; refine (nameP_any m.tg ht _).mono ?_; rintro e w1 ⟨rfl, hb1⟩; have hPL1 := hPL.later hb1)
    | (go_at_call 68; refine (hPL1.writeS (nameL m.tg) (by have := HL2.out; simp [nameL]; omega)).mono ?_; rintro e w2 ⟨⟨u, rfl⟩, hPL2⟩))
  clear m1 hPL
  have hl3 : (h2 ++ nameL m.tg).length ≤ 7 ∧ h2 ++ nameL m.tg ≠ [] := by
    have := HL2.out
    constructor
    · rw [List.length_append]; simp [nameL]; omega
    · simp [nameL]
  generalize h2 ++ nameL m.tg = h3 at *
  have HL3 := Lib.hid hl3
  clear hl3 HL2
  have m2 := hPL2.kM.cell (o := 2) rfl
  have hil : intoL m = if 0 < m.into then [61] ++ letterL m.into.toNat else [] := rfl
  rw [hil] at Hpw
  clear hil
  generalize hit : m.into = it at *
  have hic : it = 0 ∨ it = 1 ∨ it = 2 ∨ it = 3 ∨ it = 4 ∨ it = 5 := by omega
  rcases hic with rfl | rfl | rfl | rfl | rfl | rfl
  · have HSt := Lib.hid (hPL2.str HL3.out.2)
    go_wp2_with (go_at_call 69; refine HSt.out.mono ?_; rintro e w3 ⟨rfl, hb3⟩)
    go_ret
    refine ⟨?_, hb3⟩
    rw [Hpw.out]
    simp [strV]
  · have hW : Calls Tryz.prog 68 #[.pointer (some ⟨w.heap.size + 1, 0, none⟩), .string ⟨#[61, 80]⟩] w2 fun e w1 => (∃ u, e = .returned (.tuple #[.int .i64 u, .nilIface])) ∧ PLB w w1 S b off cap p v m (h3 ++ [61, 80]) := hPL2.writeS [61, 80] (by have := HL3.out.1; simp; omega)
    have HW := Lib.hid hW
    clear hW
    have hex : (ByteArray.mk #[32, 80, 78, 66, 82, 81, 75]).extract 1 2 = ⟨#[80]⟩ := by rfl
    have hap : (ByteArray.mk #[61] ++ ByteArray.mk #[80]) = ⟨#[61, 80]⟩ := by rfl
    go_wp2_with (first
      | (go_at_call 68; refine HW.out.mono ?_; rintro e w3 ⟨⟨u, rfl⟩, hPL3⟩)
      | (go_at_call 69; refine (hPL3.str (by simp)).mono ?_; rintro e w4 ⟨rfl, hb4⟩))
    go_ret
    refine ⟨?_, hb4⟩
    rw [Hpw.out]
    rfl
  · have hW : Calls Tryz.prog 68 #[.pointer (some ⟨w.heap.size + 1, 0, none⟩), .string ⟨#[61, 78]⟩] w2 fun e w1 => (∃ u, e = .returned (.tuple #[.int .i64 u, .nilIface])) ∧ PLB w w1 S b off cap p v m (h3 ++ [61, 78]) := hPL2.writeS [61, 78] (by have := HL3.out.1; simp; omega)
    have HW := Lib.hid hW
    clear hW
    have hex : (ByteArray.mk #[32, 80, 78, 66, 82, 81, 75]).extract 2 3 = ⟨#[78]⟩ := by rfl
    have hap : (ByteArray.mk #[61] ++ ByteArray.mk #[78]) = ⟨#[61, 78]⟩ := by rfl
    go_wp2_with (first
      | (go_at_call 68; refine HW.out.mono ?_; rintro e w3 ⟨⟨u, rfl⟩, hPL3⟩)
      | (go_at_call 69; refine (hPL3.str (by simp)).mono ?_; rintro e w4 ⟨rfl, hb4⟩))
    go_ret
    refine ⟨?_, hb4⟩
    rw [Hpw.out]
    rfl
  · have hW : Calls Tryz.prog 68 #[.pointer (some ⟨w.heap.size + 1, 0, none⟩), .string ⟨#[61, 66]⟩] w2 fun e w1 => (∃ u, e = .returned (.tuple #[.int .i64 u, .nilIface])) ∧ PLB w w1 S b off cap p v m (h3 ++ [61, 66]) := hPL2.writeS [61, 66] (by have := HL3.out.1; simp; omega)
    have HW := Lib.hid hW
    clear hW
    have hex : (ByteArray.mk #[32, 80, 78, 66, 82, 81, 75]).extract 3 4 = ⟨#[66]⟩ := by rfl
    have hap : (ByteArray.mk #[61] ++ ByteArray.mk #[66]) = ⟨#[61, 66]⟩ := by rfl
    go_wp2_with (first
      | (go_at_call 68; refine HW.out.mono ?_; rintro e w3 ⟨⟨u, rfl⟩, hPL3⟩)
      | (go_at_call 69; refine (hPL3.str (by simp)).mono ?_; rintro e w4 ⟨rfl, hb4⟩))
    go_ret
    refine ⟨?_, hb4⟩
    rw [Hpw.out]
    rfl
  · have hW : Calls Tryz.prog 68 #[.pointer (some ⟨w.heap.size + 1, 0, none⟩), .string ⟨#[61, 82]⟩] w2 fun e w1 => (∃ u, e = .returned (.tuple #[.int .i64 u, .nilIface])) ∧ PLB w w1 S b off cap p v m (h3 ++ [61, 82]) := hPL2.writeS [61, 82] (by have := HL3.out.1; simp; omega)
    have HW := Lib.hid hW
    clear hW
    have hex : (ByteArray.mk #[32, 80, 78, 66, 82, 81, 75]).extract 4 5 = ⟨#[82]⟩ := by rfl
    have hap : (ByteArray.mk #[61] ++ ByteArray.mk #[82]) = ⟨#[61, 82]⟩ := by rfl
    go_wp2_with (first
      | (go_at_call 68; refine HW.out.mono ?_; rintro e w3 ⟨⟨u, rfl⟩, hPL3⟩)
      | (go_at_call 69; refine (hPL3.str (by simp)).mono ?_; rintro e w4 ⟨rfl, hb4⟩))
    go_ret
    refine ⟨?_, hb4⟩
    rw [Hpw.out]
    rfl
  · have hW : Calls Tryz.prog 68 #[.pointer (some ⟨w.heap.size + 1, 0, none⟩), .string ⟨#[61, 81]⟩] w2 fun e w1 => (∃ u, e = .returned (.tuple #[.int .i64 u, .nilIface])) ∧ PLB w w1 S b off cap p v m (h3 ++ [61, 81]) := hPL2.writeS [61, 81] (by have := HL3.out.1; simp; omega)
    have HW := Lib.hid hW
    clear hW
    have hex : (ByteArray.mk #[32, 80, 78, 66, 82, 81, 75]).extract 5 6 = ⟨#[81]⟩ := by rfl
    have hap : (ByteArray.mk #[61] ++ ByteArray.mk #[81]) = ⟨#[61, 81]⟩ := by rfl
    go_wp2_with (first
      | (go_at_call 68; refine HW.out.mono ?_; rintro e w3 ⟨⟨u, rfl⟩, hPL3⟩)
      | (go_at_call 69; refine (hPL3.str (by simp)).mono ?_; rintro e w4 ⟨rfl, hb4⟩))
    go_ret
    refine ⟨?_, hb4⟩
    rw [Hpw.out]
    rfl

end Go.Proofs.YthffhhbbhjcdeaaGreatDoor
