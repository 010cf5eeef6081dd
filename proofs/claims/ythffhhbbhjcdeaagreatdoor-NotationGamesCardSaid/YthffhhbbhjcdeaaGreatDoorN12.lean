/- WALKS: what Tell leans on: Itoa, Join, a scribe that lies still while a row grows. WALKS: the program's Tell, of a position that may be and at most 200 moves. (Printed by wip/gen_n13.py.) WALKS: FieldsFunc at the program's blanks; numbered; Contains at the four ends. WALKS: the program's Game, of a position that may be and a text of at most 4000 bytes. -/
import Derived.Test.YthffhhbbhjcdeaaGreatDoorN8
import Derived.Test.YthffhhbbhjcdeaaGreatDoorN3
import Derived.Test.YthffhhbbhjcdeaaGreatDoorD1
import Derived.Lib.SmallJoins
import Derived.Lib.AppendIntMem
import Derived.Test.YthffhhbbhjcdeaaGreatDoorD5
import Derived.Test.YthffhhbbhjcdeaaGreatDoorShelf2
import Derived.Test.YthffhhbbhjcdeaaGreatDoorE4
set_option linter.unusedVariables false
set_option linter.unusedSimpArgs false
namespace Go.Proofs.YthffhhbbhjcdeaaGreatDoor
open Go.RowKit
set_option maxRecDepth 100000

theorem Scr.app {w w1 : World} {S b off cap : Nat} {p : Pos} {v : Value} {row : Option Nat} (h : Scr w S b off cap p v) (hg : w.grownBy w1 row) (hS : some S ≠ row) (hb : some b ≠ row) (hv : ∀ j, v.ownBlock = some j → some j ≠ row) : Scr w1 S b off cap p v := by
  refine ⟨h.blk.of_heap (hg.block S h.blk.lt hS), ⟨Nat.lt_of_lt_of_le h.brd.lt hg.size, fun i hi => hg.cell (h.brd.cell i hi) hb, h.brd.bd⟩, ?_⟩
  rcases h.sl with h1 | ⟨bb, o, c, rfl, hr⟩
  · exact .inl h1
  · refine .inr ⟨bb, o, c, rfl, Nat.lt_of_lt_of_le hr.lt hg.size, fun j hj => ?_⟩
    have hne := hv bb rfl
    exact (World.cell?_of_block (a := ⟨bb, o + j, none⟩) (hg.block bb hr.lt hne)).trans (hr.cell j hj)

theorem pow10_below {w w1 : World} (h : Lib.TabIs Tryz.prog w "internal/strconv.uint64pow10" .u64 Lib.pow10Tab) (hb : Below w.heap.size w w1) : Lib.TabIs Tryz.prog w1 "internal/strconv.uint64pow10" .u64 Lib.pow10Tab := by
  first
    | exact Go.Joins.tab_stays (g := 3) (by kernel_rfl) h hb (Nat.le_refl _)
    | exact Go.Joins.tab_stays (g := 4) (by kernel_rfl) h hb (Nat.le_refl _)
    | exact Go.Joins.tab_stays (g := 5) (by kernel_rfl) h hb (Nat.le_refl _)

theorem itoa_any (n : Int) (h1 : 0 ≤ n) (h2 : n ≤ 999) (w : World) (htab : Lib.TabIs Tryz.prog w "internal/strconv.uint64pow10" .u64 Lib.pow10Tab) :
    Calls Tryz.prog 35 #[.int .i64 n] w (RetB (.string ⟨(decL n.toNat).toArray⟩) w) := by
  have e := itoa_dec n.toNat (by omega)
  rw [show ((n.toNat : Nat) : Int) = n by omega] at e
  rw [← e]
  refine (Tryz.strconv_Itoa n (by omega) (by omega) w htab).mono fun e w' h => ?_
  obtain ⟨rfl, k, os, rfl⟩ := h
  exact ⟨rfl, Lib.below_grow _ w (Nat.le_refl _) k os⟩

theorem join_any {w : World} {B : Nat} {v : Value} {L : List (List UInt8)} (hown : w.ownsRow B 9 1 v L.length (strsV L)) (hn : L.length ≤ 100000) (hl : (joinB L).length ≤ 1000000) :
    Calls Tryz.prog 37 #[v, .string ⟨#[32]⟩] w (RetB (strV (joinB L)) w) := by
  obtain ⟨h1, h2⟩ := hown
  rcases h2 with ⟨rfl, h0⟩ | ⟨g, cap, cur, rfl, hg, hh, hc, hcap, hsz, ht⟩
  · obtain rfl : L = [] := List.eq_nil_of_length_eq_zero h0
    refine (Tryz.strings_Join_none none 0 ⟨#[32]⟩ w).mono fun e w' h => ?_
    obtain ⟨rfl, rfl⟩ := h
    exact ⟨rfl, Below.refl _ _⟩
  · have hm : (L.map fun u => (ByteArray.mk u.toArray)).map (fun x => x.data.toList) = L := by simp [Function.comp_def]
    have hj := Tryz.strings_Join g 0 cap (L.map fun u => ByteArray.mk u.toArray) ⟨#[32]⟩ w (fun j x hx => ?_) (Array.getElem?_eq_some_iff.1 hh).1 (by rw [List.length_map]; omega) (by rw [List.length_map]; exact hc) (by rw [hm]; exact Nat.le_trans hl (by decide))
    · rw [hm, List.length_map] at hj
      exact hj
    · rw [List.getElem?_map, Option.map_eq_some_iff] at hx
      obtain ⟨u, hu, rfl⟩ := hx
      have hjl := (List.getElem?_eq_some_iff.1 hu).1
      have e2 : (strsV L)[j]? = some (.string ⟨u.toArray⟩) := by
        unfold strsV
        rw [List.getElem?_map, hu]
        rfl
      rw [← e2, ← ht, List.getElem?_take_of_lt (by omega)]
      simp [World.cell?, hh]

end Go.Proofs.YthffhhbbhjcdeaaGreatDoor
namespace Go.Proofs.YthffhhbbhjcdeaaGreatDoor
open Go.RowKit
set_option maxRecDepth 100000

def tellVP (o : Option (List (List UInt8))) : Value := match o with | some a => .tuple #[strV (joinB a), .int .i64 0] | none => .tuple #[strV [], .int .i64 8]
theorem strsV_snoc (a : List (List UInt8)) (x : List UInt8) : strsV (a ++ [x]) = strsV a ++ [.string ⟨x.toArray⟩] := by unfold strsV; rw [List.map_append]; rfl
theorem preS_le (p : Pos) (f : Bool) : (preS p f).length ≤ 20 := by
  have := decL_le p.full.toNat
  unfold preS
  repeat' split
  all_goals simp
  all_goals omega
theorem wordR_le (p : Pos) (m : Mv) : (wordR p m).length ≤ 10 := by
  have h1 := plainL_le p m
  have h2 := endL_le1 p m
  unfold wordR
  rw [List.length_append]
  omega

set_option maxHeartbeats 8000000 in
theorem tellP_yes (b off cap : Nat) (a : Option Addr) (cp : Nat) (p : Pos) (l : List (Int × Int × Int)) (w : World) (hm : MayP p) (hbr : Brd w b off p.L) (hl : l.length ≤ 200)
    (hr : l.length = 0 ∨ ∃ b off, a = some ⟨b, off, none⟩ ∧ TrRow w b off l) (htab : Lib.TabIs Tryz.prog w "internal/strconv.uint64pow10" .u64 Lib.pow10Tab) :
    Calls Tryz.prog 14 #[chessV b off cap p, .slice a l.length cp] w (RetB (tellVP (tellA p true [] l)) w) := by
  obtain ⟨i0, hi0, hz0, hz1, hz2⟩ := info_parts Tryz.info9
  have hbl := hbr.lt
  have HR := Lib.hid hr
  have HM := Lib.hid hm
  have HB := Lib.hid hbr
  have HTab := Lib.hid htab
  have hmay : ∀ w1, Below w.heap.size w w1 → Calls Tryz.prog 34 #[chessV b off cap p] w1 (RetB (.bool true) w1) := fun w1 hb => by
    have h := mayProg_any (some ⟨b, off, none⟩) 64 cap p w1 (by omega) (fun _ => ⟨b, off, rfl, ⟨(HB.out.below hb hbl).lt, (HB.out.below hb hbl).cell⟩⟩) HM.out.out (fun i => by have := HM.out.ok.bd i; omega)
    rwa [mayB_of HM.out] at h
  unfold chessV at hmay ⊢
  have HMay := Lib.hid hmay
  clear hr hm hbr htab hmay
  go_enter Tryz.func14, Tryz.ntmps14
  go_upto_region 1 with fail
  generalize hW0 : World.alloc _ _ = W0
  have hS : PB w W0 w.heap.size b off cap p := by
    rw [← hW0]; exact ⟨Blk.new w _ _, HB.out.below ((Below.refl _ _).alloc (Nat.le_refl _) _) hbl, by omega, Nat.le_refl _, (Below.refl _ _).alloc (Nat.le_refl _) _⟩
  clear hW0
  have HS := Lib.hid hS
  have p0 := hS.kP.cell (o := 0) rfl
  have p1 := hS.kP.cell (o := 1) rfl
  have p2 := hS.kP.cell (o := 2) rfl
  have p3 := hS.kP.cell (o := 3) rfl
  have p4 := hS.kP.cell (o := 4) rfl
  have p5 := hS.kP.cell (o := 5) rfl
  have hlz : ¬ (200 : Int) < l.length := by omega
  have hSl := hS.kP.lt
  clear hS
  go_wp2_with (go_at_call 34; refine (HMay.out _ HS.out.below).mono ?_; rintro e w1 ⟨rfl, hb1⟩)
  have hG : GB w w1 w.heap.size (w.heap.size + 1) b off cap p 9 1 (.slice none 0 0) 0 [] := ⟨HS.out.trans hb1, World.ownsRow_nil _ _ _ _, fun k hk => (by cases hk), Nat.lt_succ_self _, Nat.le_trans hSl hb1.size⟩
  have HG0 := Lib.hid hG
  clear hG p0 p1 p2 p3 p4 p5
  go_loopg [6, 21] l.length (fun g s6 s21 wx => ∃ (i : Nat) (acc : List (List UInt8)) (q : Pos) (b off cap : Nat), i ≤ l.length ∧ g = l.length - i ∧ s21 = .int .i64 i ∧ acc.length ≤ 2 * i ∧ (joinB acc).length ≤ 50 * i ∧ (i = 0 ↔ acc = []) ∧ GB w wx w.heap.size (w.heap.size + 1) b off cap q 9 1 s6 acc.length (strsV acc) ∧ MayP q ∧ tellA p true [] l = tellA q (i == 0) acc (l.drop i))
  case atStart => exact ⟨0, [], p, b, off, cap, by omega, rfl, rfl, by simp, by simp [joinB, Lib.join_nil], by simp, HG0.out, HM.out, rfl⟩
  case round =>
  clear HG0 HS HM HB HMay hb1
  obtain ⟨i, acc, q, b, off, cap, hi, hg, rfl, hacc, hjl, hia, hS, hm, ht⟩ := hrel
  obtain ⟨a1, c1, rfl⟩ := ownsRow_slice hS.own
  have Hg := Lib.hid hg
  have Ht := Lib.hid ht
  have Hm := Lib.hid hm
  have HS := Lib.hid hS
  have Hia := Lib.hid hia
  have RR : Hid (∀ j, (Value.slice a1 acc.length c1).ownBlock = some j → j < wr.heap.size) := Lib.hid fun j hj => (hS.own.lt j hj).2
  clear hg ht hm hS hia
  by_cases hil : i = l.length
  · have hge : ¬ i < l.length := by omega
    have Ht2 := Lib.hid (show tellA p true [] l = some acc by rw [Ht.out, hil, List.drop_length, tellA])
    have HJ := Lib.hid (join_any HS.out.own (by omega) (by omega))
    have hbw := HS.out.pb.below
    clear hil Ht
    unfold strV at HJ
    go_wp2_with (go_at_call 37; refine HJ.out.mono ?_; rintro e w2 ⟨rfl, hb2⟩)
    go_ret2
    exact ⟨by rw [Ht2.out]; rfl, hbw.trans (hb2.mono hbw.size)⟩
  have hilt : i < l.length := by omega
  have hki : (i : Int) < l.length := by omega
  clear hil hi
  rcases HR.out with h | ⟨b', o', rfl, hR⟩
  · omega
  have HR2 := Lib.hid hR
  clear HR hR
  obtain ⟨p0, p1, p2, p3, p4, p5, t0, t1, t2⟩ := keep9 HS.out.pb HR2.out hilt (Below.refl _ _)
  have hwrl := HS.out.pb.kP.lt
  go_upto_region 9 with fail
  generalize hWm : World.alloc _ _ = Wm
  have hMb : Blk Wm wr.heap.size #[.int .i64 (trAt l i).1, .int .i64 (trAt l i).2.1, .int .i64 (trAt l i).2.2] := by rw [← hWm]; exact Blk.new _ _ _
  have hbm : Below wr.heap.size wr Wm := by rw [← hWm]; exact (Below.refl _ _).alloc (Nat.le_refl _) _
  have hWl : Wm.heap.size = wr.heap.size + 1 := by rw [← hWm]; simp
  clear hWm t0 t1 t2 p0 p1 p2 p3 p4 p5
  have hS1 := HS.out.trans hbm
  have hN := newScribe_own (cap := cap) (w := Wm) Hm.out (mayB_of Hm.out) hS1.pb.brd
  unfold chessV at hN
  have HN := Lib.hid hN
  have HS1 := Lib.hid hS1
  have HMb := Lib.hid hMb
  have p0 := hS1.pb.kP.cell (o := 0) rfl
  have p1 := hS1.pb.kP.cell (o := 1) rfl
  have p2 := hS1.pb.kP.cell (o := 2) rfl
  have p3 := hS1.pb.kP.cell (o := 3) rfl
  have p4 := hS1.pb.kP.cell (o := 4) rfl
  have p5 := hS1.pb.kP.cell (o := 5) rfl
  clear hN hS1 hMb
  go_upto_region 10 with (go_at_call 20; refine HN.out.mono ?_; rintro e w1 ⟨S, v, rfl, hSc, hSlo, hvlo, hb1⟩)
  have hS2 := HS1.out.trans hb1
  have hM1 := HMb.out.below hb1 HMb.out.lt
  have m0 := hM1.cell (o := 0) rfl
  have m1 := hM1.cell (o := 1) rfl
  have m2 := hM1.cell (o := 2) rfl
  have s6 := hSc.blk.cell (o := 6) rfl
  have hScl := hSc.blk.lt
  have hMl := hM1.lt
  have hC := containsM_sl v (movesR q) (trAt l i).1 (trAt l i).2.1 (trAt l i).2.2 w1.drew (hSc.sl.below ((Below.refl _ _).drew)) (Nat.le_trans (movesUpto_le q 64) (by decide))
  have hhm : hasMv (movesR q) (trAt l i).1 (trAt l i).2.1 (trAt l i).2.2 = hasT q (trAt l i) := rfl
  rw [hhm] at hC
  have HC := Lib.hid hC
  have HSc := Lib.hid hSc
  have HS2 := Lib.hid hS2
  have HM1 := Lib.hid hM1
  clear hC hSc hS2 hM1 hhm HN HS1 HMb hb1 p0 p1 p2 p3 p4 p5 HS hbm
  obtain ⟨ao, nn, cpv, rfl⟩ : ∃ ao n cp, v = .slice ao n cp := by
    rcases HSc.out.sl with ⟨rfl, _⟩ | ⟨b, off, cap, rfl, _⟩
    · exact ⟨_, _, _, rfl⟩
    · exact ⟨_, _, _, rfl⟩
  go_cut [37] from 31 to 36 (fun s37 wx => s37 = .bool (!hasT q (trAt l i)) ∧ Below w1.heap.size w1 wx)
  case first =>
    go_region_held3 (fun w' => w'.cell? ⟨S, 6, none⟩ = some (.slice ao nn cpv) ∧ w'.cell? ⟨wr.heap.size, 0, none⟩ = some (.int .i64 (trAt l i).1) ∧ w'.cell? ⟨wr.heap.size, 1, none⟩ = some (.int .i64 (trAt l i).2.1) ∧ w'.cell? ⟨wr.heap.size, 2, none⟩ = some (.int .i64 (trAt l i).2.2))
      (first | exact ⟨(hb2.cell (p := ⟨S, 6, none⟩) hScl).trans s6, mcells (w := w) HM1.out (((Below.refl w1.heap.size w1).drew).trans hb2)⟩ | go_keep)
      (first
        | (go_at_call 21; refine HC.out.mono ?_; rintro e w2 ⟨rfl, hb2⟩))
    go_wp2
    go_meet
    exact ⟨rfl, ((Below.refl _ _).drew).trans hb2⟩
  case rest =>
  obtain ⟨rfl, hb2⟩ := hcut
  clear m0 m1 m2 s6
  cases hT : hasT q (trAt l i)
  case false =>
    have Ht2 := Lib.hid (show tellA p true [] l = none by rw [Ht.out, drop_tr hilt, tellA, hT]; rfl)
    have hbw := HS2.out.pb.below.trans (hb2.mono HS2.out.pb.below.size)
    clear hT Ht
    go_wp2
    go_ret2
    exact ⟨by rw [Ht2.out]; rfl, hbw⟩
  case true =>
  have Ht2 := Lib.hid (show tellA p true [] l = tellA (doneR q (mvOf (trAt l i))) false (acc ++ preP q (i == 0) ++ [wordR q (mvOf (trAt l i))]) (l.drop (i + 1)) by rw [Ht.out, drop_tr hilt, tellA, hT]; rfl)
  have HY := Lib.hid (hasT_yes hT)
  have HJ := Lib.hid (join_step q (i == 0) acc (wordR q (mvOf (trAt l i))) Hm.out.ok.turn (by rw [beq_iff_eq]; exact Hia.out))
  clear hT Ht HC
  have hS3 := HS2.out.trans hb2
  have hSc3 := HSc.out.below hb2
  have hM3 := HM1.out.below hb2 HM1.out.lt
  have hbwc := hS3.pb.below
  have htab : ∀ w1, Below wc.heap.size wc w1 → Lib.TabIs Tryz.prog w1 "internal/strconv.uint64pow10" .u64 Lib.pow10Tab := fun w1 hb => pow10_below HTab.out (hbwc.trans (hb.mono hbwc.size))
  have hD : ∀ w1, Below wc.heap.size wc w1 → Calls Tryz.prog 35 #[.int .i64 q.full] w1 (RetB (.string ⟨(decL q.full.toNat).toArray⟩) w1) := fun w1 hb => itoa_any q.full (by have := Hm.out.ok.f0; omega) Hm.out.ok.f1 w1 (htab w1 hb)
  have HD := Lib.hid hD
  have hDl := decL_le q.full.toNat
  have HK : Hid (preP q (i == 0) = if q.turn = 0 then [decL q.full.toNat ++ [46]] else if (i == 0) = true then [decL q.full.toNat ++ [46, 46, 46]] else []) := Lib.hid rfl
  have hPl : (preP q (i == 0)).length ≤ 1 := by unfold preP; repeat' split <;> simp
  obtain ⟨acc2, hacc2⟩ : ∃ acc2, acc2 = acc ++ preP q (i == 0) := ⟨_, rfl⟩
  rw [← hacc2] at Ht2 HJ
  have hacc2l : acc2.length ≤ 2 * i + 1 := by rw [hacc2, List.length_append]; omega
  have HA2 := Lib.hid hacc2
  have HS3 := Lib.hid hS3
  have HSc3 := Lib.hid hSc3
  have HM3 := Lib.hid hM3
  have hwcl : wr.heap.size < wc.heap.size := HM3.out.lt
  have hrow : ∀ j, (Value.slice a1 acc.length c1).ownBlock = some j → j < wr.heap.size := fun j hj => (RR.out j hj)
  clear hD hacc2 HS2 HSc HM1 hb2 htab hPl hbwc
  have hturn := Hm.out.ok.turn
  have p1 := HS3.out.pb.kP.cell (o := 1) rfl
  have p5 := HS3.out.pb.kP.cell (o := 5) rfl
  generalize hDD : decL q.full.toNat = D at *
  clear hDD
  rcases hturn with h0 | h0
  · rw [h0] at p1
    have Hacc := Lib.hid (show acc2 = acc ++ [D ++ [46]] by rw [HA2.out, HK.out, if_pos h0])
    clear h0
    go_upto_region 13 with fail
    go_wp2_with (first
      | (go_at_call 35; refine (HD.out _ (Below.refl _ _)).mono ?_; rintro e w3 ⟨rfl, hb3⟩)
      | (at_builtin; refine wpList_append_own_at _ rfl _ _ 61 rfl (w.heap.size + 1) 9 i0 (.string ByteArray.empty) 1 16 Tryz.underlying61 hi0 hz0 hz1 hz2 rfl (by decide) _ _ _ rfl ((HS3.out.trans hb3).own.alloc _) ⟨w3.heap.size, 0, none⟩ 1 1 [.string (⟨D.toArray⟩ ++ ⟨#[46]⟩)] rfl rfl ?c1 ?c2 ?c3 ?c4 ?c5 ?_))
    case c1 => exact one_new _ _ _
    case c2 => intro x hx; simp at hx; subst hx; rfl
    case c3 => unfold maxLen; omega
    case c4 => omega
    case c5 => have h1 := HS3.out.bs; have h2 := hb3.size; first | (simp; done) | (simp; omega)
    intro vz wz hown' hgrow _ hat
    have hwzl : wc.heap.size ≤ wz.heap.size := Nat.le_trans hb3.size (Nat.le_trans (by simp) hgrow.size)
    have hA := (HS3.out.trans hb3).trans ((Below.refl w3.heap.size w3).alloc (Nat.le_refl _) (.cells #[.string (⟨D.toArray⟩ ++ ⟨#[46]⟩)] 9))
    have hS4 : GB w wz w.heap.size (w.heap.size + 1) b off cap q 9 1 vz acc2.length (strsV acc2) := by
      have h := hA.app hown' hgrow (by simpa using hat)
      rw [Hacc.out, List.length_append, strsV_snoc]
      rw [show ((⟨D.toArray⟩ : ByteArray) ++ ⟨#[46]⟩) = ⟨(D ++ [46]).toArray⟩ from bytes_app D [46]] at h
      exact h
    have hSc4 : Scr wz S b off cap q (.slice ao nn cpv) := ((HSc3.out.below hb3).below ((Below.refl w3.heap.size w3).alloc (Nat.le_refl _) (.cells #[.string (⟨D.toArray⟩ ++ ⟨#[46]⟩)] 9))).app hgrow
      (fun he => by have := hrow _ he.symm; omega) (fun he => HS3.out.free _ he.symm rfl) (fun j hj he => by have h1 := hvlo j hj; have h2 := hrow _ he.symm; omega)
    have hM4 := ((HM3.out.below hb3 HM3.out.lt).alloc (.cells #[.string (⟨D.toArray⟩ ++ ⟨#[46]⟩)] 9)).of_heap (hgrow.block _ (by have := hb3.size; simp; omega) (fun he => by have := hrow _ he.symm; omega))
    have hrow4 : ∀ j, vz.ownBlock = some j → j < wr.heap.size ∨ wc.heap.size ≤ j := fun j hj => by
      have h3 := hb3.size
      rcases hat with he | he
      · exact .inl (hrow j (he ▸ hj))
      · rw [he] at hj
        cases hj
        exact .inr (by omega)
    have HS4 := Lib.hid hS4
    have HSc4 := Lib.hid hSc4
    have HM4 := Lib.hid hM4
    clear hA hS4 hSc4 hM4 hown' hgrow hat HS3 HSc3 HM3 hb3 p1 p5
    go_upto_region 16 with fail
    have hwd : ∀ w1, Below wz.heap.size wz w1 → Calls Tryz.prog 22 #[.pointer (some ⟨S, 0, none⟩), mvV (mvOf (trAt l i))] w1 (RetB (strV (wordR q (mvOf (trAt l i)))) w1) := fun w1 hb => wordP_any Hm.out (HSc4.out.below hb) HY.out.1
    have haf : ∀ w1, Brd w1 b off q.L → Calls Tryz.prog 36 #[chessV b off cap q, mvV (mvOf (trAt l i))] w1 fun e w' => ∃ g cq, e = .returned (chessV g 0 cq (doneR q (mvOf (trAt l i)))) ∧ Brd w' g 0 (doneL q (mvOf (trAt l i))) ∧ w1.heap.size ≤ g ∧ Below w1.heap.size w1 w' := fun w1 hb => afterP_m Hm.out (mem_movesR.1 HY.out.1).1 b off cap w1 hb
    unfold mvV at hwd haf
    unfold strV at hwd
    unfold chessV at haf
    rw [← HY.out.2.1, ← HY.out.2.2.1, ← HY.out.2.2.2] at hwd haf
    have HMay := Lib.hid (mayP_next Hm.out (mem_movesR.1 HY.out.1).1 (mem_movesR.1 HY.out.1).2)
    have hWl := wordR_le q (mvOf (trAt l i))
    have hpsl := preS_le q (i == 0)
    have HWd := Lib.hid hwd
    have HAf := Lib.hid haf
    have m0 := HM4.out.cell (o := 0) rfl
    have m1 := HM4.out.cell (o := 1) rfl
    have m2 := HM4.out.cell (o := 2) rfl
    have hbs4 := HS4.out.bs
    clear hwd haf HY Hacc HA2 HK HD
    generalize wordR q (mvOf (trAt l i)) = W at *
    go_wp2_with (first
      | (go_at_call 22; refine (HWd.out _ (Below.refl _ _)).mono ?_; rintro e w4 ⟨rfl, hb4⟩)
      | (at_builtin; refine wpList_append_own_at _ rfl _ _ 61 rfl (w.heap.size + 1) 9 i0 (.string ByteArray.empty) 1 16 Tryz.underlying61 hi0 hz0 hz1 hz2 rfl (by decide) _ _ _ rfl ((HS4.out.trans hb4).own.alloc _) ⟨w4.heap.size, 0, none⟩ 1 1 [.string ⟨W.toArray⟩] rfl rfl ?c1 ?c2 ?c3 ?c4 ?c5 ?_))
    case c1 => exact one_new _ _ _
    case c2 => intro x hx; simp at hx; subst hx; rfl
    case c3 => unfold maxLen; omega
    case c4 => omega
    case c5 => have h2 := hb4.size; first | (simp; done) | (simp; omega)
    intro v5 w5 hown5 hgrow5 _ hat5
    have hA5 := (HS4.out.trans hb4).trans ((Below.refl w4.heap.size w4).alloc (Nat.le_refl _) (.cells #[.string ⟨W.toArray⟩] 9))
    have hS5 : GB w w5 w.heap.size (w.heap.size + 1) b off cap q 9 1 v5 (acc2 ++ [W]).length (strsV (acc2 ++ [W])) := by
      have h := hA5.app hown5 hgrow5 (by simpa using hat5)
      rw [List.length_append, strsV_snoc]
      exact h
    have hM5 := ((HM4.out.below hb4 HM4.out.lt).alloc (.cells #[.string ⟨W.toArray⟩] 9)).of_heap (hgrow5.block _ (by have := hb4.size; simp; omega) (fun he => by have := hrow4 _ he.symm; omega))
    have HS5 := Lib.hid hS5
    have q0 := hS5.pb.kP.cell (o := 0) rfl
    have q1 := hS5.pb.kP.cell (o := 1) rfl
    have q2 := hS5.pb.kP.cell (o := 2) rfl
    have q3 := hS5.pb.kP.cell (o := 3) rfl
    have q4 := hS5.pb.kP.cell (o := 4) rfl
    have q5 := hS5.pb.kP.cell (o := 5) rfl
    have n0 := hM5.cell (o := 0) rfl
    have n1 := hM5.cell (o := 1) rfl
    have n2 := hM5.cell (o := 2) rfl
    clear hA5 hS5 hM5 hown5 hgrow5 hat5 HS4 HSc4 HM4 m0 m1 m2 hb4
    go_wp2_with (go_at_call 36; refine (HAf.out _ HS5.out.pb.brd).mono ?_; rintro e w6 ⟨g, cq, rfl, hown, hgl, hb6⟩; have hK6 := HS5.out.pb.kP.below hb6 HS5.out.pb.kP.lt; have f0 := hK6.free 0; have f1 := hK6.free 1; have f2 := hK6.free 2; have f3 := hK6.free 3; have f4 := hK6.free 4; have f5 := hK6.free 5; have c0 := hK6.cell (o := 0) rfl; have c1 := hK6.cell (o := 1) rfl; have c2 := hK6.cell (o := 2) rfl; have c3 := hK6.cell (o := 3) rfl; have c4 := hK6.cell (o := 4) rfl; have c5 := hK6.cell (o := 5) rfl)
    have hS7 := HS5.out.put hb6 (c := cq) (q' := doneR q (mvOf (trAt l i))) hown hgl
    go_roundg (l.length - (i + 1))
    case measure => have := Hg.out; omega
    case rel => exact ⟨i + 1, acc2 ++ [W], doneR q (mvOf (trAt l i)), g, 0, cq, by omega, rfl, by go_num, by rw [List.length_append, List.length_singleton]; omega, by rw [HJ.out, List.length_append, List.length_append]; omega, by simp, hS7, HMay.out, by rw [show (i + 1 == 0) = false from beq_eq_false_iff_ne.2 (by omega)]; exact Ht2.out⟩
  · rw [h0] at p1
    have hn0 : ¬ q.turn = 0 := by omega
    rcases Nat.eq_zero_or_pos i with hi0 | hi0
    · have Hacc := Lib.hid (show acc2 = acc ++ [D ++ [46, 46, 46]] by rw [HA2.out, HK.out, if_neg hn0, if_pos (by simp [hi0])])
      clear h0 hn0
      subst hi0
      go_upto_region 15 with fail
      go_wp2_with (first
        | (go_at_call 35; refine (HD.out _ (Below.refl _ _)).mono ?_; rintro e w3 ⟨rfl, hb3⟩)
        | (at_builtin; refine wpList_append_own_at _ rfl _ _ 61 rfl (w.heap.size + 1) 9 i0 (.string ByteArray.empty) 1 16 Tryz.underlying61 hi0 hz0 hz1 hz2 rfl (by decide) _ _ _ rfl ((HS3.out.trans hb3).own.alloc _) ⟨w3.heap.size, 0, none⟩ 1 1 [.string (⟨D.toArray⟩ ++ ⟨#[46, 46, 46]⟩)] rfl rfl ?c1 ?c2 ?c3 ?c4 ?c5 ?_))
      case c1 => exact one_new _ _ _
      case c2 => intro x hx; simp at hx; subst hx; rfl
      case c3 => unfold maxLen; omega
      case c4 => omega
      case c5 => have h1 := HS3.out.bs; have h2 := hb3.size; first | (simp; done) | (simp; omega)
      intro vz wz hown' hgrow _ hat
      have hwzl : wc.heap.size ≤ wz.heap.size := Nat.le_trans hb3.size (Nat.le_trans (by simp) hgrow.size)
      have hA := (HS3.out.trans hb3).trans ((Below.refl w3.heap.size w3).alloc (Nat.le_refl _) (.cells #[.string (⟨D.toArray⟩ ++ ⟨#[46, 46, 46]⟩)] 9))
      have hS4 : GB w wz w.heap.size (w.heap.size + 1) b off cap q 9 1 vz acc2.length (strsV acc2) := by
        have h := hA.app hown' hgrow (by simpa using hat)
        rw [Hacc.out, List.length_append, strsV_snoc]
        rw [show ((⟨D.toArray⟩ : ByteArray) ++ ⟨#[46, 46, 46]⟩) = ⟨(D ++ [46, 46, 46]).toArray⟩ from bytes_app D [46, 46, 46]] at h
        exact h
      have hSc4 : Scr wz S b off cap q (.slice ao nn cpv) := ((HSc3.out.below hb3).below ((Below.refl w3.heap.size w3).alloc (Nat.le_refl _) (.cells #[.string (⟨D.toArray⟩ ++ ⟨#[46, 46, 46]⟩)] 9))).app hgrow
        (fun he => by have := hrow _ he.symm; omega) (fun he => HS3.out.free _ he.symm rfl) (fun j hj he => by have h1 := hvlo j hj; have h2 := hrow _ he.symm; omega)
      have hM4 := ((HM3.out.below hb3 HM3.out.lt).alloc (.cells #[.string (⟨D.toArray⟩ ++ ⟨#[46, 46, 46]⟩)] 9)).of_heap (hgrow.block _ (by have := hb3.size; simp; omega) (fun he => by have := hrow _ he.symm; omega))
      have hrow4 : ∀ j, vz.ownBlock = some j → j < wr.heap.size ∨ wc.heap.size ≤ j := fun j hj => by
        have h3 := hb3.size
        rcases hat with he | he
        · exact .inl (hrow j (he ▸ hj))
        · rw [he] at hj
          cases hj
          exact .inr (by omega)
      have HS4 := Lib.hid hS4
      have HSc4 := Lib.hid hSc4
      have HM4 := Lib.hid hM4
      clear hA hS4 hSc4 hM4 hown' hgrow hat HS3 HSc3 HM3 hb3 p1 p5
      go_upto_region 16 with fail
      have hwd : ∀ w1, Below wz.heap.size wz w1 → Calls Tryz.prog 22 #[.pointer (some ⟨S, 0, none⟩), mvV (mvOf (trAt l 0))] w1 (RetB (strV (wordR q (mvOf (trAt l 0)))) w1) := fun w1 hb => wordP_any Hm.out (HSc4.out.below hb) HY.out.1
      have haf : ∀ w1, Brd w1 b off q.L → Calls Tryz.prog 36 #[chessV b off cap q, mvV (mvOf (trAt l 0))] w1 fun e w' => ∃ g cq, e = .returned (chessV g 0 cq (doneR q (mvOf (trAt l 0)))) ∧ Brd w' g 0 (doneL q (mvOf (trAt l 0))) ∧ w1.heap.size ≤ g ∧ Below w1.heap.size w1 w' := fun w1 hb => afterP_m Hm.out (mem_movesR.1 HY.out.1).1 b off cap w1 hb
      unfold mvV at hwd haf
      unfold strV at hwd
      unfold chessV at haf
      rw [← HY.out.2.1, ← HY.out.2.2.1, ← HY.out.2.2.2] at hwd haf
      have HMay := Lib.hid (mayP_next Hm.out (mem_movesR.1 HY.out.1).1 (mem_movesR.1 HY.out.1).2)
      have hWl := wordR_le q (mvOf (trAt l 0))
      have hpsl := preS_le q (0 == 0)
      have HWd := Lib.hid hwd
      have HAf := Lib.hid haf
      have m0 := HM4.out.cell (o := 0) rfl
      have m1 := HM4.out.cell (o := 1) rfl
      have m2 := HM4.out.cell (o := 2) rfl
      have hbs4 := HS4.out.bs
      clear hwd haf HY Hacc HA2 HK HD
      generalize wordR q (mvOf (trAt l 0)) = W at *
      go_wp2_with (first
        | (go_at_call 22; refine (HWd.out _ (Below.refl _ _)).mono ?_; rintro e w4 ⟨rfl, hb4⟩)
        | (at_builtin; refine wpList_append_own_at _ rfl _ _ 61 rfl (w.heap.size + 1) 9 i0 (.string ByteArray.empty) 1 16 Tryz.underlying61 hi0 hz0 hz1 hz2 rfl (by decide) _ _ _ rfl ((HS4.out.trans hb4).own.alloc _) ⟨w4.heap.size, 0, none⟩ 1 1 [.string ⟨W.toArray⟩] rfl rfl ?c1 ?c2 ?c3 ?c4 ?c5 ?_))
      case c1 => exact one_new _ _ _
      case c2 => intro x hx; simp at hx; subst hx; rfl
      case c3 => unfold maxLen; omega
      case c4 => omega
      case c5 => have h2 := hb4.size; first | (simp; done) | (simp; omega)
      intro v5 w5 hown5 hgrow5 _ hat5
      have hA5 := (HS4.out.trans hb4).trans ((Below.refl w4.heap.size w4).alloc (Nat.le_refl _) (.cells #[.string ⟨W.toArray⟩] 9))
      have hS5 : GB w w5 w.heap.size (w.heap.size + 1) b off cap q 9 1 v5 (acc2 ++ [W]).length (strsV (acc2 ++ [W])) := by
        have h := hA5.app hown5 hgrow5 (by simpa using hat5)
        rw [List.length_append, strsV_snoc]
        exact h
      have hM5 := ((HM4.out.below hb4 HM4.out.lt).alloc (.cells #[.string ⟨W.toArray⟩] 9)).of_heap (hgrow5.block _ (by have := hb4.size; simp; omega) (fun he => by have := hrow4 _ he.symm; omega))
      have HS5 := Lib.hid hS5
      have q0 := hS5.pb.kP.cell (o := 0) rfl
      have q1 := hS5.pb.kP.cell (o := 1) rfl
      have q2 := hS5.pb.kP.cell (o := 2) rfl
      have q3 := hS5.pb.kP.cell (o := 3) rfl
      have q4 := hS5.pb.kP.cell (o := 4) rfl
      have q5 := hS5.pb.kP.cell (o := 5) rfl
      have n0 := hM5.cell (o := 0) rfl
      have n1 := hM5.cell (o := 1) rfl
      have n2 := hM5.cell (o := 2) rfl
      clear hA5 hS5 hM5 hown5 hgrow5 hat5 HS4 HSc4 HM4 m0 m1 m2 hb4
      go_wp2_with (go_at_call 36; refine (HAf.out _ HS5.out.pb.brd).mono ?_; rintro e w6 ⟨g, cq, rfl, hown, hgl, hb6⟩; have hK6 := HS5.out.pb.kP.below hb6 HS5.out.pb.kP.lt; have f0 := hK6.free 0; have f1 := hK6.free 1; have f2 := hK6.free 2; have f3 := hK6.free 3; have f4 := hK6.free 4; have f5 := hK6.free 5; have c0 := hK6.cell (o := 0) rfl; have c1 := hK6.cell (o := 1) rfl; have c2 := hK6.cell (o := 2) rfl; have c3 := hK6.cell (o := 3) rfl; have c4 := hK6.cell (o := 4) rfl; have c5 := hK6.cell (o := 5) rfl)
      have hS7 := HS5.out.put hb6 (c := cq) (q' := doneR q (mvOf (trAt l 0))) hown hgl
      go_roundg (l.length - (0 + 1))
      case measure => have := Hg.out; omega
      case rel => exact ⟨0 + 1, acc2 ++ [W], doneR q (mvOf (trAt l 0)), g, 0, cq, by omega, rfl, by go_num, by rw [List.length_append, List.length_singleton]; omega, by rw [HJ.out, List.length_append, List.length_append]; omega, by simp, hS7, HMay.out, by rw [show (0 + 1 == 0) = false from beq_eq_false_iff_ne.2 (by omega)]; exact Ht2.out⟩
    · have Hacc := Lib.hid (show acc2 = acc by rw [HA2.out, HK.out, if_neg hn0, if_neg (by simp; omega), List.append_nil])
      have hi1 : ((i : Int) == 0) = false := by simp; omega
      clear h0 hn0 hi0
      have HS4 : Hid (GB w wc w.heap.size (w.heap.size + 1) b off cap q 9 1 (.slice a1 acc.length c1) acc2.length (strsV acc2)) := Lib.hid (by rw [Hacc.out]; exact HS3.out)
      have HSc4 := HSc3
      have HM4 := HM3
      have hrow4 : ∀ j, (Value.slice a1 acc.length c1).ownBlock = some j → j < wr.heap.size ∨ wc.heap.size ≤ j := fun j hj => .inl (hrow j hj)
      go_upto_region 16 with fail
      obtain ⟨wz, hwz⟩ : ∃ wz, wz = wc := ⟨wc, rfl⟩
      rw [← hwz] at HS4 HSc4 HM4 ⊢
      have hwzl : wc.heap.size ≤ wz.heap.size := by rw [hwz]; exact Nat.le_refl _
      clear hwz HS3 HSc3 HM3 p1 p5
      generalize hvz : Value.slice a1 acc.length c1 = vz at *
      clear hvz
      have hwd : ∀ w1, Below wz.heap.size wz w1 → Calls Tryz.prog 22 #[.pointer (some ⟨S, 0, none⟩), mvV (mvOf (trAt l i))] w1 (RetB (strV (wordR q (mvOf (trAt l i)))) w1) := fun w1 hb => wordP_any Hm.out (HSc4.out.below hb) HY.out.1
      have haf : ∀ w1, Brd w1 b off q.L → Calls Tryz.prog 36 #[chessV b off cap q, mvV (mvOf (trAt l i))] w1 fun e w' => ∃ g cq, e = .returned (chessV g 0 cq (doneR q (mvOf (trAt l i)))) ∧ Brd w' g 0 (doneL q (mvOf (trAt l i))) ∧ w1.heap.size ≤ g ∧ Below w1.heap.size w1 w' := fun w1 hb => afterP_m Hm.out (mem_movesR.1 HY.out.1).1 b off cap w1 hb
      unfold mvV at hwd haf
      unfold strV at hwd
      unfold chessV at haf
      rw [← HY.out.2.1, ← HY.out.2.2.1, ← HY.out.2.2.2] at hwd haf
      have HMay := Lib.hid (mayP_next Hm.out (mem_movesR.1 HY.out.1).1 (mem_movesR.1 HY.out.1).2)
      have hWl := wordR_le q (mvOf (trAt l i))
      have hpsl := preS_le q (i == 0)
      have HWd := Lib.hid hwd
      have HAf := Lib.hid haf
      have m0 := HM4.out.cell (o := 0) rfl
      have m1 := HM4.out.cell (o := 1) rfl
      have m2 := HM4.out.cell (o := 2) rfl
      have hbs4 := HS4.out.bs
      clear hwd haf HY Hacc HA2 HK HD
      generalize wordR q (mvOf (trAt l i)) = W at *
      go_wp2_with (first
        | (go_at_call 22; refine (HWd.out _ (Below.refl _ _)).mono ?_; rintro e w4 ⟨rfl, hb4⟩)
        | (at_builtin; refine wpList_append_own_at _ rfl _ _ 61 rfl (w.heap.size + 1) 9 i0 (.string ByteArray.empty) 1 16 Tryz.underlying61 hi0 hz0 hz1 hz2 rfl (by decide) _ _ _ rfl ((HS4.out.trans hb4).own.alloc _) ⟨w4.heap.size, 0, none⟩ 1 1 [.string ⟨W.toArray⟩] rfl rfl ?c1 ?c2 ?c3 ?c4 ?c5 ?_))
      case c1 => exact one_new _ _ _
      case c2 => intro x hx; simp at hx; subst hx; rfl
      case c3 => unfold maxLen; omega
      case c4 => omega
      case c5 => have h2 := hb4.size; first | (simp; done) | (simp; omega)
      intro v5 w5 hown5 hgrow5 _ hat5
      have hA5 := (HS4.out.trans hb4).trans ((Below.refl w4.heap.size w4).alloc (Nat.le_refl _) (.cells #[.string ⟨W.toArray⟩] 9))
      have hS5 : GB w w5 w.heap.size (w.heap.size + 1) b off cap q 9 1 v5 (acc2 ++ [W]).length (strsV (acc2 ++ [W])) := by
        have h := hA5.app hown5 hgrow5 (by simpa using hat5)
        rw [List.length_append, strsV_snoc]
        exact h
      have hM5 := ((HM4.out.below hb4 HM4.out.lt).alloc (.cells #[.string ⟨W.toArray⟩] 9)).of_heap (hgrow5.block _ (by have := hb4.size; simp; omega) (fun he => by have := hrow4 _ he.symm; omega))
      have HS5 := Lib.hid hS5
      have q0 := hS5.pb.kP.cell (o := 0) rfl
      have q1 := hS5.pb.kP.cell (o := 1) rfl
      have q2 := hS5.pb.kP.cell (o := 2) rfl
      have q3 := hS5.pb.kP.cell (o := 3) rfl
      have q4 := hS5.pb.kP.cell (o := 4) rfl
      have q5 := hS5.pb.kP.cell (o := 5) rfl
      have n0 := hM5.cell (o := 0) rfl
      have n1 := hM5.cell (o := 1) rfl
      have n2 := hM5.cell (o := 2) rfl
      clear hA5 hS5 hM5 hown5 hgrow5 hat5 HS4 HSc4 HM4 m0 m1 m2 hb4
      go_wp2_with (go_at_call 36; refine (HAf.out _ HS5.out.pb.brd).mono ?_; rintro e w6 ⟨g, cq, rfl, hown, hgl, hb6⟩; have hK6 := HS5.out.pb.kP.below hb6 HS5.out.pb.kP.lt; have f0 := hK6.free 0; have f1 := hK6.free 1; have f2 := hK6.free 2; have f3 := hK6.free 3; have f4 := hK6.free 4; have f5 := hK6.free 5; have c0 := hK6.cell (o := 0) rfl; have c1 := hK6.cell (o := 1) rfl; have c2 := hK6.cell (o := 2) rfl; have c3 := hK6.cell (o := 3) rfl; have c4 := hK6.cell (o := 4) rfl; have c5 := hK6.cell (o := 5) rfl)
      have hS7 := HS5.out.put hb6 (c := cq) (q' := doneR q (mvOf (trAt l i))) hown hgl
      go_roundg (l.length - (i + 1))
      case measure => have := Hg.out; omega
      case rel => exact ⟨i + 1, acc2 ++ [W], doneR q (mvOf (trAt l i)), g, 0, cq, by omega, rfl, by go_num, by rw [List.length_append, List.length_singleton]; omega, by rw [HJ.out, List.length_append, List.length_append]; omega, by simp, hS7, HMay.out, by rw [show (i + 1 == 0) = false from beq_eq_false_iff_ne.2 (by omega)]; exact Ht2.out⟩

end Go.Proofs.YthffhhbbhjcdeaaGreatDoor
namespace Go.Proofs.YthffhhbbhjcdeaaGreatDoor
open Go.RowKit
set_option maxRecDepth 100000

theorem blank_any (c : Int) (w : World) : Calls Tryz.prog 38 #[.int .i32 c] w (RetW (.bool (c == 9 || c == 10 || c == 13 || c == 32)) w) := by
  go_enter Tryz.func38, Tryz.ntmps38
  go_wp2
  all_goals (go_ret; exact ⟨by simp [*], rfl⟩)

theorem blank_grows (w : World) : PredGrows Tryz.prog 38 #[] blankR w := by
  intro W x hx hb
  refine (blank_any x W).mono fun e w' h => ?_
  obtain ⟨rfl, rfl⟩ := h
  refine ⟨congrArg Ending.returned (congrArg Value.bool ?_), Below.refl _ _⟩
  unfold blankR
  rw [Bool.eq_iff_iff]
  simp only [Bool.or_eq_true, beq_iff_eq]
  omega

theorem fieldsFunc_any (s : List UInt8) (w : World) (hs : s.length ≤ 4000000) :
    Calls Tryz.prog 39 #[.string ⟨s.toArray⟩, .func (.func 38) #[] #[]] w fun e w' => ∃ A, e = .returned (.slice (some ⟨A, 0, none⟩) (wordsL s).length (wordsL s).length) ∧ w.heap.size ≤ A ∧
      w'.ownsRow w.heap.size 9 1 (.slice (some ⟨A, 0, none⟩) (wordsL s).length (wordsL s).length) (wordsL s).length (strsV (wordsL s)) ∧ Below w.heap.size w w' := by
  have h := Any.strings_FieldsFunc_grows Tryz.lays229 38 #[] (enters_of Tryz.func38 (by kernel_rfl) rfl) blankR ⟨s.toArray⟩ w (by show s.toArray.size ≤ _; simp; omega) (blank_grows w) (by kernel_rfl) (by kernel_rfl)
  rw [fields_len, fields_vals] at h
  exact h

def digitsL : List UInt8 := [48, 49, 50, 51, 52, 53, 54, 55, 56, 57]
theorem digits_eq (c : UInt8) : digitsL.contains c = digitB c := by
  rw [Bool.eq_iff_iff]
  unfold digitsL digitB
  simp only [List.contains_eq_mem, List.mem_cons, List.not_mem_nil, or_false, decide_eq_true_eq, Bool.and_eq_true, ← UInt8.toNat_inj]
  constructor
  · rintro (h | h | h | h | h | h | h | h | h | h) <;> rw [h] <;> decide
  · rintro ⟨h1, h2⟩
    have e : ∀ k : UInt8, k.toNat = k.toNat := fun _ => rfl
    simp only [show (48 : UInt8).toNat = 48 from rfl, show (49 : UInt8).toNat = 49 from rfl, show (50 : UInt8).toNat = 50 from rfl, show (51 : UInt8).toNat = 51 from rfl, show (52 : UInt8).toNat = 52 from rfl, show (53 : UInt8).toNat = 53 from rfl, show (54 : UInt8).toNat = 54 from rfl, show (55 : UInt8).toNat = 55 from rfl, show (56 : UInt8).toNat = 56 from rfl, show (57 : UInt8).toNat = 57 from rfl]
    omega
theorem trim_digits : ∀ s : List UInt8, Lib.trimLeftS s digitsL = s.drop (numK s)
  | [] => rfl
  | c :: r => by
    have ih := trim_digits r
    unfold Lib.trimLeftS numK at ih ⊢
    cases h : digitB c with
    | true =>
      rw [List.dropWhile_cons_of_pos (by rw [digits_eq]; exact h), List.takeWhile_cons_of_pos h, ih]
      simp
    | false =>
      rw [List.dropWhile_cons_of_neg (by rw [digits_eq, h]; decide), List.takeWhile_cons_of_neg (by rw [h]; decide)]
      rfl
theorem numK_le (s : List UInt8) : numK s ≤ s.length := by
  unfold numK
  have h := congrArg List.length (List.takeWhile_append_dropWhile (p := digitB) (l := s))
  rw [List.length_append] at h
  omega

theorem trimLeft_any (s : List UInt8) (w : World) : Calls Tryz.prog 70 #[.string ⟨s.toArray⟩, .string ⟨#[48, 49, 50, 51, 52, 53, 54, 55, 56, 57]⟩] w (RetB (.string ⟨(s.drop (numK s)).toArray⟩) w) := by
  have h := Any.strings_TrimLeft_laid Tryz.lays161 (by kernel_rfl) ⟨s.toArray⟩ ⟨#[48, 49, 50, 51, 52, 53, 54, 55, 56, 57]⟩ w (by decide) (ascii_of_all (by decide))
  rw [show Lib.trimLeftS (ByteArray.mk s.toArray).data.toList (ByteArray.mk #[48, 49, 50, 51, 52, 53, 54, 55, 56, 57]).data.toList = s.drop (numK s) from trim_digits s] at h
  exact h

set_option maxHeartbeats 4000000 in
theorem numberedP_any (s : List UInt8) (w : World) (hs : s.length ≤ 4000000) : Calls Tryz.prog 40 #[.string ⟨s.toArray⟩] w (RetB (.bool (numB s)) w) := by
  have HT := Lib.hid (trimLeft_any s w)
  have hk := numK_le s
  have hd : (s.drop (numK s)).length + numK s = s.length := by rw [List.length_drop]; omega
  have hn : numB s = (decide (1 ≤ (numK s : Int)) && decide ((numK s : Int) ≤ 3) && (s.drop (numK s) == [46] || s.drop (numK s) == [46, 46, 46])) := rfl
  generalize numB s = nb at *
  have Hn := Lib.hid hn
  clear hn
  generalize s.drop (numK s) = d at *
  generalize numK s = k at *
  go_enter Tryz.func40, Tryz.ntmps40
  go_wp2_with (go_at_call 70; refine HT.out.mono ?_; rintro e w1 ⟨rfl, hb1⟩)
  all_goals
    go_ret
    refine ⟨?_, hb1⟩
    rw [Hn.out]
    refine congrArg Ending.returned (congrArg Value.bool ?_)
    clear Hn
  · rename_i h1 h2 h3
    subst h3
    have h46 : ([46] : List UInt8).length = 1 := rfl
    rw [h46] at h1 h2 hd
    rw [decide_eq_true (p := 1 ≤ (k : Int)) (by omega), decide_eq_true (p := (k : Int) ≤ 3) (by omega)]
    rfl
  · rw [decide_eq_true (by omega), decide_eq_true (by omega)]
    rfl
  · rw [decide_eq_false (p := (k : Int) ≤ 3) (by omega), Bool.and_false]
    rfl
  · rw [decide_eq_false (p := 1 ≤ (k : Int)) (by omega)]
    rfl

end Go.Proofs.YthffhhbbhjcdeaaGreatDoor
namespace Go.Proofs.YthffhhbbhjcdeaaGreatDoor
open Go.RowKit
set_option maxRecDepth 100000

def endsV : Array Value := #[.string ⟨#[49, 45, 48]⟩, .string ⟨#[48, 45, 49]⟩, .string ⟨#[49, 47, 50, 45, 49, 47, 50]⟩, .string ⟨#[42]⟩]
theorem over_contains (u : List UInt8) : Lib.containsS [⟨#[49, 45, 48]⟩, ⟨#[48, 45, 49]⟩, ⟨#[49, 47, 50, 45, 49, 47, 50]⟩, ⟨#[42]⟩] ⟨u.toArray⟩ = overB u := by
  rw [Bool.eq_iff_iff, Lib.containsS_iff]
  unfold overB
  have e : ∀ v : List UInt8, ((⟨u.toArray⟩ : ByteArray) = ⟨v.toArray⟩) ↔ u = v := fun v => by
    constructor
    · intro h
      have h2 := congrArg (fun x : ByteArray => x.data.toList) h
      simpa using h2
    · rintro rfl; rfl
  simp only [List.mem_cons, List.not_mem_nil, or_false, Bool.or_eq_true, beq_iff_eq]
  rw [show (⟨#[49, 45, 48]⟩ : ByteArray) = ⟨([49, 45, 48] : List UInt8).toArray⟩ from rfl, show (⟨#[48, 45, 49]⟩ : ByteArray) = ⟨([48, 45, 49] : List UInt8).toArray⟩ from rfl, show (⟨#[49, 47, 50, 45, 49, 47, 50]⟩ : ByteArray) = ⟨([49, 47, 50, 45, 49, 47, 50] : List UInt8).toArray⟩ from rfl, show (⟨#[42]⟩ : ByteArray) = ⟨([42] : List UInt8).toArray⟩ from rfl, e, e, e, e]
  simp only [or_assoc]
theorem ends_any (u : List UInt8) (k : Nat) (w : World) (hk : Blk w k endsV) : Calls Tryz.prog 41 #[.slice (some ⟨k, 0, none⟩) 4 4, .string ⟨u.toArray⟩] w (RetW (.bool (overB u)) w) := by
  have h := Any.slices_Contains_string Tryz.lays110 k 0 4 4 [⟨#[49, 45, 48]⟩, ⟨#[48, 45, 49]⟩, ⟨#[49, 47, 50, 45, 49, 47, 50]⟩, ⟨#[42]⟩] ⟨u.toArray⟩ w (by decide) (by decide) (fun j hj => by
    match j, hj with
    | 0, _ => exact hk.cell rfl
    | 1, _ => exact hk.cell rfl
    | 2, _ => exact hk.cell rfl
    | 3, _ => exact hk.cell rfl)
  rw [show ([⟨#[49, 45, 48]⟩, ⟨#[48, 45, 49]⟩, ⟨#[49, 47, 50, 45, 49, 47, 50]⟩, ⟨#[42]⟩] : List ByteArray).take 4 = [⟨#[49, 45, 48]⟩, ⟨#[48, 45, 49]⟩, ⟨#[49, 47, 50, 45, 49, 47, 50]⟩, ⟨#[42]⟩] from rfl, over_contains] at h
  exact h.mono fun e w' h => ⟨h.1, h.2.symm⟩

set_option maxHeartbeats 8000000 in
theorem gameP_yes (b off cap : Nat) (p : Pos) (s : List UInt8) (w : World) (hm : MayP p) (hbr : Brd w b off p.L) (hs : s.length ≤ 4000) (mx : Int) (hmax : w.cell? ⟨0, 0, none⟩ = some (.int .i64 mx)) (hT : Lib.Utf8Tabs 1 2 w) :
    Calls Tryz.prog 16 #[chessV b off cap p, .string ⟨s.toArray⟩] w fun e w' => ∃ v, e = .returned (.tuple #[v, .int .i64 (gameG p [] 0 (wordsL s)).2.1, .int .i64 (gameG p [] 0 (wordsL s)).2.2]) ∧ MvSl w' v (gameG p [] 0 (wordsL s)).1 ∧ Below w.heap.size w w' := by
  obtain ⟨i0, hi0, hz0, hz1, hz2⟩ := info_parts Tryz.info26
  have hbl := hbr.lt
  have h0lt : 0 < w.heap.size := World.block_lt_of_cell? w ⟨0, 0, none⟩ hmax
  have hLl := words_le s
  have hwl : ∀ i, ((wordsL s).getD i []).length ≤ 4000 := fun i => Nat.le_trans (word_at s i) hs
  have hfl : ∀ w1, Calls Tryz.prog 39 #[.string ⟨s.toArray⟩, .func (.func 38) #[] #[]] w1 _ := fun w1 => fieldsFunc_any s w1 (by omega)
  generalize wordsL s = L at *
  have HWL := Lib.hid hwl
  have HWo := Lib.hid hfl
  have HM := Lib.hid hm
  have HB := Lib.hid hbr
  have HMax := Lib.hid hmax
  have HT := Lib.hid hT
  have hmay : ∀ w1, Below w.heap.size w w1 → Calls Tryz.prog 34 #[chessV b off cap p] w1 (RetB (.bool true) w1) := fun w1 hb => by
    have h := mayProg_any (some ⟨b, off, none⟩) 64 cap p w1 (by omega) (fun _ => ⟨b, off, rfl, ⟨(HB.out.below hb hbl).lt, (HB.out.below hb hbl).cell⟩⟩) HM.out.out (fun i => by have := HM.out.ok.bd i; omega)
    rwa [mayB_of HM.out] at h
  unfold chessV at hmay ⊢
  have HMay := Lib.hid hmay
  clear hwl hfl hm hbr hmay hmax hT
  go_enter Tryz.func16, Tryz.ntmps16
  go_upto_region 1 with fail
  generalize hW0 : World.alloc _ _ = W0
  have hS : PB w W0 w.heap.size b off cap p := by
    rw [← hW0]; exact ⟨Blk.new w _ _, HB.out.below ((Below.refl _ _).alloc (Nat.le_refl _) _) hbl, by omega, Nat.le_refl _, (Below.refl _ _).alloc (Nat.le_refl _) _⟩
  clear hW0
  have HS := Lib.hid hS
  have p0 := hS.kP.cell (o := 0) rfl
  have p1 := hS.kP.cell (o := 1) rfl
  have p2 := hS.kP.cell (o := 2) rfl
  have p3 := hS.kP.cell (o := 3) rfl
  have p4 := hS.kP.cell (o := 4) rfl
  have p5 := hS.kP.cell (o := 5) rfl
  have hlz : ¬ (4000 : Int) < s.length := by omega
  have hSl := hS.kP.lt
  clear hS
  go_upto_region 7 with (go_at_call 34; refine (HMay.out _ HS.out.below).mono ?_; rintro e w1 ⟨rfl, hb1⟩)
  have HS1 := Lib.hid (HS.out.trans hb1)
  clear HS hb1 p0 p1 p2 p3 p4 p5
  go_wp2_with (go_at_call 39; refine (HWo.out _).mono ?_; rintro e w2 ⟨A, rfl, hAl, hown, hb2⟩)
  have hSl1 := HS1.out.kP.lt
  have hwr : WRow w2 w.heap.size w2.heap.size (some ⟨A, 0, none⟩) L := by
    obtain ⟨a3, c3, he, h3⟩ := WRow.of_own (K := w.heap.size) hown hSl1
    cases he
    exact h3
  have hG : GB w w2 w.heap.size w2.heap.size b off cap p 26 3 (.slice none 0 0) 0 [] := ⟨HS1.out.trans hb2, World.ownsRow_nil _ _ _ _, fun k hk => (by cases hk), Nat.lt_of_lt_of_le hSl1 hb2.size, Nat.le_refl _⟩
  clear HS1 hb2 hown hAl hSl1
  have HG0 := Lib.hid hG
  have HWR := Lib.hid hwr
  have hB : w.heap.size < w2.heap.size := hG.kb
  generalize hBB : w2.heap.size = B at *
  clear hG hwr
  go_loopg [7, 27] L.length (fun g s7 s27 wx => ∃ (i : Nat) (acc : List Mv) (q : Pos) (b off cap : Nat), i ≤ L.length ∧ g = L.length - i ∧ s27 = .int .i64 i ∧ acc.length ≤ i ∧ acc.length ≤ 200 ∧ GB w wx w.heap.size B b off cap q 26 3 s7 acc.length (mvCells acc) ∧ WRow wx w.heap.size B (some ⟨A, 0, none⟩) L ∧ MayP q ∧ gameG p [] 0 L = gameG q acc i (L.drop i))
  case atStart => exact ⟨0, [], p, b, off, cap, by omega, rfl, rfl, by simp, by simp, HG0.out, HWR.out, HM.out, rfl⟩
  case round =>
  clear HG0 HWR HM HB hbl HMay
  obtain ⟨i, acc, q, b, off, cap, hi, hg, rfl, hacc, hacc2, hS, hwr, hm, ht⟩ := hrel
  obtain ⟨a1, c1, rfl⟩ := ownsRow_slice hS.own
  have Hg := Lib.hid hg
  have Ht := Lib.hid ht
  have Hm := Lib.hid hm
  have HWR := Lib.hid hwr
  clear hg ht hm hwr
  by_cases hil : i = L.length
  · have hge : ¬ i < L.length := by omega
    have Ht2 := Lib.hid (show gameG p [] 0 L = (acc, 0, 0) by rw [Ht.out, hil, List.drop_length, gameG])
    clear hil Ht
    have hbw := hS.pb.below
    have hMS := MvSl.of_row hS.own
    go_wp2
    go_ret3
    rw [Ht2.out]
    exact ⟨_, rfl, hMS, hbw⟩
  have hilt : i < L.length := by omega
  have hki : (i : Int) < L.length := by omega
  clear hil hi
  obtain ⟨wb, hwbA, hc⟩ := HWR.out.get hilt
  cases hwbA
  have ht2 := Ht.out
  rw [drop_word hilt, gameG] at ht2
  have hul := HWL.out i
  generalize L.getD i [] = u at *
  clear Ht
  unfold strV at hc
  have hnum : ∀ w1, Calls Tryz.prog 40 #[.string ⟨u.toArray⟩] w1 (RetB (.bool (numB u)) w1) := fun w1 => numberedP_any u w1 (by omega)
  have HS := Lib.hid hS
  clear hS
  cases hn : numB u
  case true =>
    rw [hn] at ht2 hnum
    have Ht2 := Lib.hid ht2
    have HN := Lib.hid hnum
    clear ht2 hnum hn
    go_wp2_with (go_at_call 40; refine (HN.out _).mono ?_; rintro e w2 ⟨rfl, hb2⟩)
    have hS2 := HS.out.trans hb2
    go_roundg (L.length - (i + 1))
    case measure => have := Hg.out; omega
    case rel => exact ⟨i + 1, acc, q, b, off, cap, by omega, rfl, by go_num, by omega, by omega, hS2, HWR.out.trans HS.out.bs hb2, Hm.out, Ht2.out⟩
  case false =>
  rw [hn] at ht2 hnum
  have HN := Lib.hid hnum
  clear hnum hn
  go_upto_region 11 with (go_at_call 40; refine (HN.out _).mono ?_; rintro e w3 ⟨rfl, hb3⟩)
  cases ho : overB u
  case true =>
    have Ht2 := Lib.hid (show gameG p [] 0 L = (acc, 0, 0) by rw [ht2, ho]; rfl)
    have HO := Lib.hid ho
    clear ht2 ho
    have hbe := hb3.alloc hb3.size (.cells endsV 9)
    have hS2 := HS.out.trans hbe
    have hbw := hS2.pb.below
    have hMS := MvSl.of_row hS2.own
    clear hS2 hbe
    unfold endsV at hbw hMS
    go_wp2_with (go_at_call 41; refine (ends_any u _ _ (Blk.new _ _ _)).mono ?_; rintro e w4 ⟨rfl, rfl⟩; rw [HO.out])
    go_ret3
    rw [Ht2.out]
    exact ⟨_, rfl, hMS, hbw⟩
  case false =>
  have ht3 : gameG p [] 0 L = (match parseL q u with | none => ([], i, 1) | some m => if acc.length = 200 then ([], i, 11) else gameG (doneR q m) (acc ++ [m]) (i + 1) (L.drop (i + 1))) := by rw [ht2, ho]; rfl
  have HO := Lib.hid ho
  have Ht3 := Lib.hid ht3
  clear ht2 ho ht3
  go_upto_region 13 with (go_at_call 41; refine (ends_any u _ _ (Blk.new _ _ _)).mono ?_; rintro e w4 ⟨rfl, rfl⟩; rw [HO.out])
  generalize hWe : World.alloc _ _ = We
  have hbe : Below wr.heap.size wr We := by rw [← hWe]; exact hb3.alloc hb3.size _
  clear hWe hb3 HO HN
  have hS2 := HS.out.trans hbe
  have hW2 := HWR.out.trans HS.out.bs hbe
  have hN := newScribe_own (cap := cap) (w := We) Hm.out (mayB_of Hm.out) hS2.pb.brd
  unfold chessV at hN
  have HN := Lib.hid hN
  have HS2 := Lib.hid hS2
  have HW2 := Lib.hid hW2
  have p0 := hS2.pb.kP.cell (o := 0) rfl
  have p1 := hS2.pb.kP.cell (o := 1) rfl
  have p2 := hS2.pb.kP.cell (o := 2) rfl
  have p3 := hS2.pb.kP.cell (o := 3) rfl
  have p4 := hS2.pb.kP.cell (o := 4) rfl
  have p5 := hS2.pb.kP.cell (o := 5) rfl
  clear hN hS2 hW2 hbe HS HWR
  go_upto_region 14 with (go_at_call 20; refine HN.out.mono ?_; rintro e w5 ⟨S, v, rfl, hSc, hSlo, hvlo, hb5⟩)
  clear p0 p1 p2 p3 p4 p5
  have hS3 := HS2.out.trans hb5
  have hW3 := HW2.out.trans HS2.out.bs hb5
  have hpar := parseP_any Hm.out hSc u (by omega) mx ((hS3.pb.below.cell (p := ⟨0, 0, none⟩) h0lt).trans HMax.out) (Utf8Tabs_below HT.out hS3.pb.below)
  rw [parse_eq Hm.out, parseV_form] at hpar
  unfold strV mvV at hpar
  generalize hM : (parseL q u).getD ⟨0, 0, 0⟩ = M at *
  generalize hok : (parseL q u).isSome = ok at *
  have HP := Lib.hid hpar
  have HS3 := Lib.hid hS3
  have HW3 := Lib.hid hW3
  have HMe := Lib.hid hM
  have Hok := Lib.hid hok
  clear hpar hS3 hW3 HS2 HW2 HN hSc hSlo hvlo hM hok hb5
  go_upto_region 15 with (go_at_call 24; refine HP.out.mono ?_; rintro e w6 ⟨rfl, hb6⟩)
  generalize hWm : World.alloc _ _ = wc
  have hMb : Blk wc w6.heap.size #[.int .i64 M.fr, .int .i64 M.tg, .int .i64 M.into] := by rw [← hWm]; exact Blk.new _ _ _
  have hb2 : Below w5.heap.size w5 wc := by rw [← hWm]; exact hb6.alloc hb6.size _
  have hMl : w5.heap.size ≤ w6.heap.size := hb6.size
  clear hWm hb6 HP
  generalize w6.heap.size = Mb at *
  cases ok
  case false =>
    have Ht4 := Lib.hid (show gameG p [] 0 L = ([], i, 1) by
      have h := Hok.out
      have h3 := Ht3.out
      cases hp : parseL q u with
      | none => rw [hp] at h3; exact h3
      | some m => rw [hp] at h; cases h)
    have hbw := HS3.out.pb.below.trans (hb2.mono HS3.out.pb.below.size)
    clear Ht3 Hok HMe
    go_wp2
    go_ret3
    rw [Ht4.out]
    exact ⟨_, rfl, .inl ⟨rfl, rfl⟩, hbw⟩
  case true =>
  have hsome : parseL q u = some M := by
    have h := Hok.out
    have h2 := HMe.out
    cases hp : parseL q u with
    | none => rw [hp] at h; cases h
    | some m => rw [hp] at h2; exact congrArg some h2
  have ht4 : gameG p [] 0 L = (if acc.length = 200 then ([], i, 11) else gameG (doneR q M) (acc ++ [M]) (i + 1) (L.drop (i + 1))) := by rw [Ht3.out, hsome]
  have Hmem := Lib.hid (parseL_mem hsome)
  clear Ht3 Hok HMe hsome
  by_cases h200 : acc.length = 200
  · have Ht5 := Lib.hid (show gameG p [] 0 L = ([], i, 11) by rw [ht4, if_pos h200])
    have hbw := HS3.out.pb.below.trans (hb2.mono HS3.out.pb.below.size)
    have h201 : ((acc.length : Int) == 200) = true := by simp [h200]
    clear ht4 h200
    go_wp2
    go_ret3
    rw [Ht5.out]
    exact ⟨_, rfl, .inl ⟨rfl, rfl⟩, hbw⟩
  · have Ht5 := Lib.hid (show gameG p [] 0 L = gameG (doneR q M) (acc ++ [M]) (i + 1) (L.drop (i + 1)) by rw [ht4, if_neg h200])
    have h201 : ((acc.length : Int) == 200) = false := by simp; omega
    have hal : acc.length < 200 := by omega
    clear ht4 h200
    have hS2 := HS3.out.trans hb2
    have hW2 := HW3.out.trans HS3.out.bs hb2
    have hfree : some Mb ≠ (Value.slice a1 acc.length c1).ownBlock := fun he => by have := (HS3.out.own.lt _ he.symm).2; omega
    have hMlt := hMb.lt
    have hdn : ∀ wx, Brd wx b off q.L → Calls Tryz.prog 36 #[chessV b off cap q, mvV M] wx fun e w' => ∃ g cq, e = .returned (chessV g 0 cq (doneR q M)) ∧ Brd w' g 0 (doneL q M) ∧ wx.heap.size ≤ g ∧ Below wx.heap.size wx w' := fun wx hb => afterP_m Hm.out (mem_movesR.1 Hmem.out).1 b off cap wx hb
    unfold mvV chessV at hdn
    have hmay : MayP (doneR q M) := mayP_next Hm.out (mem_movesR.1 Hmem.out).1 (mem_movesR.1 Hmem.out).2
    have HMay := Lib.hid hmay
    have HDn := Lib.hid hdn
    have HS2 := Lib.hid hS2
    have HW2 := Lib.hid hW2
    have HMb := Lib.hid hMb
    have m0 := hMb.cell (o := 0) rfl
    have m1 := hMb.cell (o := 1) rfl
    have m2 := hMb.cell (o := 2) rfl
    have hwcB := hS2.bs
    clear hmay hdn hS2 hW2 hMb HS3 HW3 hb2
    go_wp2_with (at_builtin; refine wpList_append_own_at _ rfl _ _ 37 rfl B 26 i0 (.agg #[.int .i64 0, .int .i64 0, .int .i64 0]) 3 24 Tryz.underlying37 hi0 hz0 hz1 hz2 rfl (by decide) _ _ _ rfl (HS2.out.own.alloc _) ⟨wc.heap.size, 0, none⟩ 1 1 [.int .i64 M.fr, .int .i64 M.tg, .int .i64 M.into] rfl rfl ?c1 ?c2 ?c3 ?c4 ?c5 ?_)
    case c1 => exact three_new _ _ _ _ _
    case c2 => intro x hx; simp at hx; rcases hx with rfl | rfl | rfl <;> rfl
    case c3 => unfold maxLen; omega
    case c4 => omega
    case c5 => simp; omega
    intro v' w3 hown' hgrow _ hat
    have hA := HS2.out.trans ((Below.refl wc.heap.size wc).alloc (Nat.le_refl _) (.cells #[.int .i64 M.fr, .int .i64 M.tg, .int .i64 M.into] 26))
    have hS3 : GB w w3 w.heap.size B b off cap q 26 3 v' (acc ++ [M]).length (mvCells (acc ++ [M])) := by
      have h := hA.app hown' hgrow (by simpa using hat)
      rw [List.length_append, mvCells_append, mvCells_one]
      exact h
    have hW3 := (HW2.out.trans HS2.out.bs ((Below.refl wc.heap.size wc).alloc (Nat.le_refl _) (.cells #[.int .i64 M.fr, .int .i64 M.tg, .int .i64 M.into] 26))).app hA.own hgrow
    have hMb3 := (HMb.out.alloc (.cells #[.int .i64 M.fr, .int .i64 M.tg, .int .i64 M.into] 26)).of_heap (hgrow.block Mb (by simp; omega) hfree)
    have HS3 := Lib.hid hS3
    have HW3 := Lib.hid hW3
    have p0 := hS3.pb.kP.cell (o := 0) rfl
    have p1 := hS3.pb.kP.cell (o := 1) rfl
    have p2 := hS3.pb.kP.cell (o := 2) rfl
    have p3 := hS3.pb.kP.cell (o := 3) rfl
    have p4 := hS3.pb.kP.cell (o := 4) rfl
    have p5 := hS3.pb.kP.cell (o := 5) rfl
    have n0 := hMb3.cell (o := 0) rfl
    have n1 := hMb3.cell (o := 1) rfl
    have n2 := hMb3.cell (o := 2) rfl
    clear hA hS3 hW3 hMb3 hown' hgrow hat HS2 HW2 HMb m0 m1 m2
    go_wp2_with (go_at_call 36; refine (HDn.out _ HS3.out.pb.brd).mono ?_; rintro e w4 ⟨g, cq, rfl, hown, hgl, hb4⟩; have hK4 := HS3.out.pb.kP.below hb4 HS3.out.pb.kP.lt; have f0 := hK4.free 0; have f1 := hK4.free 1; have f2 := hK4.free 2; have f3 := hK4.free 3; have f4 := hK4.free 4; have f5 := hK4.free 5; have c0 := hK4.cell (o := 0) rfl; have c1 := hK4.cell (o := 1) rfl; have c2 := hK4.cell (o := 2) rfl; have c3 := hK4.cell (o := 3) rfl; have c4 := hK4.cell (o := 4) rfl; have c5 := hK4.cell (o := 5) rfl)
    have hS5 := HS3.out.put hb4 (c := cq) (q' := doneR q M) hown hgl
    go_roundg (L.length - (i + 1))
    case measure => have := Hg.out; omega
    case rel =>
      refine ⟨i + 1, acc ++ [M], doneR q M, g, 0, cq, by omega, rfl, by go_num, by simp; omega, by simp; omega, hS5, ?_, HMay.out, Ht5.out⟩
      iterate 6 refine WRow.store ?_ _ _
      exact HW3.out.trans HS3.out.bs hb4

end Go.Proofs.YthffhhbbhjcdeaaGreatDoor
