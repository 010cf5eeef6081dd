/- PLAIN LAW: what strings.FieldsFunc finds between blanks are the words that the document says. WALKS: the reference's wordsOf. WALKS: the reference's numberedWord. WALKS: the law's list and sameMoves. WALKS: the reference's Dec. PLAIN LAW: the words of a game that is told, joined by blanks, are what the document tells. PLAIN LAW: a position within the laws passes May. -/
import Derived.Test.YthffhhbbhjcdeaaGreatDoorA13
import Derived.Lib.FieldsP
import Derived.Lib.MapLaws
import Derived.Lib.TrimAscii
import Derived.Deep.CutBlock
import Derived.Deep.RegionHeld3
import Derived.Test.YthffhhbbhjcdeaaGreatDoorA
import Derived.Test.YthffhhbbhjcdeaaGreatDoorA10
import Derived.Laws.AppendOwnNone
import Derived.Test.YthffhhbbhjcdeaaGreatDoorShelf
import Derived.Test.YthffhhbbhjcdeaaGreatDoorA14
import Derived.Test.YthffhhbbhjcdeaaGreatDoorP4
set_option linter.unusedVariables false
set_option linter.unusedSimpArgs false
namespace Go.Proofs.YthffhhbbhjcdeaaGreatDoor
open Go.RowKit
set_option maxRecDepth 100000

def blankB (c : UInt8) : Bool := c == 9 || c == 10 || c == 13 || c == 32
/-- A text's words, behind the letters that are gathered. -/
def wordsGo : List UInt8 → List UInt8 → List (List UInt8)
  | [], u => if u = [] then [] else [u]
  | c :: r, u => if blankB c then (if u = [] then wordsGo r [] else u :: wordsGo r []) else wordsGo r (u ++ [c])
def wordsL (s : List UInt8) : List (List UInt8) := wordsGo s []
def strsV (L : List (List UInt8)) : List Value := L.map fun u => .string ⟨u.toArray⟩
theorem wordsGo_len : ∀ (s u : List UInt8), (wordsGo s u).length ≤ s.length + 1
  | [], u => by unfold wordsGo; split <;> simp
  | c :: r, u => by
    unfold wordsGo
    have h1 := wordsGo_len r []
    have h2 := wordsGo_len r (u ++ [c])
    repeat' split
    all_goals simp
    all_goals omega

def blankR (n : Nat) : Bool := n == 9 || n == 10 || n == 13 || n == 32
theorem blank_byte (c : UInt8) : blankR c.toNat = blankB c := by
  rw [Bool.eq_iff_iff]
  unfold blankR blankB
  simp only [Bool.or_eq_true, beq_iff_eq, ← UInt8.toNat_inj]
  exact Iff.rfl
theorem blank_big {n : Nat} (h : 128 ≤ n) : blankR n = false := by
  cases hb : blankR n with
  | false => rfl
  | true =>
    exfalso
    unfold blankR at hb
    simp only [Bool.or_eq_true, beq_iff_eq] at hb
    omega
theorem blankB_big {c : UInt8} (h : 128 ≤ c.toNat) : blankB c = false := by rw [← blank_byte]; exact blank_big h

theorem wordsGo_plain : ∀ (v t u : List UInt8), (∀ c ∈ v, blankB c = false) → wordsGo (v ++ t) u = wordsGo t (u ++ v)
  | [], t, u, _ => by simp
  | c :: v, t, u, h => by
    have hc := h c (List.mem_cons_self ..)
    rw [List.cons_append, wordsGo, hc]
    simp only [Bool.false_eq_true, if_false]
    rw [wordsGo_plain v t _ fun x hx => h x (List.mem_cons_of_mem _ hx)]
    simp

theorem getD_lt {l : List UInt8} {i : Nat} (h : i < l.length) : l.getD i 0 = l[i] := by simp [List.getD, h]
theorem mem_take {l : List UInt8} {k : Nat} (P : UInt8 → Prop) (h : ∀ i, i < k → P (l.getD i 0)) : ∀ c ∈ l.take k, P c := by
  intro c hc
  rw [List.mem_take_iff_getElem] at hc
  obtain ⟨i, hi, rfl⟩ := hc
  have h2 := h i (by omega)
  rwa [getD_lt (by omega)] at h2

/-- One rune: a blank is one byte; what is none bears none. -/
theorem words_rune (l u : List UInt8) (hne : l ≠ []) :
    wordsGo l u = if blankR (Lib.decodeL l).1 then (if u = [] then wordsGo (l.drop (Lib.decodeL l).2) [] else u :: wordsGo (l.drop (Lib.decodeL l).2) [])
      else wordsGo (l.drop (Lib.decodeL l).2) (u ++ l.take (Lib.decodeL l).2) := by
  obtain ⟨c, t, rfl⟩ := List.exists_cons_of_ne_nil hne
  by_cases ha : c.toNat < 128
  · rw [Lib.decodeL_ascii c t ha, blank_byte, wordsGo]
    cases blankB c <;> simp
  · have hall : ∀ K, (∀ i, i < K → 128 ≤ ((c :: t).getD i 0).toNat) → wordsGo (c :: t) u = wordsGo ((c :: t).drop K) (u ++ (c :: t).take K) := by
      intro K hK
      conv => lhs; rw [← List.take_append_drop K (c :: t)]
      exact wordsGo_plain _ _ _ (mem_take (fun x => blankB x = false) fun i hi => blankB_big (hK i hi))
    have h0 : 128 ≤ ((c :: t).getD 0 0).toNat := by simpa using Nat.le_of_not_lt ha
    have hsh := Lib.decodeN_shape (c :: t).length ((c :: t).getD 0 0).toNat ((c :: t).getD 1 0).toNat ((c :: t).getD 2 0).toNat ((c :: t).getD 3 0).toNat
    rw [← Lib.decodeL_N] at hsh
    rcases hsh with ⟨h, _⟩ | ⟨_, _, h1, hr, e⟩ | ⟨_, _, h1, h2, hr, _, e⟩ | ⟨_, _, h1, h2, h3, hr, _, e⟩ | e
    · omega
    · rw [e, blank_big hr]
      simp only [Bool.false_eq_true, if_false]
      refine hall 2 fun i hi => ?_
      rcases (show i = 0 ∨ i = 1 by omega) with rfl | rfl
      · exact h0
      · omega
    · rw [e, blank_big (by omega)]
      simp only [Bool.false_eq_true, if_false]
      refine hall 3 fun i hi => ?_
      rcases (show i = 0 ∨ i = 1 ∨ i = 2 by omega) with rfl | rfl | rfl
      · exact h0
      · omega
      · omega
    · rw [e, blank_big (by omega)]
      simp only [Bool.false_eq_true, if_false]
      refine hall 4 fun i hi => ?_
      rcases (show i = 0 ∨ i = 1 ∨ i = 2 ∨ i = 3 by omega) with rfl | rfl | rfl | rfl
      · exact h0
      · omega
      · omega
      · omega
    · rw [e, blank_big (by decide)]
      simp only [Bool.false_eq_true, if_false]
      refine hall 1 fun i hi => ?_
      obtain rfl : i = 0 := by omega
      exact h0

theorem spans_words (s : ByteArray) : ∀ (f pos : Nat) (st : Option Nat) (acc : List (Nat × Nat)), s.size ≤ pos + f → pos ≤ s.size → (∀ a, st = some a → a < pos) →
    acc.map (fun p => Lib.pieceU s.data.toList p.1 p.2) ++ wordsGo (s.data.toList.drop pos) (Lib.openPiece s.data.toList st pos) = (Lib.closeSpans s (Lib.spansFromP blankR s f pos st acc)).map (fun p => Lib.pieceU s.data.toList p.1 p.2)
  | 0, pos, st, acc, h, hp, hst => by
    obtain rfl : pos = s.size := by omega
    have hd : s.data.toList.drop s.size = [] := List.drop_eq_nil_of_le (by rw [← Lib.size_eq]; exact Nat.le_refl _)
    rw [hd, wordsGo]
    cases st with
    | none => simp [Lib.spansFromP, Lib.closeSpans, Lib.openPiece]
    | some a =>
      have := Lib.pieceU_ne s.data.toList a s.size (hst a rfl) (by rw [← Lib.size_eq]; exact Nat.le_refl _)
      simp [Lib.spansFromP, Lib.closeSpans, Lib.openPiece, this]
  | f + 1, pos, st, acc, h, hp, hst => by
    by_cases hlt : pos < s.size
    · have hne : s.data.toList.drop pos ≠ [] := by
        intro h0
        have := congrArg List.length h0
        rw [List.length_drop, ← Lib.size_eq] at this
        simp at this
        omega
      have hw := Lib.width_pos s pos
      have hwn : pos + (Utf8.decode s pos).2 ≤ s.size := by
        have := Lib.decodeN_le_n' (s.size - pos) (s.get! pos).toNat (s.get! (pos + 1)).toNat (s.get! (pos + 2)).toNat (s.get! (pos + 3)).toNat (by omega)
        rw [← Lib.decode_at] at this
        omega
      rw [words_rune _ _ hne]
      simp only [Lib.spansFromP, if_pos hlt, Lib.decodeL_drop, List.drop_drop]
      cases hsp : blankR (Utf8.decode s pos).1 with
      | true =>
        simp only [if_true]
        cases st with
        | none =>
          have ih := spans_words s f (pos + (Utf8.decode s pos).2) none acc (by omega) hwn (fun a h => by cases h)
          simpa [Lib.openPiece] using ih
        | some a =>
          have hpn := Lib.pieceU_ne s.data.toList a pos (hst a rfl) (by rw [← Lib.size_eq]; omega)
          have ih := spans_words s f (pos + (Utf8.decode s pos).2) none (acc ++ [(a, pos)]) (by omega) hwn (fun a h => by cases h)
          simpa [Lib.openPiece, hpn] using ih
      | false =>
        simp only [Bool.false_eq_true, if_false]
        cases st with
        | none =>
          have ih := spans_words s f (pos + (Utf8.decode s pos).2) (some pos) acc (by omega) hwn (fun a h => by cases h; omega)
          have e : ([] : List UInt8) ++ (s.data.toList.drop pos).take (Utf8.decode s pos).2 = Lib.pieceU s.data.toList pos (pos + (Utf8.decode s pos).2) := by
            unfold Lib.pieceU
            rw [List.nil_append, Nat.add_sub_cancel_left]
          simp only [Lib.openPiece] at ih ⊢
          rw [e]
          exact ih
        | some a =>
          have ih := spans_words s f (pos + (Utf8.decode s pos).2) (some a) acc (by omega) hwn (fun b h => by cases h; have := hst a rfl; omega)
          simp only [Lib.openPiece] at ih ⊢
          rw [Lib.pieceU_grow _ _ _ _ (Nat.le_of_lt (hst a rfl))]
          exact ih
    · obtain rfl : pos = s.size := by omega
      have hd : s.data.toList.drop s.size = [] := List.drop_eq_nil_of_le (by rw [← Lib.size_eq]; exact Nat.le_refl _)
      rw [hd, wordsGo, Lib.spansFromP_end blankR s _ _ _ _ hlt]
      cases st with
      | none => simp [Lib.closeSpans, Lib.openPiece]
      | some a =>
        have := Lib.pieceU_ne s.data.toList a s.size (hst a rfl) (by rw [← Lib.size_eq]; exact Nat.le_refl _)
        simp [Lib.closeSpans, Lib.openPiece, this]

theorem fields_words (s : ByteArray) : (Lib.goFieldsP blankR s).map (·.data.toList) = wordsL s.data.toList := by
  have h := spans_words s s.size 0 none [] (by omega) (Nat.zero_le _) (fun a h => by cases h)
  simp only [List.map_nil, List.nil_append, Lib.openPiece, List.drop_zero] at h
  unfold wordsL Lib.goFieldsP Lib.spansOfP
  rw [h, List.map_map]
  congr 1
  funext p
  simp [Lib.pieceU]

/-- The pieces as values. -/
theorem fields_vals (s : List UInt8) : (Lib.goFieldsP blankR ⟨s.toArray⟩).map Value.string = strsV (wordsL s) := by
  have h := fields_words ⟨s.toArray⟩
  unfold strsV
  rw [← h, List.map_map]
  congr 1
theorem fields_len (s : List UInt8) : (Lib.goFieldsP blankR ⟨s.toArray⟩).length = (wordsL s).length := by
  have h := congrArg List.length (fields_words ⟨s.toArray⟩)
  simpa using h

end Go.Proofs.YthffhhbbhjcdeaaGreatDoor
namespace Go.Proofs.YthffhhbbhjcdeaaGreatDoor
open Go.RowKit
set_option maxRecDepth 100000

def endAt (s : List UInt8) (i : Nat) : Bool := decide (i = s.length) || blankB (s.getD i 0)
def closedL (L : List (List UInt8)) (u : List UInt8) : List (List UInt8) := if u = [] then L else L ++ [u]
theorem words_end {s u : List UInt8} {L : List (List UInt8)} {i : Nat} (hi : i ≤ s.length) (he : endAt s i = true) (h : L ++ wordsGo (s.drop i) u = wordsL s) :
    (i + 1 ≤ s.length → closedL L u ++ wordsGo (s.drop (i + 1)) [] = wordsL s) ∧ (i + 1 = s.length + 1 → closedL L u = wordsL s) := by
  by_cases hs : i = s.length
  · subst hs
    refine ⟨fun h => by omega, fun _ => ?_⟩
    rw [← h, List.drop_length, wordsGo]
    unfold closedL
    split <;> simp
  · refine ⟨fun _ => ?_, fun h => by omega⟩
    have hlt : i < s.length := by omega
    unfold endAt at he
    rw [getD_lt hlt] at he
    simp only [hs, decide_false, Bool.false_or] at he
    rw [← h, List.drop_eq_getElem_cons hlt, wordsGo, he]
    unfold closedL
    split <;> simp
theorem words_more {s u : List UInt8} {L : List (List UInt8)} {i : Nat} (hi : i ≤ s.length) (he : endAt s i = false) (h : L ++ wordsGo (s.drop i) u = wordsL s) :
    i < s.length ∧ L ++ wordsGo (s.drop (i + 1)) (u ++ (s.drop i).take 1) = wordsL s := by
  unfold endAt at he
  simp only [Bool.or_eq_false_iff, decide_eq_false_iff_not] at he
  have hlt : i < s.length := by omega
  refine ⟨hlt, ?_⟩
  have h2 := he.2
  rw [getD_lt hlt] at h2
  rw [← h, List.drop_eq_getElem_cons hlt, wordsGo, h2]
  simp only [Bool.false_eq_true, if_false, List.take_succ_cons, List.take_zero]

theorem end_at {s : List UInt8} {i : Nat} (hs1 : ¬ i = s.length) (h : i < (⟨s.toArray⟩ : ByteArray).size) :
    (decide (i = s.length) || blankB (s.getD i 0)) = ((((⟨s.toArray⟩ : ByteArray)[i].toNat : Int) == 9) || (((⟨s.toArray⟩ : ByteArray)[i].toNat : Int) == 10) || (((⟨s.toArray⟩ : ByteArray)[i].toNat : Int) == 13) || (((⟨s.toArray⟩ : ByteArray)[i].toNat : Int) == 32)) := by
  have hlt : i < s.length := by have h2 : i < s.toArray.size := h; simpa using h2
  have e : (⟨s.toArray⟩ : ByteArray)[i] = s.getD i 0 := by rw [getD_lt hlt]; rfl
  rw [e, decide_eq_false hs1, Bool.false_or]
  generalize s.getD i 0 = c
  rw [Bool.eq_iff_iff]
  unfold blankB
  simp only [Bool.or_eq_true, beq_iff_eq, ← UInt8.toNat_inj]
  constructor
  · rintro (((h | h) | h) | h) <;> simp [h]
  · rintro (((h | h) | h) | h)
    · exact .inl (.inl (.inl (by show c.toNat = 9; omega)))
    · exact .inl (.inl (.inr (by show c.toNat = 10; omega)))
    · exact .inl (.inr (by show c.toNat = 13; omega))
    · exact .inr (by show c.toNat = 32; omega)

set_option maxHeartbeats 4000000 in
theorem wordsOf_any (s : List UInt8) (w : World) (hs : s.length ≤ 4000000) :
    Calls Tryz.prog 43 #[.string ⟨s.toArray⟩] w fun e w' => ∃ v, e = .returned v ∧ w'.ownsRow w.heap.size 9 1 v (wordsL s).length (strsV (wordsL s)) ∧ Below w.heap.size w w' := by
  obtain ⟨i0, hi0, hz0, hz1, hz2⟩ := info_parts Tryz.info9
  go_enter Tryz.func43, Tryz.ntmps43
  go_wp2_with fail
  go_loopg [3, 4, 5] (s.length + 1) (fun g s3 s4 s5 wx => ∃ (i : Nat) (L : List (List UInt8)) (u : List UInt8), i ≤ s.length + 1 ∧ g = s.length + 1 - i ∧ s5 = .int .i64 i ∧ s4 = .string ⟨u.toArray⟩ ∧ wx.ownsRow w.heap.size 9 1 s3 L.length (strsV L) ∧ Below w.heap.size w wx ∧ u.length ≤ i ∧ L.length ≤ i ∧ (i ≤ s.length → L ++ wordsGo (s.drop i) u = wordsL s) ∧ (i = s.length + 1 → L = wordsL s))
  case atStart => exact ⟨0, [], [], by omega, rfl, rfl, rfl, World.ownsRow_nil _ _ _ _, Below.refl _ _, by simp, by simp, fun _ => rfl, fun h => by omega⟩
  case round =>
  obtain ⟨i, L, u, hi, hg, rfl, rfl, hown, hb, hul, hLl, he1, he2⟩ := hrel
  have Hg := Lib.hid hg
  have He1 := Lib.hid he1
  have He2 := Lib.hid he2
  clear hg he1 he2
  by_cases hil : i = s.length + 1
  · subst hil
    go_wp2
    go_ret
    exact ⟨_, rfl, by rw [← He2.out trivial]; exact hown, hb⟩
  have hile : i ≤ s.length := by omega
  have Hc := Lib.hid (show endAt s i = (decide (i = s.length) || blankB (s.getD i 0)) from rfl)
  go_upto_region 6 with fail
  go_cut [39] from 12 to 38 (fun s39 wx => s39 = .bool (endAt s i) ∧ wx = wr)
  case first =>
    by_cases hs1 : i = s.length
    · subst hs1
      go_wp2
      go_meet
      exact ⟨by rw [Hc.out]; simp, rfl⟩
    · have hs2 : ¬ ((i : Int) = s.length) := by omega
      have hlt : i < s.length := by omega
      have hsz : i < (⟨s.toArray⟩ : ByteArray).size := by show i < s.toArray.size; simpa using hlt
      go_wp2
      all_goals (go_meet; refine ⟨?_, rfl⟩; rw [Hc.out]; refine congrArg Value.bool ?_; clear Hc He1 He2 hown hb)
      all_goals rw [end_at hs1 hsz]
      all_goals first
        | (simp [*]; done)
        | (rw [show ((i : Int) == (s.length : Int)) = false from beq_eq_false_iff_ne.2 hs2]; rfl)
  case rest =>
  obtain ⟨rfl, rfl⟩ := hcut
  clear Hc
  cases he : endAt s i
  case true =>
    have h2 := words_end hile he (He1.out hile)
    have H2 := Lib.hid h2
    clear h2 he
    cases u with
    | nil =>
      go_wp2
      go_roundg (s.length + 1 - (i + 1))
      case measure => have := Hg.out; omega
      case rel => exact ⟨i + 1, L, [], by omega, rfl, by go_num, rfl, hown, hb, by simp, by omega, H2.out.1, H2.out.2⟩
    | cons c r =>
      go_wp2_with (at_builtin; refine wpList_append_own _ rfl _ _ 61 rfl w.heap.size 9 i0 (.string ByteArray.empty) 1 16 Tryz.underlying61 hi0 hz0 hz1 hz2 rfl (by decide) _ _ _ rfl (hown.alloc _) ⟨wc.heap.size, 0, none⟩ 1 1 [.string ⟨(c :: r).toArray⟩] rfl rfl ?c1 ?c2 ?c3 ?c4 ?c5 ?_)
      case c1 => exact one_new _ _ _
      case c2 => intro x hx; simp at hx; subst hx; rfl
      case c3 => unfold maxLen; omega
      case c4 => omega
      case c5 => have := hb.size; simp; omega
      intro v' w1 hown' hgrow _
      have hb2 : Below w.heap.size w w1 := (hb.alloc hb.size _).grown hgrow (by have := hb.size; simp; omega) fun j hj => (hown.lt j hj).1
      clear hgrow hown hb
      go_wp2
      go_roundg (s.length + 1 - (i + 1))
      case measure => have := Hg.out; omega
      case rel => exact ⟨i + 1, L ++ [c :: r], [], by omega, rfl, by go_num, rfl, by rw [List.length_append]; unfold strsV at hown' ⊢; rw [List.map_append]; exact hown', hb2, by simp, by simp; omega, H2.out.1, H2.out.2⟩
  case false =>
    have h2 := words_more hile he (He1.out hile)
    have H2 := Lib.hid h2.2
    have hlt := h2.1
    clear h2 he
    have hn2 : ¬ (i : Int) + 1 < i := by omega
    go_wp2
    go_roundg (s.length + 1 - (i + 1))
    case measure => have := Hg.out; omega
    case rel => exact ⟨i + 1, L, u ++ (s.drop i).take 1, by omega, rfl, by go_num, congrArg Value.string (by rw [bytes_cut, bytes_app]), hown, hb, by rw [List.length_append, List.length_take]; omega, by omega, fun _ => H2.out, fun h => by omega⟩

end Go.Proofs.YthffhhbbhjcdeaaGreatDoor
namespace Go.Proofs.YthffhhbbhjcdeaaGreatDoor
open Go.RowKit
set_option maxRecDepth 100000

/-- A word that is a number and dots: one digit to three, one dot or three. -/
def digitB (c : UInt8) : Bool := decide (48 ≤ (c.toNat : Int)) && decide ((c.toNat : Int) ≤ 57)
def numK (w : List UInt8) : Nat := (w.takeWhile digitB).length
def dotsB (d : List UInt8) : Bool := d == [46] || d == [46, 46, 46]
def numB (w : List UInt8) : Bool := (decide (1 ≤ (numK w : Int)) && decide ((numK w : Int) ≤ 3)) && dotsB (w.drop (numK w))
theorem numK_at : ∀ (w : List UInt8) (k : Nat), k ≤ w.length → (∀ j, j < k → digitB (w.getD j 0) = true) → (k = w.length ∨ digitB (w.getD k 0) = false) → numK w = k
  | [], k, hk, _, _ => by simp at hk; subst hk; rfl
  | c :: r, 0, _, _, h2 => by
    rcases h2 with h | h
    · simp at h
    · unfold numK
      rw [List.takeWhile_cons_of_neg (by simpa using h)]
      rfl
  | c :: r, k + 1, hk, h1, h2 => by
    have h0 := h1 0 (by omega)
    have ih := numK_at r k (by simp at hk; omega) (fun j hj => by simpa using h1 (j + 1) (by omega)) (by
      rcases h2 with h | h
      · exact .inl (by simp at h; omega)
      · exact .inr (by simpa using h))
    unfold numK at ih ⊢
    rw [List.takeWhile_cons_of_pos (by simpa using h0)]
    simp [ih]
theorem byte_at {s : List UInt8} {i : Nat} (h : i < (⟨s.toArray⟩ : ByteArray).size) : (⟨s.toArray⟩ : ByteArray)[i] = s.getD i 0 := by
  have hlt : i < s.length := by have h2 : i < s.toArray.size := h; simpa using h2
  rw [getD_lt hlt]; rfl
theorem byte_lt {s : List UInt8} {i : Nat} (h : i < s.length) : i < (⟨s.toArray⟩ : ByteArray).size := by show i < s.toArray.size; simpa using h

theorem ext_list (s : List UInt8) (k : Nat) (hk : k ≤ s.length) : ((⟨s.toArray⟩ : ByteArray).extract k s.length).toList = s.drop k := by
  have h := bytes_cut s k (s.length - k)
  rw [show k + (s.length - k) = s.length by omega] at h
  rw [h, Lib.toList_data]
  show List.take (s.length - k) (List.drop k s) = List.drop k s
  exact List.take_of_length_le (by simp)
theorem numB_at {s : List UInt8} {k : Nat} {pw : Bool} (h : numK s = k) (hp : (decide (1 ≤ (k : Int)) && decide ((k : Int) ≤ 3)) = pw) (hk : k ≤ s.length) :
    numB s = (pw && ((((⟨s.toArray⟩ : ByteArray).extract k s.length).toList == [46]) || (((⟨s.toArray⟩ : ByteArray).extract k s.length).toList == [46, 46, 46]))) := by
  unfold numB dotsB
  rw [h, hp, ext_list s k hk]
theorem wrap_byte (c : UInt8) : wrap64 (c.toNat : Int) = c.toNat := by
  have := c.toNat_lt
  unfold wrap64
  omega

set_option maxHeartbeats 4000000 in
theorem numberedR_any (s : List UInt8) (w : World) (hs : s.length ≤ 4000000) :
    Calls Tryz.prog 44 #[.string ⟨s.toArray⟩] w (RetW (.bool (numB s)) w) := by
  have HW := Lib.hid within_any
  go_enter Tryz.func44, Tryz.ntmps44
  go_wp2_with fail
  go_loopg [3] s.length (fun g s3 wx => ∃ k : Nat, k ≤ s.length ∧ g = s.length - k ∧ s3 = .int .i64 k ∧ wx = w ∧ ∀ j, j < k → digitB (s.getD j 0) = true)
  case atStart => exact ⟨0, by omega, rfl, rfl, rfl, fun j hj => by omega⟩
  case round =>
  obtain ⟨k, hk, hg, rfl, rfl, hd⟩ := hrel
  have Hg := Lib.hid hg
  have Hd := Lib.hid hd
  clear hg hd
  have hend : (k = s.length ∨ digitB (s.getD k 0) = false) → numK s = k := fun h => numK_at s k hk Hd.out h
  have He := Lib.hid hend
  clear hend
  have hkz : k ≤ (⟨s.toArray⟩ : ByteArray).size := by show k ≤ s.toArray.size; simpa using hk
  by_cases hlt : k < s.length
  · have hsz := byte_lt hlt
    have hb := byte_at hsz
    cases hx : digitB (s.getD k 0)
    case true =>
      have hx2 : (decide (48 ≤ wrap64 (((⟨s.toArray⟩ : ByteArray)[k]).toNat : Int)) && decide (wrap64 ((((⟨s.toArray⟩ : ByteArray)[k]).toNat : Int)) ≤ 57)) = true := by rw [hb, wrap_byte]; exact hx
      have Hx := Lib.hid hx
      have Hx2 := Lib.hid hx2
      clear hx hx2 hb
      go_wp2_with (go_at_call 25; refine (HW.out _ _ _ _).mono ?_; rintro e w1 ⟨rfl, rfl⟩; rw [Hx2.out])
      go_roundg (s.length - (k + 1))
      case measure => have := Hg.out; omega
      case rel =>
        refine ⟨k + 1, by omega, rfl, by go_num, rfl, fun j hj => ?_⟩
        rcases Nat.lt_or_eq_of_le (Nat.le_of_lt_succ hj) with h | rfl
        · exact Hd.out j h
        · exact Hx.out
    case false =>
      have hx2 : (decide (48 ≤ wrap64 (((⟨s.toArray⟩ : ByteArray)[k]).toNat : Int)) && decide (wrap64 ((((⟨s.toArray⟩ : ByteArray)[k]).toNat : Int)) ≤ 57)) = false := by rw [hb, wrap_byte]; exact hx
      have Hk := Lib.hid (He.out (.inr hx))
      have Hx2 := Lib.hid hx2
      clear hx hx2 hb
      generalize hp : (decide (1 ≤ (k : Int)) && decide ((k : Int) ≤ 3)) = pw
      have Hp := Lib.hid hp
      clear hp
      go_upto_region 4 with (go_at_call 25; refine (HW.out _ _ _ _).mono ?_; rintro e w1 ⟨rfl, rfl⟩; rw [Hx2.out])
      have Hn := Lib.hid (numB_at Hk.out Hp.out hk)
      cases pw <;> go_wp2_with (go_at_call 25; refine (HW.out _ _ _ _).mono ?_; rintro e w1 ⟨rfl, rfl⟩; rw [Hp.out])
      all_goals (go_ret; refine ⟨?_, rfl⟩; rw [Hn.out]; refine congrArg Ending.returned (congrArg Value.bool ?_); clear Hk Hx2 Hp Hn He Hd Hg)
      all_goals first
        | rfl
        | (simp [*]; done)
        | trace_state
  · obtain rfl : k = s.length := by omega
    have Hk := Lib.hid (He.out (.inl rfl))
    generalize hp : (decide (1 ≤ (s.length : Int)) && decide ((s.length : Int) ≤ 3)) = pw
    have Hp := Lib.hid hp
    clear hp
    go_upto_region 4 with fail
    have Hn := Lib.hid (numB_at Hk.out Hp.out hk)
    cases pw <;> go_wp2_with (go_at_call 25; refine (HW.out _ _ _ _).mono ?_; rintro e w1 ⟨rfl, rfl⟩; rw [Hp.out])
    all_goals (go_ret; refine ⟨?_, rfl⟩; rw [Hn.out]; refine congrArg Ending.returned (congrArg Value.bool ?_); clear Hk Hp Hn He Hd Hg)
    all_goals first
      | rfl
      | (simp [*]; done)
      | trace_state

end Go.Proofs.YthffhhbbhjcdeaaGreatDoor
namespace Go.Proofs.YthffhhbbhjcdeaaGreatDoor
open Go.RowKit
set_option maxRecDepth 100000

/-- Moves as they come in: three whole numbers each. -/
def trCells (l : List (Int × Int × Int)) : List Value := l.flatMap fun t => [.int .i64 t.1, .int .i64 t.2.1, .int .i64 t.2.2]
def trAt (l : List (Int × Int × Int)) (i : Nat) : Int × Int × Int := l[i]?.getD (0, 0, 0)
structure TrRow (w : World) (b off : Nat) (l : List (Int × Int × Int)) : Prop where
  lt : b < w.heap.size
  cell : ∀ j, j < l.length * 3 → w.cell? ⟨b, off + j, none⟩ = (trCells l)[j]?
theorem TrRow.below {w w' : World} {b off B : Nat} {l : List (Int × Int × Int)} (h : TrRow w b off l) (hb : Below B w w') (hB : b < B) : TrRow w' b off l :=
  ⟨Nat.lt_of_lt_of_le h.lt hb.size, fun j hj => (hb.cell (p := ⟨b, off + j, none⟩) hB).trans (h.cell j hj)⟩
theorem trCells_length (l : List (Int × Int × Int)) : (trCells l).length = l.length * 3 := by
  induction l with
  | nil => rfl
  | cons t l ih => simp [trCells] at ih ⊢; omega
theorem trCells_get (l : List (Int × Int × Int)) (i : Nat) (hi : i < l.length) : (trCells l)[3 * i]? = some (.int .i64 (trAt l i).1) ∧ (trCells l)[3 * i + 1]? = some (.int .i64 (trAt l i).2.1) ∧ (trCells l)[3 * i + 2]? = some (.int .i64 (trAt l i).2.2) := by
  induction l generalizing i with
  | nil => simp at hi
  | cons m l ih =>
    cases i with
    | zero => simp [trCells, trAt]
    | succ i =>
      have := ih i (by simpa using hi)
      have e : trAt (m :: l) (i + 1) = trAt l i := by simp [trAt]
      rw [e]
      simpa [trCells, Nat.mul_add] using this
theorem TrRow.get {w : World} {b off : Nat} {l : List (Int × Int × Int)} (h : TrRow w b off l) (i : Nat) (hi : i < l.length) :
    w.cell? ⟨b, off + i * 3, none⟩ = some (.int .i64 (trAt l i).1) ∧ w.cell? ⟨b, off + i * 3 + 1, none⟩ = some (.int .i64 (trAt l i).2.1) ∧ w.cell? ⟨b, off + i * 3 + 2, none⟩ = some (.int .i64 (trAt l i).2.2) := by
  obtain ⟨h0, h1, h2⟩ := trCells_get l i hi
  rw [Nat.mul_comm] at h0 h1 h2
  exact ⟨(h.cell _ (by omega)).trans h0, (h.cell _ (by omega)).trans h1, (h.cell _ (by omega)).trans h2⟩
def rawOf (m : Mv) : Int × Int × Int := (m.fr, m.tg, m.into)
theorem trCells_raw (l : List Mv) : trCells (l.map rawOf) = mvCells l := by
  unfold trCells mvCells
  rw [List.flatMap_map]
  rfl

/-- What list gives. -/
theorem owns_tr {w : World} {base : Nat} {v : Value} {l : List (Int × Int × Int)} (h : w.ownsRow base 26 3 v l.length (trCells l)) :
    ∃ a cap, v = .slice a l.length cap ∧ (l.length = 0 ∨ ∃ b, a = some ⟨b, 0, none⟩ ∧ TrRow w b 0 l) := by
  obtain ⟨h1, h2⟩ := h
  rcases h2 with ⟨rfl, h0⟩ | ⟨g, cap, cur, rfl, hg, hh, hn, hcap, hsz, ht⟩
  · exact ⟨none, 0, by rw [h0], .inl h0⟩
  · refine ⟨_, cap, rfl, .inr ⟨g, rfl, (Array.getElem?_eq_some_iff.1 hh).1, fun j hj => ?_⟩⟩
    rw [← ht, List.getElem?_take_of_lt hj]
    simp [World.cell?, hh]

theorem trCells_one {l : List (Int × Int × Int)} : ∀ u ∈ trCells l, u.oneCell' = true := by
  intro u hu
  unfold trCells at hu
  rw [List.mem_flatMap] at hu
  obtain ⟨t, _, h⟩ := hu
  simp at h
  rcases h with rfl | rfl | rfl <;> rfl

set_option maxHeartbeats 1000000 in
theorem list_any (a : Option Addr) (cap : Nat) (l : List (Int × Int × Int)) (w : World) (hl : l.length ≤ 2000000) (hr : l.length = 0 ∨ ∃ b off, a = some ⟨b, off, none⟩ ∧ TrRow w b off l) :
    Calls Tryz.prog 15 #[.slice a l.length cap] w fun e w' => ∃ v, e = .returned v ∧ w'.ownsRow w.heap.size 26 3 v l.length (trCells l) ∧ Below w.heap.size w w' := by
  obtain ⟨i0, hi0, hz0, hz1, hz2⟩ := info_parts Tryz.info26
  have hcl := trCells_length l
  by_cases ha : a = none
  · subst ha
    have h0 : l.length = 0 := by
      rcases hr with h | ⟨b, off, h, _⟩
      · exact h
      · cases h
    obtain rfl : l = [] := List.eq_nil_of_length_eq_zero h0
    go_enter Tryz.func15, Tryz.ntmps15
    go_wp2
    go_ret
    exact ⟨_, rfl, World.ownsRow_nil _ _ _ _, Below.refl _ _⟩
  · obtain ⟨⟨b, off, sp⟩, rfl⟩ := Option.ne_none_iff_exists'.1 ha
    have hnews : ∀ j u, (trCells l)[j]? = some u → w.cell? ((⟨b, off, sp⟩ : Addr).add j) = some u := by
      intro j u hj
      have hj2 := (List.getElem?_eq_some_iff.1 hj).1
      rcases hr with h | ⟨b', off', h, hR⟩
      · omega
      · cases h
        have e := (hR.cell j (by omega)).trans hj
        by_cases hj0 : j = 0
        · subst hj0
          simpa [Addr.add] using e
        · simpa [Addr.add, hj0] using e
    go_enter Tryz.func15, Tryz.ntmps15
    go_wp2_with (at_builtin; refine wpList_append_own _ rfl _ _ 37 rfl w.heap.size 26 i0 (.agg #[.int .i64 0, .int .i64 0, .int .i64 0]) 3 24 Tryz.underlying37 hi0 hz0 hz1 hz2 rfl (by decide) _ 0 [] rfl (World.ownsRow_nil _ _ _ _) ⟨b, off, sp⟩ l.length cap (trCells l) rfl hcl hnews trCells_one ?c3 ?c4 ?c5 ?_)
    case c3 => unfold maxLen; omega
    case c4 => omega
    case c5 => omega
    intro v' w1 hown' hgrow _
    have hb : Below w.heap.size w w1 := (Below.refl _ _).grown hgrow (Nat.le_refl _) fun k hk => by cases hk
    clear hgrow
    go_wp2
    go_ret
    exact ⟨_, rfl, by simpa using hown', hb⟩

theorem MvSl.form {w : World} {v : Value} {l : List Mv} (h : MvSl w v l) : ∃ a cap, v = .slice a l.length cap ∧ (l.length = 0 ∨ ∃ b off, a = some ⟨b, off, none⟩ ∧ MvRow w b off l) := by
  rcases h with ⟨rfl, rfl⟩ | ⟨b, off, cap, rfl, hr⟩
  · exact ⟨none, 0, rfl, .inl rfl⟩
  · exact ⟨_, cap, rfl, .inr ⟨b, off, rfl, hr⟩⟩

theorem run_neqMove (a b c : Int) (w : World) : (Go.binOp .neq 26 (.agg #[.int .i64 a, .int .i64 b, .int .i64 c]) (.agg #[.int .i64 a, .int .i64 b, .int .i64 c])).run Tryz.prog w = .ok (.bool false) w := by
  have u3 := Tryz.underlying3
  have a3 := Tryz.isAgg3
  have z3 := Tryz.sizeOf3
  have hS : Tryz.prog.underlying 26 = some (.struct (Tryz.prog.fieldsOf 26)) := by kernel_rfl
  have hp : Tryz.prog.stoodInHeld 26 = false := by kernel_rfl
  rw [run_neq_struct, show (10000 : Nat) = 9999 + 1 from rfl, run_equalIn_agg w 9999 26 _ _ hS hp]
  simp only [Program.fieldsOf, Tryz.underlying26]
  go_simp

set_option maxHeartbeats 1000000 in
theorem sameMoves_any (v1 v2 : Value) (l : List Mv) (w : World) (h1 : MvSl w v1 l) (h2 : MvSl w v2 l) (hl : l.length ≤ 2000000) :
    Calls Tryz.prog 19 #[v1, v2] w (RetB (.bool true) w) := by
  obtain ⟨a1, c1, rfl, h3⟩ := h1.form
  obtain ⟨a2, c2, rfl, h4⟩ := h2.form
  have hq := run_neqMove
  have H1 := Lib.hid h3
  have H2 := Lib.hid h4
  clear h1 h2 h3 h4
  go_enter Tryz.func19, Tryz.ntmps19
  go_wp2_with fail
  go_loopg [5] l.length (fun g s5 wx => ∃ k : Nat, k ≤ l.length ∧ g = l.length - k ∧ s5 = .int .i64 k ∧ Below w.heap.size w wx)
  case atStart => exact ⟨0, by omega, rfl, rfl, Below.refl _ _⟩
  case round =>
    obtain ⟨k, hk, hg, rfl, hbel⟩ := hrel
    have Hg := Lib.hid hg
    clear hg
    by_cases hkl : k = l.length
    · have hge : ¬ k < l.length := by omega
      clear hkl
      go_wp2
      go_ret
      exact ⟨rfl, hbel⟩
    have hklt : k < l.length := by omega
    clear hkl hk
    rcases H1.out with h | ⟨b1, o1, rfl, r1⟩
    · omega
    rcases H2.out with h | ⟨b2, o2, rfl, r2⟩
    · omega
    clear H1 H2
    obtain ⟨g0, g1, g2⟩ := (r1.below hbel r1.lt).get k hklt
    obtain ⟨m0, m1, m2⟩ := (r2.below hbel r2.lt).get k hklt
    have hki : (k : Int) < l.length := by omega
    go_wp2_with fail
    go_quiet (fail)
    go_wp2
    go_roundg (l.length - (k + 1))
    case measure => have := Hg.out; omega
    case rel => exact ⟨k + 1, by omega, rfl, by go_num, below_drewN hbel _⟩

end Go.Proofs.YthffhhbbhjcdeaaGreatDoor
namespace Go.Proofs.YthffhhbbhjcdeaaGreatDoor
open Go.RowKit
set_option maxRecDepth 100000

def dgt (n : Nat) : UInt8 := UInt8.ofNat (48 + n)

theorem run_one (x : Int) (w : World) : (convert 82 9 (.slice (some ⟨w.heap.size, 0, none⟩) 1 1)).run Tryz.prog (w.alloc (.cells #[.int .u8 x] 5)) =
    .ok (.string ⟨[UInt8.ofNat x.toNat].toArray⟩) (w.alloc (.cells #[.int .u8 x] 5)) := by
  rw [run_convert_bytes_string _ 82 9 5 _ _ _ Tryz.underlying82 Tryz.underlying5 Tryz.underlying9, run_bytesToString _ _ _ _ [x]]
  · rfl
  · go_simp

set_option maxHeartbeats 2000000 in
theorem dec1_any (n : Nat) (hn : n < 10) (w : World) : Calls Tryz.prog 42 #[.int .i64 n] w (RetB (.string ⟨[dgt n].toArray⟩) w) := by
  have h0 : (0 : Int) ≤ n := by omega
  have h1 : (n : Int) < 10 := by omega
  have hr := run_one
  go_enter Tryz.func42, Tryz.ntmps42
  go_wp2
  go_ret
  exact ⟨rfl, (Below.refl _ _).alloc (Nat.le_refl _) _⟩

def decL (n : Nat) : List UInt8 := if n < 10 then [dgt n] else if n < 100 then [dgt (n / 10), dgt (n % 10)] else [dgt (n / 10 / 10), dgt (n / 10 % 10), dgt (n % 10)]
theorem decL_le (n : Nat) : (decL n).length ≤ 3 := by
  unfold decL
  repeat' split
  all_goals simp

set_option maxHeartbeats 2000000 in
/-- Two texts, one behind the other: what a number of more digits is made of. -/
theorem dec_two (n a b N : Nat) (hn : 10 ≤ n) (hb : n < 1000) (ea : n / 10 = a) (eb : n % 10 = b) (haN : a < N) (hbN : b < N)
    (hD : ∀ k, k < N → ∀ w1, Calls Tryz.prog 42 #[.int .i64 (k : Nat)] w1 (RetB (.string ⟨(decL k).toArray⟩) w1)) (w : World) :
    Calls Tryz.prog 42 #[.int .i64 n] w (RetB (.string ⟨(decL a ++ decL b).toArray⟩) w) := by
  have h0 : (0 : Int) ≤ n := by omega
  have h1 : ¬ ((n : Int) < 10) := by omega
  have hd : (n : Int).tdiv 10 = a := by rw [Int.tdiv_eq_ediv_of_nonneg h0]; omega
  have hr : (n : Int).tmod 10 = b := by rw [Int.tmod_eq_emod_of_nonneg h0]; omega
  have hla := decL_le a
  have hlb := decL_le b
  have hsum : ¬ 9223372036854775807 < (decL a).length + (decL b).length := by omega
  have HD := Lib.hid hD
  clear hD
  go_enter Tryz.func42, Tryz.ntmps42
  go_upto_region 7 with fail
  go_wp2_with fail
  refine (HD.out a haN _).mono ?_
  rintro e w1 ⟨rfl, hb1⟩
  go_wp2_with fail
  refine (HD.out b hbN _).mono ?_
  rintro e w2 ⟨rfl, hb2⟩
  go_wp2_with fail
  go_ret
  exact ⟨congrArg Ending.returned (congrArg Value.string (bytes_app _ _)), hb1.trans (hb2.mono hb1.size)⟩

theorem dec_any (n : Nat) (hn : n < 1000) (w : World) : Calls Tryz.prog 42 #[.int .i64 n] w (RetB (.string ⟨(decL n).toArray⟩) w) := by
  have h1 : ∀ k, k < 10 → ∀ w1, Calls Tryz.prog 42 #[.int .i64 (k : Nat)] w1 (RetB (.string ⟨(decL k).toArray⟩) w1) := fun k h w1 => by
    have e : decL k = [dgt k] := by unfold decL; rw [if_pos h]
    rw [e]; exact dec1_any k h w1
  have h2 : ∀ k, k < 100 → ∀ w1, Calls Tryz.prog 42 #[.int .i64 (k : Nat)] w1 (RetB (.string ⟨(decL k).toArray⟩) w1) := fun k h w1 => by
    by_cases hk : k < 10
    · exact h1 k hk w1
    · have e : decL k = decL (k / 10) ++ decL (k % 10) := by
        unfold decL
        rw [if_neg hk, if_pos h, if_pos (by omega), if_pos (by omega)]; rfl
      rw [e]
      exact dec_two k _ _ 10 (by omega) (by omega) rfl rfl (by omega) (by omega) h1 w1
  by_cases h3 : n < 100
  · exact h2 n h3 w
  · have e : decL n = decL (n / 10) ++ decL (n % 10) := by
      unfold decL
      rw [if_neg (by omega), if_neg h3, if_neg (by omega), if_pos (by omega), if_pos (by omega)]; rfl
    rw [e]
    exact dec_two n _ _ 100 (by omega) hn rfl rfl (by omega) (by omega) h2 w

theorem itoa_dec : ∀ n : Nat, n < 1000 → Lib.itoa (n : Int) = decL n := by decide +kernel

end Go.Proofs.YthffhhbbhjcdeaaGreatDoor
namespace Go.Proofs.YthffhhbbhjcdeaaGreatDoor
open Go.RowKit
set_option maxRecDepth 100000

def mvOf (t : Int × Int × Int) : Mv := ⟨t.1.toNat, t.2.1.toNat, t.2.2⟩
def hasT (p : Pos) (t : Int × Int × Int) : Bool := decide (0 ≤ mvIdx (movesR p) t.1 t.2.1 t.2.2)
theorem hasIdx_yes {l : List Mv} {x y z : Int} (h : decide (0 ≤ mvIdx l x y z) = true) : ∃ m, m ∈ l ∧ (m.fr : Int) = x ∧ (m.tg : Int) = y ∧ m.into = z := by
  unfold mvIdx at h
  cases hf : l.findIdx? (fun m => mvIs m x y z) with
  | none => rw [hf] at h; simp at h
  | some i =>
    rw [List.findIdx?_eq_some_iff_getElem] at hf
    obtain ⟨hi, h1, _⟩ := hf
    unfold mvIs at h1
    simp only [Bool.and_eq_true, beq_iff_eq] at h1
    exact ⟨l[i], List.getElem_mem hi, h1.1.1, h1.1.2, h1.2⟩
theorem hasT_yes {p : Pos} {t : Int × Int × Int} (h : hasT p t = true) : mvOf t ∈ movesR p ∧ (t.1 = (mvOf t).fr) ∧ (t.2.1 = (mvOf t).tg) ∧ t.2.2 = (mvOf t).into := by
  obtain ⟨m, hm, h1, h2, h3⟩ := hasIdx_yes h
  have e : mvOf t = m := by
    unfold mvOf
    rw [← h1, ← h2, ← h3]
    cases m
    simp
  rw [e]
  exact ⟨hm, h1.symm, h2.symm, h3.symm⟩
def wordR (p : Pos) (m : Mv) : List UInt8 := plainL p m ++ endL p m
def preP (p : Pos) (f : Bool) : List (List UInt8) := if p.turn = 0 then [decL p.full.toNat ++ [46]] else if f then [decL p.full.toNat ++ [46, 46, 46]] else []
/-- The words that are told. -/
def tellA : Pos → Bool → List (List UInt8) → List (Int × Int × Int) → Option (List (List UInt8))
  | _, _, acc, [] => some acc
  | p, f, acc, t :: r => if hasT p t then tellA (doneR p (mvOf t)) false (acc ++ preP p f ++ [wordR p (mvOf t)]) r else none
def preS (p : Pos) (f : Bool) : List UInt8 := (if f then [] else [32]) ++ (if p.turn = 0 then decL p.full.toNat ++ [46, 32] else []) ++ (if p.turn = 1 ∧ f = true then decL p.full.toNat ++ [46, 46, 46, 32] else [])
/-- The text that is told. -/
def tellS : Pos → Bool → List UInt8 → List (Int × Int × Int) → Option (List UInt8)
  | _, _, s, [] => some s
  | p, f, s, t :: r => if hasT p t then tellS (doneR p (mvOf t)) false (s ++ preS p f ++ wordR p (mvOf t)) r else none

def joinB (a : List (List UInt8)) : List UInt8 := Lib.join a [32]
theorem joinTail_app (r q : List (List UInt8)) : Lib.joinTail [32] (r ++ q) = Lib.joinTail [32] r ++ Lib.joinTail [32] q := by
  unfold Lib.joinTail
  rw [List.map_append, List.flatten_append]
theorem joinB_snoc (a : List (List UInt8)) (x : List UInt8) (h : a ≠ []) : joinB (a ++ [x]) = joinB a ++ [32] ++ x := by
  obtain ⟨y, r, rfl⟩ := List.exists_cons_of_ne_nil h
  unfold joinB
  rw [List.cons_append, Lib.join_cons, Lib.join_cons, joinTail_app]
  simp [Lib.joinTail]
theorem joinB_one (x : List UInt8) : joinB [x] = x := Lib.join_one _ _

theorem join_step (p : Pos) (f : Bool) (a : List (List UInt8)) (x : List UInt8) (ht : p.turn = 0 ∨ p.turn = 1) (hf : f = true ↔ a = []) : joinB (a ++ preP p f ++ [x]) = joinB a ++ preS p f ++ x := by
  have hw : ∀ (d : List UInt8), joinB (a ++ [d] ++ [x]) = joinB (a ++ [d]) ++ [32] ++ x := fun d => joinB_snoc _ _ (by simp)
  cases f with
  | true =>
    have ha := hf.1 rfl
    subst ha
    rcases ht with h | h
    · unfold preP preS
      simp only [h, if_true, List.nil_append]
      rw [show ([decL p.full.toNat ++ [46]] ++ [x] : List (List UInt8)) = [] ++ [decL p.full.toNat ++ [46]] ++ [x] from rfl, hw, List.nil_append, joinB_one]
      simp [joinB, Lib.join_nil]
    · unfold preP preS
      simp only [h, if_true, List.nil_append]
      rw [if_neg (by decide), if_neg (by decide)]
      rw [show ([decL p.full.toNat ++ [46, 46, 46]] ++ [x] : List (List UInt8)) = [] ++ [decL p.full.toNat ++ [46, 46, 46]] ++ [x] from rfl, hw, List.nil_append, joinB_one]
      simp [joinB, Lib.join_nil]
  | false =>
    have ha : a ≠ [] := fun h => by have := hf.2 h; cases this
    rcases ht with h | h
    · unfold preP preS
      simp only [h, if_true]
      rw [hw, joinB_snoc a _ ha]
      simp
    · unfold preP preS
      simp only [h]
      rw [if_neg (by decide), if_neg (by decide)]
      simp only [List.append_nil, Bool.false_eq_true, if_false, and_false]
      rw [joinB_snoc a _ ha, if_neg (by decide : ¬ (1 : Int) = 0)]
      simp

theorem tell_eq : ∀ (l : List (Int × Int × Int)) (p : Pos) (f : Bool) (a : List (List UInt8)), (p.turn = 0 ∨ p.turn = 1) → (f = true ↔ a = []) → tellS p f (joinB a) l = (tellA p f a l).map joinB
  | [], _, _, _, _, _ => rfl
  | t :: r, p, f, a, ht, hf => by
    unfold tellS tellA
    cases hasT p t with
    | false => rfl
    | true =>
      simp only [if_true]
      rw [← join_step p f a _ ht hf]
      refine tell_eq r _ _ _ ?_ ?_
      · show 1 - p.turn = 0 ∨ 1 - p.turn = 1
        omega
      · simp
theorem tell_law (l : List (Int × Int × Int)) (p : Pos) (ht : p.turn = 0 ∨ p.turn = 1) : tellS p true [] l = (tellA p true [] l).map joinB := tell_eq l p true [] ht (by simp)

def overB (w : List UInt8) : Bool := w == [49, 45, 48] || w == [48, 45, 49] || w == [49, 47, 50, 45, 49, 47, 50] || w == [42]
/-- The game that a text's words say. -/
def gameG : Pos → List Mv → Nat → List (List UInt8) → List Mv × Nat × Int
  | _, a, _, [] => (a, 0, 0)
  | p, a, i, w :: r => if numB w then gameG p a (i + 1) r else if overB w then (a, 0, 0) else
    match parseL p w with
    | none => ([], i, 1)
    | some m => if a.length = 200 then ([], i, 11) else gameG (doneR p m) (a ++ [m]) (i + 1) r
theorem parseL_mem {p : Pos} {s : List UInt8} {m : Mv} (h : parseL p s = some m) : m ∈ movesR p := List.mem_of_find?_eq_some h

end Go.Proofs.YthffhhbbhjcdeaaGreatDoor
namespace Go.Proofs.YthffhhbbhjcdeaaGreatDoor
open Go.RowKit
set_option maxRecDepth 100000

theorem one_at : ∀ k, k < 64 → ((List.range 64).filter fun i => i == k).length = 1 := by decide
theorem count_is {L : Nat → Int} {x : Int} {k : Nat} (hk : k < 64) (h : ∀ i, L i = x ↔ i = k) : countL L x 64 = 1 := by
  unfold countL
  rw [show (fun i => L i == x) = (fun i => i == k) from by funext i; rw [Bool.eq_iff_iff]; simp [h i]]
  exact one_at k hk
theorem mayB_of {p : Pos} (h : MayP p) : mayB 64 p = true := by
  have ht := h.ok.turn
  have hbd := h.ok.bd
  obtain ⟨k0, hk0, hu0⟩ := h.king 0 (.inl rfl)
  obtain ⟨k1, hk1, hu1⟩ := h.king 1 (.inr rfl)
  have e0 := count_is hk0 (x := 6) (by simpa using hu0)
  have e1 := count_is hk1 (x := -6) (by simpa using hu1)
  simp only [mayB, Bool.and_eq_true, Bool.not_eq_true', beq_iff_eq]
  refine ⟨⟨⟨⟨?_, ?_⟩, ⟨e0, e1⟩, h.calm⟩, ?_⟩, h.pass⟩
  · have c0 := h.ok.c0
    have c1 := h.ok.c1
    have a0 := h.ok.h0
    have a1 := h.ok.h1
    have f0 := h.ok.f0
    have f1 := h.ok.f1
    simp only [mayHead, inR, Bool.and_eq_true, decide_eq_true_eq]
    refine ⟨⟨⟨⟨by simp, by omega, by omega⟩, by omega, by omega⟩, by omega, by omega⟩, by omega, by omega⟩
  · unfold spotsB
    rw [List.all_eq_true]
    intro i hi
    have hi2 : i < 64 := by simpa using hi
    have hb := hbd i
    have hp := h.pawn i hi2
    unfold spotB inR
    cases hs : (sizeI (p.L i) == 1) with
    | false => simp; omega
    | true =>
      have h8 := hp (by simpa using hs)
      simp
      omega
  · unfold rightsB
    rw [List.all_eq_true]
    intro n hn
    have hn2 : n < 4 := by simpa using hn
    have hr := h.right n hn2
    unfold rightB
    cases hc : (p.castle / 2 ^ n % 2 == 1) with
    | false => rfl
    | true =>
      obtain ⟨r1, r2⟩ := hr (by simpa using hc)
      rw [r1, r2]
      simp

end Go.Proofs.YthffhhbbhjcdeaaGreatDoor
