/- WALKS: the reference's replaced. -/
import Derived.Test.YthffhhbbhjcdeaaGreatDoorB
import Derived.Deep.CutBlock
set_option linter.unusedVariables false
set_option linter.unusedSimpArgs false
namespace Go.Proofs.YthffhhbbhjcdeaaGreatDoor
open Go.RowKit
set_option maxRecDepth 100000

/-- Each piece of a text that is so becomes another one. -/
def replL (old into : List UInt8) : Nat → List UInt8 → List UInt8
  | 0, _ => []
  | _ + 1, [] => []
  | f + 1, c :: r => if (c :: r).take old.length = old then into ++ replL old into f ((c :: r).drop old.length) else c :: replL old into f r

theorem extract_toList (s : List UInt8) (i k : Nat) :
    (({ data := s.toArray : ByteArray }.extract i (i + k)).toList) = (s.drop i).take k := by
  rw [ByteArray.toList_eq, ByteArray.data_extract]
  simp [List.extract_eq_take_drop]

theorem bytes_app (a b : List UInt8) : ({ data := a.toArray : ByteArray } ++ { data := b.toArray : ByteArray }) = { data := (a ++ b).toArray } := by
  ext1; simp

theorem bytes_cut (s : List UInt8) (i k : Nat) : ({ data := s.toArray : ByteArray }.extract i (i + k)) = { data := ((s.drop i).take k).toArray } := by
  ext1
  rw [ByteArray.data_extract]
  simp [List.extract_eq_take_drop]

/-- More fuel than the text is long changes nothing. -/
theorem replL_fuel (old into : List UInt8) (ho : 1 ≤ old.length) : ∀ (f g : Nat) (s : List UInt8), s.length < f → s.length < g → replL old into f s = replL old into g s
  | 0, _, _, h, _ => by omega
  | _, 0, _, _, h => by omega
  | f + 1, g + 1, [], _, _ => rfl
  | f + 1, g + 1, c :: r, hf, hg => by
    simp only [List.length_cons] at hf hg
    unfold replL
    rw [replL_fuel old into ho f g ((c :: r).drop old.length) (by rw [List.length_drop, List.length_cons]; omega) (by rw [List.length_drop, List.length_cons]; omega),
      replL_fuel old into ho f g r (by omega) (by omega)]

theorem replL_hit (old into s : List UInt8) (i : Nat) (ho : 1 ≤ old.length) (hi : i < s.length) (h : (s.drop i).take old.length = old) :
    replL old into (s.length - i + 1) (s.drop i) = into ++ replL old into (s.length - (i + old.length) + 1) (s.drop (i + old.length)) := by
  cases hd : s.drop i with
  | nil => simp at hd; omega
  | cons c r =>
    have hlen : (s.drop i).length = s.length - i := by simp
    rw [hd] at h hlen
    simp only [List.length_cons] at hlen
    have hr : (c :: r).drop old.length = s.drop (i + old.length) := by rw [← hd, List.drop_drop]
    rw [show s.length - i + 1 = (r.length + 1) + 1 by omega]
    conv => lhs; unfold replL
    rw [if_pos h, hr]
    congr 1
    exact replL_fuel old into ho _ _ _ (by rw [List.length_drop]; omega) (by rw [List.length_drop]; omega)

theorem replL_miss (old into s : List UInt8) (i : Nat) (ho : 1 ≤ old.length) (hi : i < s.length) (h : (s.drop i).take old.length ≠ old) :
    replL old into (s.length - i + 1) (s.drop i) = (s.drop i).take 1 ++ replL old into (s.length - (i + 1) + 1) (s.drop (i + 1)) := by
  cases hd : s.drop i with
  | nil => simp at hd; omega
  | cons c r =>
    have hlen : (s.drop i).length = s.length - i := by simp
    rw [hd] at h hlen
    simp only [List.length_cons] at hlen
    have hr : s.drop (i + 1) = r := by rw [← List.drop_drop, hd]; rfl
    rw [show s.length - i + 1 = (r.length + 1) + 1 by omega, hr]
    conv => lhs; unfold replL
    rw [if_neg h]
    simp only [List.take_succ_cons, List.take_zero, List.singleton_append]
    congr 1
    exact replL_fuel old into ho _ _ _ (by omega) (by omega)

set_option maxHeartbeats 2000000 in
theorem replaced_any (s old into : List UInt8) (w : World) (ho : 1 ≤ old.length) (hio : into.length ≤ old.length) (ho5 : old.length ≤ 10) (hs : s.length ≤ 4000000) :
    Calls Tryz.prog 28 #[.string ⟨s.toArray⟩, .string ⟨old.toArray⟩, .string ⟨into.toArray⟩] w (RetW (.string ⟨(replL old into (s.length + 1) s).toArray⟩) w) := by
  go_enter Tryz.func28, Tryz.ntmps28
  go_wp2_with fail
  go_loopg [7, 8] s.length (fun g s7 s8 wx => ∃ (i : Nat) (o : List UInt8), i ≤ s.length ∧ g = s.length - i ∧ s8 = .int .i64 i ∧ s7 = .string ⟨o.toArray⟩ ∧ o.length ≤ i ∧ w = wx ∧ o ++ replL old into (s.length - i + 1) (s.drop i) = replL old into (s.length + 1) s)
  case atStart => exact ⟨0, [], by omega, rfl, rfl, rfl, by simp, rfl, by simp⟩
  case round =>
  obtain ⟨i, o, hi, hg, rfl, rfl, hoi, rfl, he⟩ := hrel
  have Hg := Lib.hid hg
  have He := Lib.hid he
  clear hg he
  by_cases hil : i < s.length
  · by_cases hc : i + old.length ≤ s.length
    · cases hm : (({ data := s.toArray : ByteArray }.extract i (i + old.length)).toList == old)
      · have hmi := replL_miss old into s i ho hil (by rw [extract_toList] at hm; simpa using hm)
        have Hmi := Lib.hid hmi
        clear hmi
        go_wp2
        go_ways
        go_roundg (s.length - (i + 1))
        case measure => have := Hg.out; omega
        case rel =>
          refine ⟨i + 1, o ++ (s.drop i).take 1, by omega, rfl, ?_, ?_, ?_, rfl, ?_⟩
          · simp
          · exact congrArg Value.string (by rw [bytes_cut, bytes_app])
          · simp; omega
          · have h1 := He.out; rw [Hmi.out] at h1; simpa using h1
      · have hmi := replL_hit old into s i ho hil (by rw [extract_toList] at hm; simpa using hm)
        have Hmi := Lib.hid hmi
        clear hmi
        go_wp2
        go_ways
        go_roundg (s.length - (i + old.length))
        case measure => have := Hg.out; omega
        case rel =>
          refine ⟨i + old.length, o ++ into, by omega, rfl, ?_, ?_, ?_, rfl, ?_⟩
          · simp
          · exact congrArg Value.string (by rw [bytes_app])
          · simp; omega
          · have h1 := He.out; rw [Hmi.out] at h1; simpa using h1
    · have hmi := replL_miss old into s i ho hil (fun h => by have := congrArg List.length h; simp at this; omega)
      have Hmi := Lib.hid hmi
      clear hmi
      go_wp2
      go_ways
      go_roundg (s.length - (i + 1))
      case measure => have := Hg.out; omega
      case rel =>
        refine ⟨i + 1, o ++ (s.drop i).take 1, by omega, rfl, ?_, ?_, ?_, rfl, ?_⟩
        · simp
        · exact congrArg Value.string (by rw [bytes_cut, bytes_app])
        · simp; omega
        · have h1 := He.out; rw [Hmi.out] at h1; simpa using h1
  · have hie : i = s.length := by omega
    subst hie
    have ho2 : o = replL old into (s.length + 1) s := by have h1 := He.out; simpa [replL] using h1
    go_wp2
    go_ways
    rw [ho2]
    go_ret
    exact ⟨rfl, rfl⟩

end Go.Proofs.YthffhhbbhjcdeaaGreatDoor
