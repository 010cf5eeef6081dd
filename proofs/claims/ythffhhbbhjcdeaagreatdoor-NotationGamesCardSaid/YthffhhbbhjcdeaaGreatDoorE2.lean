/- WALKS: ContainsRune at the program's six-byte strings; the closure. WALKS: the closure that turns a sign into a letter. -/
import Derived.Test.YthffhhbbhjcdeaaGreatDoorE1
import Derived.Test.YthffhhbbhjcdeaaGreatDoorD5
import Derived.Test.YthffhhbbhjcdeaaGreatDoorP9
set_option linter.unusedVariables false
set_option linter.unusedSimpArgs false
namespace Go.Proofs.YthffhhbbhjcdeaaGreatDoor
open Go.RowKit
set_option maxRecDepth 100000

set_option maxHeartbeats 4000000 in
theorem ir_bad (a b : UInt8) (c d : Nat) (hd0 : Utf8.decode ⟨#[226, 153, a, 226, 153, b]⟩ 0 = (c, 3)) (hd1 : Utf8.decode ⟨#[226, 153, a, 226, 153, b]⟩ 3 = (d, 3)) (hc : (c : Int) ≠ 65533) (hd : (d : Int) ≠ 65533) (w : World) :
    Calls Tryz.prog 91 #[.string ⟨#[226, 153, a, 226, 153, b]⟩, .int .i32 65533] w (RetB (.int .i64 (-1)) w) := by
  have n0 : ∀ ty, (Instr.next (.pointer (some ⟨w.heap.size, 0, none⟩)) true ty).run Tryz.prog (w.iter ⟨#[226, 153, a, 226, 153, b]⟩ 0) = .ok (.tuple #[.bool true, .int .i64 0, .int .i32 c]) (w.iter ⟨#[226, 153, a, 226, 153, b]⟩ 3) := fun ty => by
    rw [run_next_any w _ 0 ty (by show 0 < 6; omega), hd0]; rfl
  have n1 : ∀ ty, (Instr.next (.pointer (some ⟨w.heap.size, 0, none⟩)) true ty).run Tryz.prog (w.iter ⟨#[226, 153, a, 226, 153, b]⟩ 3) = .ok (.tuple #[.bool true, .int .i64 3, .int .i32 d]) (w.iter ⟨#[226, 153, a, 226, 153, b]⟩ 6) := fun ty => by
    rw [run_next_any w _ 3 ty (by show 3 < 6; omega), hd1]; rfl
  have n2 : ∀ ty, (Instr.next (.pointer (some ⟨w.heap.size, 0, none⟩)) true ty).run Tryz.prog (w.iter ⟨#[226, 153, a, 226, 153, b]⟩ 6) = .ok (.tuple #[.bool false]) (w.iter ⟨#[226, 153, a, 226, 153, b]⟩ 6) := fun ty => by
    rw [run_next_end w _ 6 ty (by show ¬ 6 < 6; omega)]
  have hb : Below w.heap.size w (w.iter ⟨#[226, 153, a, 226, 153, b]⟩ 6) := (Below.refl _ _).alloc (Nat.le_refl _) _
  clear hd0 hd1
  go_enter Tryz.func91, Tryz.ntmps91
  go_wp2
  refine wp_loop_rounds 6 ?_
  rw [rounds_succ]
  go_wp2
  rw [rounds_succ]
  go_wp2
  rw [rounds_succ]
  go_wp2
  go_ret
  exact ⟨rfl, hb⟩

set_option maxHeartbeats 4000000 in
theorem ir_inv (s : ByteArray) (x : Int) (w : World) (hv : Lib.validRune x = false) (h0 : 128 ≤ x) (hx : x ≠ 65533) :
    Calls Tryz.prog 91 #[.string s, .int .i32 x] w (RetB (.int .i64 (-1)) w) := by
  go_enter Tryz.func91, Tryz.ntmps91
  go_wp2_with (go_at_call 114; refine (Tryz.utf8_ValidRune _ _).mono ?_; rintro e w1 ⟨rfl, rfl⟩; rw [hv])
  go_ret
  exact ⟨rfl, Below.refl _ _⟩

theorem ofNat_toNat {n : Nat} (h : n < 256) : (UInt8.ofNat n).toNat = n := by
  rw [UInt8.toNat_ofNat']; omega
theorem u8_ne {x y : UInt8} (h : x.toNat ≠ y.toNat) : x ≠ y := fun e => h (by rw [e])
theorem enc2 {x : Nat} (h0 : 128 ≤ x) (h1 : x < 2048) : Utf8.encode (x : Int) = ⟨#[UInt8.ofNat (192 + x / 64), UInt8.ofNat (128 + x % 64)]⟩ := by
  have hv : Utf8.valid (x : Int) = true := by rw [validRune_eq]; unfold validRune; exact decide_eq_true (by omega)
  unfold Utf8.encode
  simp only [hv, if_true, Int.toNat_natCast]
  rw [if_neg (by omega), if_pos (by omega)]
theorem enc3 {x : Nat} (h0 : 2048 ≤ x) (h1 : x < 65536) (hv : Lib.validRune x = true) : Utf8.encode (x : Int) = ⟨#[UInt8.ofNat (224 + x / 4096), UInt8.ofNat (128 + x / 64 % 64), UInt8.ofNat (128 + x % 64)]⟩ := by
  have hv : Utf8.valid (x : Int) = true := by rw [validRune_eq]; exact hv
  unfold Utf8.encode
  simp only [hv, if_true, Int.toNat_natCast]
  rw [if_neg (by omega), if_neg (by omega), if_pos (by omega)]
theorem enc4 {x : Nat} (h0 : 65536 ≤ x) (hv : Lib.validRune x = true) : Utf8.encode (x : Int) = ⟨#[UInt8.ofNat (240 + x / 262144), UInt8.ofNat (128 + x / 4096 % 64), UInt8.ofNat (128 + x / 64 % 64), UInt8.ofNat (128 + x % 64)]⟩ := by
  have hv : Utf8.valid (x : Int) = true := by rw [validRune_eq]; exact hv
  unfold Utf8.encode
  simp only [hv, if_true, Int.toNat_natCast]
  rw [if_neg (by omega), if_neg (by omega), if_neg (by omega)]

def IrOut (c d x : Nat) (w : World) (e : Ending) (w' : World) : Prop := ∃ r : Int, e = .returned (.int .i64 r) ∧ (0 ≤ r ↔ x = c ∨ x = d) ∧ Below w.heap.size w w'
theorem irout {c d x : Nat} {w : World} {r : Int} {P : Program} {f : Nat} {args : Array Value} (h : Calls P f args w (RetB (.int .i64 r) w)) (hr : 0 ≤ r ↔ x = c ∨ x = d) : Calls P f args w (IrOut c d x w) :=
  h.mono fun _ _ ⟨he, hb⟩ => ⟨r, he, hr, hb⟩

theorem ir_any (a b : UInt8) (c d : Nat) (hd0 : Utf8.decode ⟨#[226, 153, a, 226, 153, b]⟩ 0 = (c, 3)) (hd1 : Utf8.decode ⟨#[226, 153, a, 226, 153, b]⟩ 3 = (d, 3))
    (ha0 : 148 ≤ a.toNat) (ha1 : a.toNat ≤ 152) (hb0 : b.toNat = a.toNat + 6) (hc : c = 9664 + a.toNat) (hd : d = 9664 + b.toNat) (x : Nat) (hx : x ≤ 1114111) (w : World) :
    Calls Tryz.prog 91 #[.string ⟨#[226, 153, a, 226, 153, b]⟩, .int .i32 x] w (IrOut c d x w) := by
  have u153 : (153 : UInt8).toNat = 153 := rfl
  have u226 : (226 : UInt8).toNat = 226 := rfl
  by_cases h1 : x < 128
  · refine (Tryz.strings_IndexRune_ascii _ _ _ (by omega) (by omega)).mono ?_
    rintro e w' ⟨rfl, rfl⟩
    refine ⟨_, rfl, ?_, Below.refl _ _⟩
    have hq : (x : Int).toNat.toUInt8.toNat = x := by show (UInt8.ofNat x).toNat = x; exact ofNat_toNat (by omega)
    generalize (x : Int).toNat.toUInt8 = q at hq
    have n0 : (226 : UInt8) ≠ q := u8_ne (by omega)
    have n1 : (153 : UInt8) ≠ q := u8_ne (by omega)
    have n2 : a ≠ q := u8_ne (by omega)
    have n3 : b ≠ q := u8_ne (by omega)
    have : Lib.indexByte [226, 153, a, 226, 153, b] q = -1 := by simp [Lib.indexByte, n0, n1, n2, n3]
    show 0 ≤ Lib.indexByte [226, 153, a, 226, 153, b] q ↔ _
    rw [this]
    omega
  by_cases h2 : x = 65533
  · subst h2
    exact irout (ir_bad a b c d hd0 hd1 (by omega) (by omega) w) (by omega)
  cases hv : Lib.validRune (x : Int) with
  | false =>
    refine irout (ir_inv _ _ w hv (by omega) (by omega)) ?_
    have : ¬ ((0 ≤ (x : Int) ∧ (x : Int) < 0xD800) ∨ (0xDFFF < (x : Int) ∧ (x : Int) ≤ 0x10FFFF)) := of_decide_eq_false hv
    omega
  | true =>
  have hx2 : (x : Int) ≠ 65533 := by omega
  have hx0 : (128 : Int) ≤ x := by omega
  have ab : a ≠ b := u8_ne (by omega)
  have a3 : (153 : UInt8) ≠ a := u8_ne (by omega)
  have a2 : (226 : UInt8) ≠ a := u8_ne (by omega)
  have b3 : (153 : UInt8) ≠ b := u8_ne (by omega)
  have b2 : (226 : UInt8) ≠ b := u8_ne (by omega)
  by_cases h3 : x < 2048
  · have hE := enc2 (by omega) h3
    have t0 : (UInt8.ofNat (192 + x / 64)).toNat = 192 + x / 64 := ofNat_toNat (by omega)
    have t1 : (UInt8.ofNat (128 + x % 64)).toNat = 128 + x % 64 := ofNat_toNat (by omega)
    generalize UInt8.ofNat (192 + x / 64) = r0 at *
    generalize UInt8.ofNat (128 + x % 64) = r1 at *
    have e0 : (226 : UInt8) ≠ r0 := u8_ne (by omega)
    have e1 : (153 : UInt8) ≠ r0 := u8_ne (by omega)
    by_cases k1 : r1 = 153
    · subst k1
      exact irout (ir2c x w a b r0 hv hx0 hx2 hE a3.symm b3.symm e0 e1) (by omega)
    by_cases k2 : r1 = a
    · subst k2
      exact irout (ir2a x w r1 b r0 hv hx0 hx2 hE a3 a2 ab.symm e0 e1) (by omega)
    by_cases k3 : r1 = b
    · subst k3
      exact irout (ir2b x w a r1 r0 hv hx0 hx2 hE b3 b2 ab e0 e1) (by omega)
    exact irout (ir2d x w a b r0 r1 hv hx0 hx2 hE (Ne.symm k2) (Ne.symm k3) (Ne.symm k1) (u8_ne (by omega))) (by omega)
  by_cases h4 : x < 65536
  · have hE := enc3 (by omega) h4 hv
    have t0 : (UInt8.ofNat (224 + x / 4096)).toNat = 224 + x / 4096 := ofNat_toNat (by omega)
    have t1 : (UInt8.ofNat (128 + x / 64 % 64)).toNat = 128 + x / 64 % 64 := ofNat_toNat (by omega)
    have t2 : (UInt8.ofNat (128 + x % 64)).toNat = 128 + x % 64 := ofNat_toNat (by omega)
    generalize UInt8.ofNat (224 + x / 4096) = r0 at *
    generalize UInt8.ofNat (128 + x / 64 % 64) = r1 at *
    generalize UInt8.ofNat (128 + x % 64) = r2 at *
    by_cases k1 : r2 = a
    · subst k1
      by_cases k2 : r1 = 153
      · subst k2
        by_cases k3 : r0 = 226
        · subst k3
          exact irout (ir3a x w r2 b hv hx0 hx2 hE) (by omega)
        · have hk : r0.toNat ≠ 226 := fun h => k3 (UInt8.toNat_inj.1 h)
          exact irout (ir3a0 x w r2 b r0 hv hx0 hx2 hE a3 a2 ab.symm (Ne.symm k3)) (by omega)
      · have hk : r1.toNat ≠ 153 := fun h => k2 (UInt8.toNat_inj.1 h)
        exact irout (ir3a1 x w r2 b r0 r1 hv hx0 hx2 hE a3 a2 ab.symm (Ne.symm k2)) (by omega)
    have g1 : r2.toNat ≠ a.toNat := fun h => k1 (UInt8.toNat_inj.1 h)
    by_cases k4 : r2 = b
    · subst k4
      by_cases k2 : r1 = 153
      · subst k2
        by_cases k3 : r0 = 226
        · subst k3
          exact irout (ir3b x w a r2 hv hx0 hx2 hE b3 b2 ab) (by omega)
        · have hk : r0.toNat ≠ 226 := fun h => k3 (UInt8.toNat_inj.1 h)
          exact irout (ir3b0 x w a r2 r0 hv hx0 hx2 hE b3 b2 ab (Ne.symm k3)) (by omega)
      · have hk : r1.toNat ≠ 153 := fun h => k2 (UInt8.toNat_inj.1 h)
        exact irout (ir3b1 x w a r2 r0 r1 hv hx0 hx2 hE b3 b2 ab (Ne.symm k2)) (by omega)
    have g2 : r2.toNat ≠ b.toNat := fun h => k4 (UInt8.toNat_inj.1 h)
    by_cases k5 : r2 = 153
    · subst k5
      exact irout (ir3c x w a b r0 r1 hv hx0 hx2 hE a3.symm b3.symm (u8_ne (by omega))) (by omega)
    exact irout (ir3d x w a b r0 r1 r2 hv hx0 hx2 hE (Ne.symm k1) (Ne.symm k4) (Ne.symm k5) (u8_ne (by omega))) (by omega)
  have hE := enc4 (by omega) hv
  have t0 : (UInt8.ofNat (128 + x / 4096 % 64)).toNat = 128 + x / 4096 % 64 := ofNat_toNat (by omega)
  have t1 : (UInt8.ofNat (128 + x / 64 % 64)).toNat = 128 + x / 64 % 64 := ofNat_toNat (by omega)
  have t2 : (UInt8.ofNat (128 + x % 64)).toNat = 128 + x % 64 := ofNat_toNat (by omega)
  generalize UInt8.ofNat (240 + x / 262144) = r0 at *
  generalize UInt8.ofNat (128 + x / 4096 % 64) = r1 at *
  generalize UInt8.ofNat (128 + x / 64 % 64) = r2 at *
  generalize UInt8.ofNat (128 + x % 64) = r3 at *
  have e1 : (226 : UInt8) ≠ r1 := u8_ne (by omega)
  have e2 : (226 : UInt8) ≠ r2 := u8_ne (by omega)
  have e3 : (226 : UInt8) ≠ r3 := u8_ne (by omega)
  by_cases k1 : r3 = 153
  · subst k1
    exact irout (ir4c x w a b r0 r1 r2 hv hx0 hx2 hE a3.symm b3.symm e2) (by omega)
  by_cases k2 : r3 = b
  · subst k2
    by_cases k3 : r2 = 153
    · subst k3
      exact irout (ir4b2 x w a r3 r0 r1 hv hx0 hx2 hE b3 b2 ab e1) (by omega)
    exact irout (ir4b x w a r3 r0 r1 r2 hv hx0 hx2 hE b3 b2 ab (Ne.symm k3)) (by omega)
  exact irout (ir4d x w a b r0 r1 r2 r3 hv hx0 hx2 hE e3 (Ne.symm k1) (Ne.symm k2)) (by omega)

set_option maxHeartbeats 4000000 in
theorem cr_any (a b : UInt8) (c d : Nat) (hd0 : Utf8.decode ⟨#[226, 153, a, 226, 153, b]⟩ 0 = (c, 3)) (hd1 : Utf8.decode ⟨#[226, 153, a, 226, 153, b]⟩ 3 = (d, 3))
    (ha0 : 148 ≤ a.toNat) (ha1 : a.toNat ≤ 152) (hb0 : b.toNat = a.toNat + 6) (hc : c = 9664 + a.toNat) (hd : d = 9664 + b.toNat) (x : Nat) (hx : x ≤ 1114111) (w : World) :
    Calls Tryz.prog 54 #[.string ⟨#[226, 153, a, 226, 153, b]⟩, .int .i32 x] w (RetB (.bool (decide (x = c ∨ x = d))) w) := by
  have hI := fun w1 => ir_any a b c d hd0 hd1 ha0 ha1 hb0 hc hd x hx w1
  have HI := Lib.hid hI
  clear hI hd0 hd1 ha0 ha1 hb0 hc hd hx
  go_enter Tryz.func54, Tryz.ntmps54
  go_wp2_with (go_at_call 91; refine (HI.out _).mono ?_; rintro e w1 ⟨r, rfl, hr, hb⟩)
  go_ret
  exact ⟨congrArg Ending.returned (congrArg Value.bool (by simp)), hb⟩

end Go.Proofs.YthffhhbbhjcdeaaGreatDoor
namespace Go.Proofs.YthffhhbbhjcdeaaGreatDoor
open Go.RowKit
set_option maxRecDepth 100000

def pick5 (q0 q1 q2 q3 q4 : Bool) (x : Int) : Int := if q0 then 75 else if q1 then 81 else if q2 then 82 else if q3 then 66 else if q4 then 78 else x
theorem u75 : Tryz.prog.underlying 75 = some (.array 5 9) := by kernel_rfl
theorem ix75_0 (w : World) : (Instr.index 75 (.agg #[.string ⟨#[226, 153, 148, 226, 153, 154]⟩, .string ⟨#[226, 153, 149, 226, 153, 155]⟩, .string ⟨#[226, 153, 150, 226, 153, 156]⟩, .string ⟨#[226, 153, 151, 226, 153, 157]⟩, .string ⟨#[226, 153, 152, 226, 153, 158]⟩]) (.int .i64 0)).run Tryz.prog w = .ok (.string ⟨#[226, 153, 148, 226, 153, 154]⟩) w := by
  simp [Instr.index, run_underlying u75, asIntOf, go_sem]
theorem ix75_1 (w : World) : (Instr.index 75 (.agg #[.string ⟨#[226, 153, 148, 226, 153, 154]⟩, .string ⟨#[226, 153, 149, 226, 153, 155]⟩, .string ⟨#[226, 153, 150, 226, 153, 156]⟩, .string ⟨#[226, 153, 151, 226, 153, 157]⟩, .string ⟨#[226, 153, 152, 226, 153, 158]⟩]) (.int .i64 1)).run Tryz.prog w = .ok (.string ⟨#[226, 153, 149, 226, 153, 155]⟩) w := by
  simp [Instr.index, run_underlying u75, asIntOf, go_sem]
theorem ix75_2 (w : World) : (Instr.index 75 (.agg #[.string ⟨#[226, 153, 148, 226, 153, 154]⟩, .string ⟨#[226, 153, 149, 226, 153, 155]⟩, .string ⟨#[226, 153, 150, 226, 153, 156]⟩, .string ⟨#[226, 153, 151, 226, 153, 157]⟩, .string ⟨#[226, 153, 152, 226, 153, 158]⟩]) (.int .i64 2)).run Tryz.prog w = .ok (.string ⟨#[226, 153, 150, 226, 153, 156]⟩) w := by
  simp [Instr.index, run_underlying u75, asIntOf, go_sem]
theorem ix75_3 (w : World) : (Instr.index 75 (.agg #[.string ⟨#[226, 153, 148, 226, 153, 154]⟩, .string ⟨#[226, 153, 149, 226, 153, 155]⟩, .string ⟨#[226, 153, 150, 226, 153, 156]⟩, .string ⟨#[226, 153, 151, 226, 153, 157]⟩, .string ⟨#[226, 153, 152, 226, 153, 158]⟩]) (.int .i64 3)).run Tryz.prog w = .ok (.string ⟨#[226, 153, 151, 226, 153, 157]⟩) w := by
  simp [Instr.index, run_underlying u75, asIntOf, go_sem]
theorem ix75_4 (w : World) : (Instr.index 75 (.agg #[.string ⟨#[226, 153, 148, 226, 153, 154]⟩, .string ⟨#[226, 153, 149, 226, 153, 155]⟩, .string ⟨#[226, 153, 150, 226, 153, 156]⟩, .string ⟨#[226, 153, 151, 226, 153, 157]⟩, .string ⟨#[226, 153, 152, 226, 153, 158]⟩]) (.int .i64 4)).run Tryz.prog w = .ok (.string ⟨#[226, 153, 152, 226, 153, 158]⟩) w := by
  simp [Instr.index, run_underlying u75, asIntOf, go_sem]
set_option maxHeartbeats 4000000 in
theorem sign_walk (x : Int) (w : World) (q0 q1 q2 q3 q4 : Bool)
    (c0 : ∀ w1, Calls Tryz.prog 54 #[.string ⟨#[226, 153, 148, 226, 153, 154]⟩, .int .i32 x] w1 (RetB (.bool q0) w1))
    (c1 : ∀ w1, Calls Tryz.prog 54 #[.string ⟨#[226, 153, 149, 226, 153, 155]⟩, .int .i32 x] w1 (RetB (.bool q1) w1))
    (c2 : ∀ w1, Calls Tryz.prog 54 #[.string ⟨#[226, 153, 150, 226, 153, 156]⟩, .int .i32 x] w1 (RetB (.bool q2) w1))
    (c3 : ∀ w1, Calls Tryz.prog 54 #[.string ⟨#[226, 153, 151, 226, 153, 157]⟩, .int .i32 x] w1 (RetB (.bool q3) w1))
    (c4 : ∀ w1, Calls Tryz.prog 54 #[.string ⟨#[226, 153, 152, 226, 153, 158]⟩, .int .i32 x] w1 (RetB (.bool q4) w1)) :
    Calls Tryz.prog 53 #[.int .i32 x] w (RetB (.int .i32 (pick5 q0 q1 q2 q3 q4 x)) w) := by
  have C0 := Lib.hid c0
  have C1 := Lib.hid c1
  have C2 := Lib.hid c2
  have C3 := Lib.hid c3
  have C4 := Lib.hid c4
  clear c0 c1 c2 c3 c4
  have x0 := ix75_0
  have x1 := ix75_1
  have x2 := ix75_2
  have x3 := ix75_3
  have x4 := ix75_4
  have x0 := ix75_0
  have x1 := ix75_1
  have x2 := ix75_2
  have x3 := ix75_3
  have x4 := ix75_4
  have x0 := ix75_0
  have x1 := ix75_1
  have x2 := ix75_2
  have x3 := ix75_3
  have x4 := ix75_4
  have x0 := ix75_0
  have x1 := ix75_1
  have x2 := ix75_2
  have x3 := ix75_3
  have x4 := ix75_4
  go_enter Tryz.func53, Tryz.ntmps53
  go_wp2
  refine wp_loop_rounds 6 ?_
  cases q0
  case true =>
    rw [rounds_succ]
    go_wp2_with (go_at_call 54; refine (C0.out _).mono ?_; rintro e w1 ⟨rfl, hb1⟩)
    go_ret
    exact ⟨congrArg (fun z => Ending.returned (Value.int IntKind.i32 z)) (show _ = (75 : Int) by decide +kernel), hb1⟩
  rw [rounds_succ]
  go_wp2_with (go_at_call 54; refine (C0.out _).mono ?_; rintro e w1 ⟨rfl, hb1⟩)
  cases q1
  case true =>
    rw [rounds_succ]
    go_wp2_with (go_at_call 54; refine (C1.out _).mono ?_; rintro e w2 ⟨rfl, hb2⟩)
    have k2 := hb1.trans (hb2.mono hb1.size)
    go_ret
    exact ⟨congrArg (fun z => Ending.returned (Value.int IntKind.i32 z)) (show _ = (81 : Int) by decide +kernel), k2⟩
  rw [rounds_succ]
  go_wp2_with (go_at_call 54; refine (C1.out _).mono ?_; rintro e w2 ⟨rfl, hb2⟩)
  have k2 := hb1.trans (hb2.mono hb1.size)
  cases q2
  case true =>
    rw [rounds_succ]
    go_wp2_with (go_at_call 54; refine (C2.out _).mono ?_; rintro e w3 ⟨rfl, hb3⟩)
    have k3 := k2.trans (hb3.mono k2.size)
    go_ret
    exact ⟨congrArg (fun z => Ending.returned (Value.int IntKind.i32 z)) (show _ = (82 : Int) by decide +kernel), k3⟩
  rw [rounds_succ]
  go_wp2_with (go_at_call 54; refine (C2.out _).mono ?_; rintro e w3 ⟨rfl, hb3⟩)
  have k3 := k2.trans (hb3.mono k2.size)
  cases q3
  case true =>
    rw [rounds_succ]
    go_wp2_with (go_at_call 54; refine (C3.out _).mono ?_; rintro e w4 ⟨rfl, hb4⟩)
    have k4 := k3.trans (hb4.mono k3.size)
    go_ret
    exact ⟨congrArg (fun z => Ending.returned (Value.int IntKind.i32 z)) (show _ = (66 : Int) by decide +kernel), k4⟩
  rw [rounds_succ]
  go_wp2_with (go_at_call 54; refine (C3.out _).mono ?_; rintro e w4 ⟨rfl, hb4⟩)
  have k4 := k3.trans (hb4.mono k3.size)
  cases q4
  case true =>
    rw [rounds_succ]
    go_wp2_with (go_at_call 54; refine (C4.out _).mono ?_; rintro e w5 ⟨rfl, hb5⟩)
    have k5 := k4.trans (hb5.mono k4.size)
    go_ret
    exact ⟨congrArg (fun z => Ending.returned (Value.int IntKind.i32 z)) (show _ = (78 : Int) by decide +kernel), k5⟩
  rw [rounds_succ]
  go_wp2_with (go_at_call 54; refine (C4.out _).mono ?_; rintro e w5 ⟨rfl, hb5⟩)
  have k5 := k4.trans (hb5.mono k4.size)
  rw [rounds_succ]
  go_wp2
  go_ret
  exact ⟨rfl, k5⟩

theorem sign_any (x : Nat) (hx : x ≤ 1114111) (w : World) : Calls Tryz.prog 53 #[.int .i32 x] w (RetB (.int .i32 (pieceF x)) w) := by
  have h := sign_walk (x : Int) w _ _ _ _ _
    (fun w1 => cr_any 148 154 9812 9818 (by decide +kernel) (by decide +kernel) (by decide) (by decide) (by decide) (by decide) (by decide) x hx w1)
    (fun w1 => cr_any 149 155 9813 9819 (by decide +kernel) (by decide +kernel) (by decide) (by decide) (by decide) (by decide) (by decide) x hx w1)
    (fun w1 => cr_any 150 156 9814 9820 (by decide +kernel) (by decide +kernel) (by decide) (by decide) (by decide) (by decide) (by decide) x hx w1)
    (fun w1 => cr_any 151 157 9815 9821 (by decide +kernel) (by decide +kernel) (by decide) (by decide) (by decide) (by decide) (by decide) x hx w1)
    (fun w1 => cr_any 152 158 9816 9822 (by decide +kernel) (by decide +kernel) (by decide) (by decide) (by decide) (by decide) (by decide) x hx w1)
  have he : pick5 (decide (x = 9812 ∨ x = 9818)) (decide (x = 9813 ∨ x = 9819)) (decide (x = 9814 ∨ x = 9820)) (decide (x = 9815 ∨ x = 9821)) (decide (x = 9816 ∨ x = 9822)) x = pieceF x := by
    have k : ∀ n : Nat, ((x : Int) = n) = (x = n) := fun n => propext (by omega)
    unfold pick5 pieceF
    simp only [decide_eq_true_eq]
    repeat' split
    all_goals omega
  rw [he] at h
  exact h

end Go.Proofs.YthffhhbbhjcdeaaGreatDoor
