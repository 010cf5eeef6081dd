/- WALKS: the reference's ParseWord. -/
import Derived.Test.YthffhhbbhjcdeaaGreatDoorA12
import Derived.Test.YthffhhbbhjcdeaaGreatDoorA13
import Derived.Test.YthffhhbbhjcdeaaGreatDoorA7
import Derived.Deep.RegionHeld3
set_option linter.unusedVariables false
set_option linter.unusedSimpArgs false
namespace Go.Proofs.YthffhhbbhjcdeaaGreatDoor
open Go.RowKit
set_option maxRecDepth 100000

/-- What holds of a position that may be played. -/
structure PosM (p : Pos) : Prop where
  ok : PosOk p
  king : ∀ fr tg, fr < 64 → tg < 64 → okGo p fr tg = true → HasKing (doneL p ⟨fr, tg, 0⟩) p.turn
  mem : ∀ q, q ∈ movesR p → q.fr < 64 ∧ q.tg < 64 ∧ 0 ≤ q.into ∧ q.into ≤ 5
  nextOk : ∀ q, q ∈ movesR p → PosOk (doneR p q)
  nextKing : ∀ q, q ∈ movesR p → HasKing (doneL p q) (1 - p.turn)
  nextGo : ∀ q, q ∈ movesR p → ∀ fr tg, fr < 64 → tg < 64 → okGo (doneR p q) fr tg = true → HasKing (doneL (doneR p q) ⟨fr, tg, 0⟩) (doneR p q).turn

def signL (i : Nat) : List UInt8 := (([[226, 153, 148], [226, 153, 149], [226, 153, 150], [226, 153, 151], [226, 153, 152], [226, 153, 154], [226, 153, 155], [226, 153, 156], [226, 153, 157], [226, 153, 158]] : List (List UInt8))[i]?).getD []
def kindL (i : Nat) : List UInt8 := (([75, 81, 82, 66, 78] : List UInt8).drop (i % 5)).take 1
def putOne (s : List UInt8) (i : Nat) : List UInt8 := replL (signL i) (kindL i) (s.length + 1) s
/-- The signs become letters. -/
def putL (s : List UInt8) : Nat → List UInt8
  | 0 => s
  | n + 1 => putOne (putL s n) n
theorem replL_le (old into : List UInt8) (hio : into.length ≤ old.length) (h1 : 1 ≤ old.length) : ∀ (f : Nat) (s : List UInt8), (replL old into f s).length ≤ s.length
  | 0, _ => by simp [replL]
  | f + 1, [] => by simp [replL]
  | f + 1, c :: r => by
    unfold replL
    split
    · rename_i h
      have h2 : old.length ≤ (c :: r).length := by rw [← h]; exact List.length_take_le' _ _
      have := replL_le old into hio h1 f ((c :: r).drop old.length)
      simp only [List.length_append, List.length_drop] at *
      omega
    · have := replL_le old into hio h1 f r
      simp only [List.length_cons]; omega
theorem signL_len {i : Nat} (h : i < 10) : (signL i).length = 3 := by
  have : ∀ i, i < 10 → (signL i).length = 3 := by decide
  exact this i h
theorem kindL_len (i : Nat) : (kindL i).length = 1 := by
  have h : i % 5 < 5 := Nat.mod_lt _ (by decide)
  unfold kindL
  generalize i % 5 = k at h
  have : ∀ k, k < 5 → ((([75, 81, 82, 66, 78] : List UInt8).drop k).take 1).length = 1 := by decide
  exact this k h
theorem putL_le (s : List UInt8) : ∀ n, n ≤ 10 → (putL s n).length ≤ s.length
  | 0, _ => Nat.le_refl _
  | n + 1, h => Nat.le_trans (replL_le _ _ (by rw [kindL_len, signL_len (by omega)]; omega) (by rw [signL_len (by omega)]; omega) _ _) (putL_le s n (by omega))

def zeroL (s : List UInt8) : List UInt8 := replL [79] [48] (s.length + 1) s
/-- Is a move written so? -/
def wordHit (p : Pos) (s : List UInt8) (m : Mv) : Bool :=
  (s == plainL p m || s == plainL p m ++ endL p m) || ((plainL p m).headD 0 == 79 && (s == zeroL (plainL p m) || s == zeroL (plainL p m ++ endL p m)))
def parseL (p : Pos) (s : List UInt8) : Option Mv := (movesR p).find? (wordHit p (putL s 10))
def parseV (o : Option Mv) : Value := match o with | some m => .tuple #[mvV m, .bool true] | none => .tuple #[mvV ⟨0, 0, 0⟩, .bool false]

def signCells : Array Value := #[strV (signL 0), strV (signL 1), strV (signL 2), strV (signL 3), strV (signL 4), strV (signL 5), strV (signL 6), strV (signL 7), strV (signL 8), strV (signL 9)]
theorem signCells_get {i : Nat} (h : i < 10) : signCells[i]? = some (strV (signL i)) := by
  match i, h with
  | 0, _ | 1, _ | 2, _ | 3, _ | 4, _ | 5, _ | 6, _ | 7, _ | 8, _ | 9, _ => rfl

theorem replaced_sign (t : List UInt8) (k : Nat) (w : World) (hk : k < 10) (ht : t.length ≤ 4000000) :
    Calls Tryz.prog 28 #[.string ⟨t.toArray⟩, .string ⟨(signL k).toArray⟩, .string ((ByteArray.mk #[75, 81, 82, 66, 78]).extract (k % 5) (k % 5 + 1))] w (RetW (strV (putOne t k)) w) := by
  have he : (ByteArray.mk #[75, 81, 82, 66, 78]).extract (k % 5) (k % 5 + 1) = ⟨(kindL k).toArray⟩ := bytes_cut [75, 81, 82, 66, 78] (k % 5) 1
  rw [he]
  exact replaced_any t (signL k) (kindL k) w (by rw [signL_len hk]; omega) (by rw [signL_len hk, kindL_len]; omega) (by rw [signL_len hk]; omega) ht

theorem find_at {l : List Mv} {f : Mv → Bool} {k : Nat} (hk : k < l.length) (h : f (mvAt l k) = true) (hz : ∀ i, i < k → f (mvAt l i) = false) : l.find? f = some (mvAt l k) := by
  have he : mvAt l k = l[k] := by simp [mvAt, hk]
  rw [he] at h ⊢
  rw [List.find?_eq_some_iff_getElem]
  refine ⟨h, k, hk, rfl, fun i hi => ?_⟩
  have := hz i hi
  have hi2 : i < l.length := by omega
  have he2 : mvAt l i = l[i] := by simp [mvAt, hi2]
  rw [he2] at this
  simp [this]
theorem find_no {l : List Mv} {f : Mv → Bool} (hz : ∀ i, i < l.length → f (mvAt l i) = false) : l.find? f = none := by
  rw [List.find?_eq_none]
  intro x hx
  obtain ⟨i, hi, rfl⟩ := List.getElem_of_mem hx
  have := hz i hi
  have he2 : mvAt l i = l[i] := by simp [mvAt, hi]
  rw [he2] at this
  simp [this]

theorem run_move {w : World} {k : Nat} {c0 c1 c2 : Value} (h : Blk w k #[c0, c1, c2]) :
    (loadVar 26 ⟨k, 0, none⟩).run Tryz.prog w = .ok (.agg #[c0, c1, c2]) w := by
  have h0 := h.cell (o := 0) (v := c0) rfl
  have h1 := h.cell (o := 1) (v := c1) rfl
  have h2 := h.cell (o := 2) (v := c2) rfl
  go_simp
theorem ret_moveB {fn : Func} {p q k : Nat} {tmps : Array Value} {w : World} {c0 c1 c2 v : Value} (hr : fn.results = #[.cell p 26, .tmp q]) (hp : tmps.getD p undef = .pointer (some ⟨k, 0, none⟩)) (hq : tmps.getD q undef = v) (h : Blk w k #[c0, c1, c2]) :
    (results fn tmps).run Tryz.prog w = .ok (.tuple #[.agg #[c0, c1, c2], v]) w := by
  have hrun := run_move h
  have hp' : tmps[p]?.getD undef = .pointer (some ⟨k, 0, none⟩) := by simpa using hp
  have hq' : tmps[q]?.getD undef = v := by simpa using hq
  simp only [results, hr]
  simp [Sem.run_bind, Result.andThen, hp', hq', hrun, asAddr]

theorem plainL_le (p : Pos) (m : Mv) : (plainL p m).length ≤ 9 := by
  have h := headL_le p m
  have h2 := letterL_le m.into.toNat
  unfold plainL
  split
  · split <;> decide
  · have hi : (intoL m).length ≤ 2 := by unfold intoL; split <;> simp <;> omega
    have ht : (if takesB p m then [(120 : UInt8)] else []).length ≤ 1 := by split <;> simp
    simp only [List.length_append, nameL, List.length_cons, List.length_nil]
    omega
theorem plainL_pos (p : Pos) (m : Mv) : 2 ≤ (plainL p m).length := by
  unfold plainL
  split
  · split <;> decide
  · simp only [List.length_append, nameL, List.length_cons, List.length_nil]
    omega
theorem endL_le (p : Pos) (m : Mv) : (endL p m).length ≤ 1 := by
  unfold endL; split
  · split <;> simp
  · simp

theorem MvSl.get {w : World} {b off n c : Nat} {l : List Mv} (h : MvSl w (.slice (some ⟨b, off, none⟩) n c) l) (k : Nat) (hk : k < l.length) :
    w.cell? ⟨b, off + k * 3, none⟩ = some (.int .i64 (mvAt l k).fr) ∧ w.cell? ⟨b, off + k * 3 + 1, none⟩ = some (.int .i64 (mvAt l k).tg) ∧ w.cell? ⟨b, off + k * 3 + 2, none⟩ = some (.int .i64 (mvAt l k).into) := by
  rcases h with ⟨hv, h0⟩ | ⟨b2, off2, cap2, hv, hr⟩
  · rw [h0] at hk; simp at hk
  · injection hv with ea en ec
    injection ea with ea
    injection ea with ea1 ea2
    subst ea1 ea2
    exact hr.get k hk

theorem zero_any (a : List UInt8) (w : World) (ha : a.length ≤ 10) :
    Calls Tryz.prog 28 #[.string ⟨a.toArray⟩, .string ⟨#[79]⟩, .string ⟨#[48]⟩] w (RetW (.string ⟨(zeroL a).toArray⟩) w) :=
  replaced_any a [79] [48] w (by decide) (by decide) (by decide) (by omega)

structure PRS (w wx : World) (b off cap : Nat) (p : Pos) : Prop where
  kP : Blk wx w.heap.size #[.slice (some ⟨b, off, none⟩) 64 cap, .int .i64 p.turn, .int .i64 p.castle, .int .i64 p.ep, .int .i64 p.half, .int .i64 p.full]
  kR : Blk wx (w.heap.size + 1) #[.int .i64 0, .int .i64 0, .int .i64 0]
  below : Below w.heap.size w wx
theorem PRS.trans {w wx w1 : World} {b off cap : Nat} {p : Pos} (h : PRS w wx b off cap p) (hb : Below wx.heap.size wx w1) : PRS w w1 b off cap p :=
  ⟨h.kP.below hb h.kP.lt, h.kR.below hb h.kR.lt, h.below.trans (hb.mono h.below.size)⟩
theorem PRS.drewN {w wx : World} {b off cap : Nat} {p : Pos} (h : PRS w wx b off cap p) (n : Nat) : PRS w (wx.drewN n) b off cap p := h.trans (below_drewN (Below.refl _ _) n)
theorem PRS.old {w wx : World} {b off cap : Nat} {p : Pos} (h : PRS w wx b off cap p) (hbr : Brd w b off p.L) : Brd wx b off p.L := hbr.below h.below hbr.lt

set_option maxHeartbeats 4000000 in
theorem parseWord_any (b off cap : Nat) (p : Pos) (s : List UInt8) (w : World) (hbr : Brd w b off p.L) (hm : PosM p) (hs : s.length ≤ 4000000) :
    Calls Tryz.prog 9 #[chessV b off cap p, strV s] w (RetB (parseV (parseL p s)) w) := by
  have hlt := hbr.lt
  unfold chessV strV
  go_enter Tryz.func9, Tryz.ntmps9
  go_upto_block 0 with fail
  generalize hW0 : World.alloc _ _ = W0
  have hS : PRS w W0 b off cap p := by
    rw [← hW0]; exact ⟨((Blk.new w _ _).alloc _).alloc _, (Blk.new' (by simp) _ _).alloc _, (((Below.refl _ _).alloc (Nat.le_refl _) _).alloc (by simp) _).alloc (by simp; omega) _⟩
  have hG : Blk W0 (w.heap.size + 1 + 1) signCells := by rw [← hW0]; exact Blk.new' (by simp) _ _
  clear hW0
  go_cut [1] from 13 to 13 (fun s1 wx => s1 = strV (putL s 10) ∧ PRS w wx b off cap p)
  case first =>
    go_wp2_with fail
    go_loopg [1, 7] 10 (fun gh s1 s7 wx => ∃ k : Nat, k ≤ 10 ∧ gh = 10 - k ∧ s7 = .int .i64 k ∧ s1 = strV (putL s k) ∧ Blk wx (w.heap.size + 1 + 1) signCells ∧ PRS w wx b off cap p)
    case atStart => exact ⟨0, by omega, rfl, rfl, rfl, hG, hS⟩
    case round =>
    clear hS hG
    obtain ⟨k, hk, hg, rfl, rfl, hG, hS⟩ := hrel
    have Hg := Lib.hid hg
    clear hg
    by_cases hk10 : k = 10
    · subst hk10
      go_wp2
      go_meet
      exact ⟨rfl, hS⟩
    have hklt : k < 10 := by omega
    have hdk : decide ((k : Int) < 10) = true := by simp; omega
    clear hk10 hk
    have hc := hG.cell (signCells_get hklt)
    have hki : (k : Int) < 10 := by omega
    have hpl := putL_le s k (by omega)
    have hput : putL s (k + 1) = putOne (putL s k) k := rfl
    have Hput := Lib.hid hput
    clear hput
    generalize putL s k = t at *
    unfold strV at *
    go_upto_block 1 with fail
    have hrep := replaced_sign t k
    have Hrep := Lib.hid hrep
    clear hrep
    have htl : t.length ≤ 4000000 := by omega
    go_cut [1] from 19 to 19 (fun s1 wx => s1 = strV (putL s (k + 1)) ∧ Blk wx (w.heap.size + 1 + 1) signCells ∧ PRS w wx b off cap p)
    case first =>
      go_wp2_with fail
      go_quiet ((go_at_call 28; exact quiet_retW (Hrep.out _ hklt htl)))
      go_wp2
      go_meet
      exact ⟨by rw [Hput.out], hG.below (below_drewN (Below.refl _ _) _) hG.lt, hS.drewN _⟩
    case rest =>
    clear hS hG hc
    obtain ⟨rfl, hG, hS⟩ := hcut
    go_wp2
    go_roundg (10 - (k + 1))
    case measure => have := Hg.out; omega
    case rel => exact ⟨k + 1, by omega, rfl, by go_num, rfl, hG, hS⟩
  case rest =>
  clear hS hG
  obtain ⟨rfl, hS⟩ := hcut
  have htl : (putL s 10).length ≤ 4000000 := Nat.le_trans (putL_le s 10 (Nat.le_refl _)) hs
  have hpar : parseL p s = (movesR p).find? (wordHit p (putL s 10)) := rfl
  have Hpar := Lib.hid hpar
  clear hpar
  generalize putL s 10 = t at *
  unfold strV
  go_upto_region 6 with fail
  go_cut [8] from 31 to 31 (fun s8 wx => MvSl wx s8 (movesR p) ∧ (∃ a n c, s8 = .slice a n c ∧ n = (movesR p).length) ∧ PRS w wx b off cap p)
  case first =>
    have p0 := hS.kP.cell (o := 0) rfl
    have p1 := hS.kP.cell (o := 1) rfl
    have p2 := hS.kP.cell (o := 2) rfl
    have p3 := hS.kP.cell (o := 3) rfl
    have p4 := hS.kP.cell (o := 4) rfl
    have p5 := hS.kP.cell (o := 5) rfl
    go_wp2_with (go_at_call 11; refine (movesAll_any b off cap p _ (hS.old hbr) hm.ok hm.king).mono ?_; rintro e w1 ⟨v, rfl, hown, hb1⟩)
    go_meet
    obtain ⟨a, c, hv⟩ := ownsRow_slice hown
    exact ⟨MvSl.of_row hown, ⟨a, _, c, hv, rfl⟩, hS.trans hb1⟩
  case rest =>
  clear hS
  obtain ⟨hl, ⟨a, n, c, rfl, hn⟩, hS⟩ := hcut
  have Hn := Lib.hid hn
  clear hn
  have hnb : n ≤ 20000 := by rw [Hn.out]; have := movesUpto_le p 64; rw [movesR]; omega
  go_wp2_with fail
  go_loopg [9] n (fun gh s9 wx => ∃ k : Nat, k ≤ n ∧ gh = n - k ∧ s9 = .int .i64 k ∧ (∀ i, i < k → wordHit p t (mvAt (movesR p) i) = false) ∧ MvSl wx (.slice a n c) (movesR p) ∧ PRS w wx b off cap p)
  case atStart => exact ⟨0, by omega, rfl, rfl, by intro i h; omega, hl, hS⟩
  case round =>
  clear hS hl
  obtain ⟨k, hk, hg, rfl, hz, hl, hS⟩ := hrel
  have Hg := Lib.hid hg
  have Hz := Lib.hid hz
  clear hg hz
  by_cases hkn : k = n
  · subst hkn
    have r0 := hS.kR.cell (o := 0) rfl
    have r1 := hS.kR.cell (o := 1) rfl
    have r2 := hS.kR.cell (o := 2) rfl
    have f0 := hS.kR.free 0
    have f1 := hS.kR.free 1
    have f2 := hS.kR.free 2
    go_wp2
    have hR2 := ((hS.kR.set 0 (.int .i64 0)).set 1 (.int .i64 0)).set 2 (.int .i64 0)
    refine bodyPost_ret (ret_moveB rfl rfl rfl hR2) rfl ⟨?_, ?_⟩
    · rw [Hpar.out, find_no (fun i hi => Hz.out i (by rw [Hn.out]; exact hi))]; rfl
    · iterate 3 refine Below.setCell ?_ (by simp) _
      exact hS.below
  have hkl : k < n := by omega
  have hkm : k < (movesR p).length := by rw [← Hn.out]; exact hkl
  have Hkm := Lib.hid hkm
  clear hkn hk hkm
  obtain ⟨bq, oq, cq, hv, hr⟩ : ∃ bq oq cq, Value.slice a n c = .slice (some ⟨bq, oq, none⟩) (movesR p).length cq ∧ MvRow wr bq oq (movesR p) := by
    rcases hl with ⟨hv, h0⟩ | h
    · exact absurd Hkm.out (by rw [h0]; simp)
    · exact h
  injection hv with ea en ec
  subst ea
  clear en ec
  have hmem := mvAt_mem Hkm.out
  obtain ⟨hq1, hq2, hq3, hq4⟩ := hm.mem _ hmem
  have hki : (k : Int) < n := by omega
  generalize hmv : mvAt (movesR p) k = m at *
  have Hmv := Lib.hid hmv
  clear hmv
  have hPW := plainWord_any b off cap p m
  have hWE := wordEnd_any b off cap p m
  have HPW := Lib.hid hPW
  have HWE := Lib.hid hWE
  clear hPW hWE
  go_upto_block 3 with fail
  go_cut [10] from 39 to 39 (fun s10 wx => wordHit p t m = false ∧ MvSl wx (.slice (some ⟨bq, oq, none⟩) n c) (movesR p) ∧ PRS w wx b off cap p)
  case rest =>
    clear hS hl
    obtain ⟨hwh, hl, hS⟩ := hcut
    go_wp2
    go_roundg (n - (k + 1))
    case measure => have := Hg.out; omega
    case rel => exact ⟨k + 1, by omega, rfl, by go_num, fun i hi => by rcases Nat.lt_or_eq_of_le (Nat.le_of_lt_succ hi) with h | rfl; exact Hz.out i h; rw [Hmv.out]; exact hwh, hl, hS⟩
  case first =>
  have p0 := hS.kP.cell (o := 0) rfl
  have p1 := hS.kP.cell (o := 1) rfl
  have p2 := hS.kP.cell (o := 2) rfl
  have p3 := hS.kP.cell (o := 3) rfl
  have p4 := hS.kP.cell (o := 4) rfl
  have p5 := hS.kP.cell (o := 5) rfl
  obtain ⟨g0, g1, g2⟩ := hr.get k Hkm.out
  rw [Hmv.out] at g0 g1 g2
  go_upto_region 10 with fail
  go_cut [10] from 39 to 39 (fun s10 wx => s10 = strV (plainL p m) ∧ MvSl wx (.slice (some ⟨bq, oq, none⟩) n c) (movesR p) ∧ PRS w wx b off cap p)
  case first =>
    refine wp_still_tail_drew 5 (by kernel_rfl) (by kernel_rfl) ?_
    rintro _ rfl
    simp only [List.take_succ_cons, List.take_zero, List.drop_succ_cons, List.drop_zero]
    repeat still_step
    refine wpStill_nil ?_
    go_wp2_with (go_at_call 12; refine (HPW.out _ ((hS.drewN 1).old hbr) hm.ok hq1 hq2 hq3 hq4 hm.king (fun q h => ⟨(hm.mem q h).1, (hm.mem q h).2.1⟩)).mono ?_; rintro e w1 ⟨rfl, hb1⟩)
    go_meet
    exact ⟨rfl, (hl.below (below_drewN (Below.refl _ _) 1)).below hb1, (hS.drewN 1).trans hb1⟩
  case rest =>
  clear hS hl hr p0 p1 p2 p3 p4 p5 g0 g1 g2
  obtain ⟨rfl, hl, hS⟩ := hcut
  have hl9 := plainL_le p m
  have hl2 := plainL_pos p m
  have he1 := endL_le p m
  have hwh : wordHit p t m = ((t == plainL p m || t == plainL p m ++ endL p m) || ((plainL p m).headD 0 == 79 && (t == zeroL (plainL p m) || t == zeroL (plainL p m ++ endL p m)))) := rfl
  have Hwh := Lib.hid hwh
  clear hwh
  have Hnk := Lib.hid (hm.nextKing m hmem)
  generalize plainL p m = pl at *
  generalize hel : endL p m = el at *
  have Hel := Lib.hid hel
  clear hel
  unfold strV
  obtain ⟨g0, g1, g2⟩ := hl.get k Hkm.out
  rw [Hmv.out] at g0 g1 g2
  have p0 := hS.kP.cell (o := 0) rfl
  have p1 := hS.kP.cell (o := 1) rfl
  have p2 := hS.kP.cell (o := 2) rfl
  have p3 := hS.kP.cell (o := 3) rfl
  have p4 := hS.kP.cell (o := 4) rfl
  have p5 := hS.kP.cell (o := 5) rfl
  go_upto_region 11 with fail
  go_cut [11] from 45 to 45 (fun s11 wx => s11 = strV (pl ++ el) ∧ MvSl wx (.slice (some ⟨bq, oq, none⟩) n c) (movesR p) ∧ PRS w wx b off cap p)
  case first =>
    have hS0 := hS.drewN 1
    have hCE : Calls Tryz.prog 13 #[.agg #[.slice (some ⟨b, off, none⟩) 64 cap, .int .i64 p.turn, .int .i64 p.castle, .int .i64 p.ep, .int .i64 p.half, .int .i64 p.full], .agg #[.int .i64 m.fr, .int .i64 m.tg, .int .i64 m.into]] wc.drew
        fun e w1 => e = .returned (.string ⟨el.toArray⟩) ∧ MvSl w1 (.slice (some ⟨bq, oq, none⟩) n c) (movesR p) ∧ PRS w w1 b off cap p := by
      refine (HWE.out wc.drew (hS0.old hbr) hm.ok hq1 hq2 hq3 hq4 (hm.nextOk m hmem) (hm.nextKing m hmem) (hm.nextGo m hmem)).mono ?_
      rintro e w1 ⟨rfl, hb1⟩
      exact ⟨rfl, (hl.below (below_drewN (Below.refl _ _) 1)).below hb1, hS0.trans hb1⟩
    have HCE := Lib.hid hCE
    clear hCE hS0
    have hsum : ¬ 9223372036854775807 < pl.length + el.length := by omega
    go_region_held3 (fun w' => w'.cell? ⟨w.heap.size, 0, none⟩ = some (.slice (some ⟨b, off, none⟩) 64 cap) ∧ w'.cell? ⟨w.heap.size, 1, none⟩ = some (.int .i64 p.turn) ∧ w'.cell? ⟨w.heap.size, 2, none⟩ = some (.int .i64 p.castle) ∧ w'.cell? ⟨w.heap.size, 3, none⟩ = some (.int .i64 p.ep) ∧ w'.cell? ⟨w.heap.size, 4, none⟩ = some (.int .i64 p.half) ∧ w'.cell? ⟨w.heap.size, 5, none⟩ = some (.int .i64 p.full) ∧ w'.cell? ⟨bq, oq + k * 3, none⟩ = some (.int .i64 m.fr) ∧ w'.cell? ⟨bq, oq + k * 3 + 1, none⟩ = some (.int .i64 m.tg) ∧ w'.cell? ⟨bq, oq + k * 3 + 2, none⟩ = some (.int .i64 m.into)) (first | exact ⟨hS1.kP.cell rfl, hS1.kP.cell rfl, hS1.kP.cell rfl, hS1.kP.cell rfl, hS1.kP.cell rfl, hS1.kP.cell rfl, k0, k1, k2⟩ | go_keep)
      (first
        | (go_at_call 13; refine HCE.out.mono ?_; rintro e w1 ⟨rfl, hl1, hS1⟩; obtain ⟨k0, k1, k2⟩ := hl1.get k Hkm.out; rw [Hmv.out] at k0 k1 k2))
    go_wp2
    go_meet
    exact ⟨congrArg Value.string (bytes_app _ _), hl1, hS1⟩
  case rest =>
  clear hS hl p0 p1 p2 p3 p4 p5 g0 g1 g2
  obtain ⟨rfl, hl, hS⟩ := hcut
  obtain ⟨g0, g1, g2⟩ := hl.get k Hkm.out
  rw [Hmv.out] at g0 g1 g2
  have r0 := hS.kR.cell (o := 0) rfl
  have r1 := hS.kR.cell (o := 1) rfl
  have r2 := hS.kR.cell (o := 2) rfl
  have f0 := hS.kR.free 0
  have f1 := hS.kR.free 1
  have f2 := hS.kR.free 2
  unfold strV
  have hae : (pl ++ el).length ≤ 10 := by rw [List.length_append]; omega
  have hae2 : 2 ≤ (pl ++ el).length := by rw [List.length_append]; omega
  generalize hall : pl ++ el = al at *
  cases e1 : (t == pl)
  case true =>
    go_wp2
    have hR2 := ((hS.kR.set 0 (.int .i64 m.fr)).set 1 (.int .i64 m.tg)).set 2 (.int .i64 m.into)
    refine bodyPost_ret (ret_moveB rfl rfl rfl hR2) rfl ⟨?_, ?_⟩
    · have hw : wordHit p t m = true := by rw [Hwh.out, e1]; rfl
      rw [Hpar.out, find_at Hkm.out (by rw [Hmv.out]; exact hw) Hz.out, Hmv.out]; rfl
    · iterate 3 refine Below.setCell ?_ (by simp) _
      exact hS.below
  case false =>
  cases e2 : (t == al)
  case true =>
    go_wp2
    have hR2 := ((hS.kR.set 0 (.int .i64 m.fr)).set 1 (.int .i64 m.tg)).set 2 (.int .i64 m.into)
    refine bodyPost_ret (ret_moveB rfl rfl rfl hR2) rfl ⟨?_, ?_⟩
    · have hw : wordHit p t m = true := by rw [Hwh.out, e1, e2]; rfl
      rw [Hpar.out, find_at Hkm.out (by rw [Hmv.out]; exact hw) Hz.out, Hmv.out]; rfl
    · iterate 3 refine Below.setCell ?_ (by simp) _
      exact hS.below
  case false =>
  obtain ⟨x, rest, hx⟩ : ∃ x r, pl = x :: r := by
    cases pl with
    | nil => simp at hl2
    | cons x r => exact ⟨x, r, rfl⟩
  subst hx
  have hx1 : 0 < (x :: rest).length := by simp
  have hl9' : (x :: rest).length ≤ 10 := by omega
  have hxe : ((x :: rest).headD 0 == 79) = ((x.toNat : Int) == 79) := by
    rw [Bool.eq_iff_iff]; simp only [beq_iff_eq, List.headD_cons]
    constructor
    · rintro rfl; rfl
    · intro h; exact UInt8.toNat_inj.1 (by show x.toNat = 79; omega)
  have Hxe := Lib.hid hxe
  clear hxe
  go_upto_region 14 with fail
  have hsz0 : 0 < (ByteArray.mk (x :: rest).toArray).size := by show 0 < (x :: rest).toArray.size; simp
  by_cases e3 : ((((ByteArray.mk (x :: rest).toArray)[0]'hsz0).toNat : Nat) : Int) = 79
  case neg =>
    have e3' : ((x.toNat : Int) == 79) = false := by rw [beq_eq_false_iff_ne]; exact e3
    have E3 := Lib.hid e3'
    clear e3'
    go_wp2
    go_meet
    exact ⟨by rw [Hwh.out, Hxe.out, e1, e2, E3.out]; rfl, hl, hS⟩
  case pos =>
  have e3' : ((x.toNat : Int) == 79) = true := by rw [beq_iff_eq]; exact e3
  have E3 := Lib.hid e3'
  clear e3'
  cases e4 : (t == zeroL (x :: rest))
  case true =>
    go_wp2_with (go_at_call 28; refine (zero_any _ _ (by first | exact hl9' | exact hae)).mono ?_; rintro e w' ⟨rfl, rfl⟩)
    have hR2 := ((hS.kR.set 0 (.int .i64 m.fr)).set 1 (.int .i64 m.tg)).set 2 (.int .i64 m.into)
    refine bodyPost_ret (ret_moveB rfl rfl rfl hR2) rfl ⟨?_, ?_⟩
    · have hw : wordHit p t m = true := by rw [Hwh.out, e1, e2, Hxe.out, E3.out, e4]; rfl
      rw [Hpar.out, find_at Hkm.out (by rw [Hmv.out]; exact hw) Hz.out, Hmv.out]; rfl
    · iterate 3 refine Below.setCell ?_ (by simp) _
      exact hS.below
  case false =>
  cases e5 : (t == zeroL al)
  case true =>
    go_wp2_with (go_at_call 28; refine (zero_any _ _ (by first | exact hl9' | exact hae)).mono ?_; rintro e w' ⟨rfl, rfl⟩)
    have hR2 := ((hS.kR.set 0 (.int .i64 m.fr)).set 1 (.int .i64 m.tg)).set 2 (.int .i64 m.into)
    refine bodyPost_ret (ret_moveB rfl rfl rfl hR2) rfl ⟨?_, ?_⟩
    · have hw : wordHit p t m = true := by rw [Hwh.out, e1, e2, Hxe.out, E3.out, e4, e5]; rfl
      rw [Hpar.out, find_at Hkm.out (by rw [Hmv.out]; exact hw) Hz.out, Hmv.out]; rfl
    · iterate 3 refine Below.setCell ?_ (by simp) _
      exact hS.below
  case false =>
    go_wp2_with (go_at_call 28; refine (zero_any _ _ (by first | exact hl9' | exact hae)).mono ?_; rintro e w' ⟨rfl, rfl⟩)
    go_meet
    exact ⟨by rw [Hwh.out, Hxe.out, e1, e2, E3.out, e4, e5]; rfl, hl, hS⟩

end Go.Proofs.YthffhhbbhjcdeaaGreatDoor
