/- WALKS: the program's pawn: the moves of a pawn are told. -/
import Derived.Test.YthffhhbbhjcdeaaGreatDoorC8
import Derived.Test.YthffhhbbhjcdeaaGreatDoorC2b
import Derived.Test.YthffhhbbhjcdeaaGreatDoorR
set_option linter.unusedVariables false
set_option linter.unusedSimpArgs false
namespace Go.Proofs.YthffhhbbhjcdeaaGreatDoor
open Go.RowKit
attribute [local go_sem] Oper.semAt_some wide_fn
attribute [local simp] wide_fn
set_option maxRecDepth 100000

theorem KpR.grown {bl B : Nat} {W1 A C : World} {row : Option Nat} (h : KpR bl W1 A) (hg : A.grownBy C row) (hbl : bl < W1.heap.size) (hB : W1.heap.size ≤ B)
    (hr : ∀ r, row = some r → B ≤ r ∧ ∃ o : Obj, A.heap[r]? = some o ∧ o.isCells = false) : KpR bl W1 C := by
  have hA := h.size
  have hb : C.heap[bl]? = A.heap[bl]? := hg.block bl (by omega) (fun e => by have := (hr bl e.symm).1; omega)
  refine ⟨Nat.le_trans hA hg.size, fun k o hk ho hc => ?_, fun k hk => h.own k ((ownK_heap hb).1 hk), fun hW k hk => Nat.lt_of_lt_of_le (h.lt hW k ((ownK_heap hb).1 hk)) hg.size⟩
  have h1 := h.keep k o hk ho hc
  have hlt := (Array.getElem?_eq_some_iff.1 h1).1
  rw [hg.block k hlt (fun e => ?_)]
  · exact h1
  · have := (hr k e.symm).1
    have := (Array.getElem?_eq_some_iff.1 ho).1
    omega
theorem FrK.grown {bl B : Nat} {W1 A C : World} {row : Option Nat} (h : FrK bl W1 A) (hg : A.grownBy C row) (hbl : bl < W1.heap.size) (hB : W1.heap.size ≤ B)
    (hr : ∀ r, row = some r → B ≤ r ∧ ∃ o : Obj, A.heap[r]? = some o ∧ o.isCells = false) : FrK bl W1 C := by
  have hA := h.size
  have hb : C.heap[bl]? = A.heap[bl]? := hg.block bl (by omega) (fun e => by have := (hr bl e.symm).1; omega)
  refine ⟨hg.os.trans h.os, hg.tape.trans h.tape, hg.output.trans h.output, Nat.le_trans hA hg.size, fun k hk ho => ?_, fun k hk => h.own k ((ownK_heap hb).1 hk), fun hW k hk => Nat.lt_of_lt_of_le (h.lt hW k ((ownK_heap hb).1 hk)) hg.size⟩
  exact (hg.block k (by omega) (fun e => by have := (hr k e.symm).1; omega)).trans (h.keep k hk ho)

/-- What has been told of some targets. -/
def toldL (p : Pos) (fr : Nat) (l : List Nat) : List Mv := (l.flatMap (crownL fr)).filter fun m => safeGo p m.fr m.tg
theorem toldL_app (p : Pos) (fr : Nat) (a b : List Nat) : toldL p fr (a ++ b) = toldL p fr a ++ toldL p fr b := by simp [toldL]
theorem toldL_one (p : Pos) (fr tg : Nat) : toldL p fr [tg] = (crownL fr tg).filter fun m => safeGo p m.fr m.tg := by simp [toldL]
theorem crown_le (fr tg : Nat) : (crownL fr tg).length ≤ 4 := by
  unfold crownL
  split
  · simp
  · simp [crowns]
theorem toldL_le (p : Pos) (fr : Nat) (l : List Nat) : (toldL p fr l).length ≤ 4 * l.length := by
  unfold toldL
  refine Nat.le_trans (List.length_filter_le _ _) ?_
  induction l with
  | nil => simp
  | cons a l ih =>
    rw [List.flatMap_cons, List.length_append, List.length_cons]
    have := crown_le fr a
    omega
def takeB (p : Pos) (tg : Nat) : Bool := (sideR (p.L tg) == 1 - p.turn) || ((tg : Int) == p.ep)
theorem pawn_pseu {p : Pos} (hm : MayP p) {fr tg : Nat} (hf : fr < 64) (hown : sideR (p.L fr) = p.turn) (hs : sizeI (p.L fr) = 1) (h : tg ∈ takesL p fr ++ aheadL p fr) : tg < 64 ∧ ∀ m, m ∈ crownL fr tg → Pseu p m := by
  have hx := own_one hm.ok.turn hown hs
  refine ⟨((pawn_gen hm hf hx).1 h).1, fun m hmem => ?_⟩
  have hg : m ∈ genAt p fr := by
    unfold genAt
    rw [if_pos hown, if_pos hs]
    unfold pawnG
    rw [List.mem_flatMap]
    exact ⟨tg, h, hmem⟩
  refine (mem_genL hm).1 ?_
  unfold genL genUpto
  rw [List.mem_append, List.mem_flatMap]
  exact .inl ⟨fr, by simpa using hf, hg⟩

theorem quietIn_retW {n : Nat} {f : FuncId} {args : Array Value} {w : World} {k : Nat} {v : Value} (h : Calls Tryz.prog f args (w.drewN k) (RetW v (w.drewN k))) :
    CallsIn Fence.wide n Tryz.prog f args (w.drewN k) fun e w'' => e = .returned v ∧ ∃ m, w'' = w.drewN m := callsIn_wide.2 (h.mono fun _ _ ⟨he, hm⟩ => ⟨he, k, hm.symm⟩)
theorem rayL_le (L : Nat → Int) (one : Bool) (sx sy : Int) : ∀ f tg, (rayL L one sx sy f tg).length ≤ f
  | 0, _ => by simp [rayL]
  | f + 1, tg => by
    unfold rayL
    split
    · simp
    · rw [List.length_cons]
      have := rayL_le L one sx sy f (movedI tg.toNat sx sy)
      split
      · simp
      · omega
theorem flatMap_le {α β : Type} {f : α → List β} {n : Nat} : ∀ (l : List α), (∀ a, a ∈ l → (f a).length ≤ n) → (l.flatMap f).length ≤ l.length * n
  | [], _ => by simp
  | a :: l, h => by
    rw [List.flatMap_cons, List.length_append, List.length_cons, Nat.add_mul]
    have := h a (by simp)
    have := flatMap_le l (fun b hb => h b (by simp [hb]))
    omega
theorem reach_le {L : Nat → Int} {fr : Nat} (h0 : -6 ≤ L fr) (h1 : L fr ≤ 6) : (reachL L fr).length ≤ 64 := by
  unfold reachL
  split
  · simp
  rename_i k0
  split
  · rw [List.length_append]
    unfold pawnL
    split <;> split <;> simp
  · rename_i k1
    have hz := sizeI_cases h0 h1
    have hst := steps_ok (k := sizeI (L fr)) (by omega) (by omega)
    refine Nat.le_trans (flatMap_le (n := 8) _ (fun a _ => rayL_le _ _ _ _ _ _)) ?_
    have := hst.len
    omega
theorem GS.not_own {n₀ b off cap : Nat} {w W : World} {p : Pos} {v : Value} {l : List Mv} (h : GS n₀ w W b off cap p v l) {D : Nat} {o : Obj} (hD : W.heap[D]? = some o) (hc : o.isCells = false) : ¬ OwnK (n₀ + 1) W D := fun hO => by
  obtain ⟨o', h1, h2⟩ := h.cells D hO
  rw [hD] at h1; cases h1; rw [hc] at h2; cases h2
theorem mark_kept {n₀ b off cap : Nat} {w W W' : World} {p : Pos} {v : Value} {l : List Mv} (h : GS n₀ w W b off cap p v l) (hF : FrK (n₀ + 1) W W') {D : Nat} {o : Obj} (hD : W.heap[D]? = some o) (hc : o.isCells = false) : W'.heap[D]? = some o :=
  (hF.keep D (Array.getElem?_eq_some_iff.1 hD).1 (h.not_own hD hc)).trans hD
theorem mark_end {n₀ b off cap : Nat} {w W Wf : World} {p : Pos} {v : Value} {l : List Mv} (hG : GS n₀ w Wf b off cap p v l) (hF : FrK (n₀ + 1) W Wf) {D : Nat} (hKD : Wf.heap[D]? = some (.deferred (some []))) (hD : W.heap.size ≤ D) (hbl : n₀ + 3 ≤ W.heap.size) :
    GS n₀ w (Wf.putObj D (.deferred none)) b off cap p v l ∧ FrK (n₀ + 1) W (Wf.putObj D (.deferred none)) :=
  ⟨hG.grown (grownBy_putObj' Wf D _) (Nat.le_trans hbl hD) (fun r e => by cases e; exact ⟨Nat.le_refl _, _, hKD, rfl⟩),
   hF.grown (grownBy_putObj' Wf D _) (by omega) hD (fun r e => by cases e; exact ⟨Nat.le_refl _, _, hKD, rfl⟩)⟩

set_option maxHeartbeats 8000000 in
theorem pawn_any {n₀ b off cap B : Nat} {w W : World} {p : Pos} {v : Value} {l : List Mv} (hm : MayP p) (hbr : Brd w b off p.L) (hbn : b < n₀) (hS : GS n₀ w W b off cap p v l) (hl : l.length ≤ 18000) {fr : Nat} (hf : fr < 64)
    (hown : sideR (p.L fr) = p.turn) (hs1 : sizeI (p.L fr) = 1) (hB : W.cell? ⟨B, 0, none⟩ = some (.int .i64 fr)) (hBs : Sf (n₀ + 1) W B) :
    Calls Tryz.prog 73 #[chessV b off cap p, .int .i64 fr, .func (.func 74) #[] #[.pointer (some ⟨B, 0, none⟩), .pointer (some ⟨n₀ + 2, 0, none⟩)]] W fun e w' => e = .returned (.tuple #[]) ∧ ∃ v', GS n₀ w w' b off cap p v' (l ++ toldL p fr (takesL p fr ++ aheadL p fr)) ∧ FrK (n₀ + 1) W w' := by
  have ht := hm.ok.turn
  have hbW : Brd W b off p.L := hbr.below hS.below hbn
  have hlt := hS.lt
  unfold chessV
  refine (callsIn_wide (n := 3)).1 (callsIn_of_wp_marks Tryz.func73 rfl trivial (wpIn_wide.2 ?_) rfl)
  simp only [Tryz.ntmps73, List.size_toArray, List.length_cons, List.length_nil, Nat.reduceAdd, Nat.reduceSub, Array.replicate_succ, Array.replicate_zero, List.push_toArray, List.append_toArray, List.nil_append, List.cons_append]
  have Ht := Lib.hid ht
  have hpa := hm.pawn fr hf hs1
  have HS := Lib.hid hS
  have HBs := Lib.hid hBs
  have HB := Lib.hid hB
  have Hbr := Lib.hid hbr
  go_wp2_with (first
    | (go_at_call 63; refine (forwardP_any _ _ (by omega) (by omega)).mono ?_; rintro e w' ⟨rfl, rfl⟩)
    | (go_at_call 76; refine (reachP_any _ _ _ _ _).mono ?_; rintro e w' ⟨rfl, rfl⟩))
  generalize hW1 : World.alloc _ _ = W1
  have hb1 : Below W.heap.size W W1 := by
    rw [← hW1]; exact ((((Below.refl _ _).alloc (Nat.le_refl _) _).alloc (by simp) _).alloc (by simp; omega) _).alloc (by simp; omega) _
  have hsz : W1.heap.size = W.heap.size + 4 := by rw [← hW1]; simp
  have hP1 : Blk W1 W.heap.size #[.slice (some ⟨b, off, none⟩) 64 cap, .int .i64 p.turn, .int .i64 p.castle, .int .i64 p.ep, .int .i64 p.half, .int .i64 p.full] := by rw [← hW1]; exact (((Blk.new W _ _).alloc _).alloc _).alloc _
  have hT1 : Blk W1 (W.heap.size + 1) #[.func (.func 74) #[] #[.pointer (some ⟨B, 0, none⟩), .pointer (some ⟨n₀ + 2, 0, none⟩)]] := by rw [← hW1]; exact ((Blk.new' (by simp) _ _).alloc _).alloc _
  have hR1 : Blk W1 (W.heap.size + 1 + 1) #[.slice (some ⟨b, off, none⟩) 64 cap] := by rw [← hW1]; exact (Blk.new' (by simp) _ _).alloc _
  have hQ1 : Blk W1 (W.heap.size + 1 + 1 + 1) #[.int .i64 fr] := by rw [← hW1]; exact Blk.new' (by simp) _ _
  clear hW1
  have hbl : n₀ + 1 < W.heap.size := by omega
  have hol := hS.ol
  have hno : ∀ j, OwnK (n₀ + 1) W1 j → j < W.heap.size := fun j hj => hol j ((ownK_heap (hb1.block _ hbl)).1 hj)
  have hSfP : Sf (n₀ + 1) W1 W.heap.size := ⟨cells_of_cell (hP1.cell (o := 0) rfl), fun h => by have := hno _ h; omega⟩
  have hSfT : Sf (n₀ + 1) W1 (W.heap.size + 1) := ⟨cells_of_cell (hT1.cell (o := 0) rfl), fun h => by have := hno _ h; omega⟩
  have hSfB : Sf (n₀ + 1) W1 B := hBs.below hb1 hbl
  have hbrW1 : Brd W1 b off p.L := hbW.below hb1 hbW.lt
  have hSfb : Sf (n₀ + 1) W1 b := ⟨cells_of_cell (hbrW1.cell 0 (by omega)), fun h => by
    have h2 := (ownK_heap (hb1.block _ hbl)).1 h
    rcases hS.ownK h2 with h3 | h3 <;> omega⟩
  have hC : RC W1 b off cap (W.heap.size + 1 + 1) (W.heap.size + 1 + 1 + 1) (n₀ + 1) p.L fr :=
    ⟨hbrW1, hR1.cell (o := 0) rfl, hQ1.cell (o := 0) rfl, hSfb, ⟨cells_of_cell (hR1.cell (o := 0) rfl), fun h => by have := hno _ h; omega⟩, ⟨cells_of_cell (hQ1.cell (o := 0) rfl), fun h => by have := hno _ h; omega⟩, by omega, fun j hj => by have := hno j hj; omega⟩
  have hcB : ∀ W', KpR (n₀ + 1) W1 W' → W'.cell? ⟨B, 0, none⟩ = some (.int .i64 fr) := fun W' hk => (cell_heap (hSfB.kp hk).2).trans ((cell_heap (hb1.block B hBs.lt)).trans HB.out)
  have HcB := Lib.hid hcB
  have HG1 := Lib.hid (hS.later hb1)
  have hF1 : FrK (n₀ + 1) W W1 := FrK.of_below hb1 hbl
  clear hcB hbW hbrW1 hR1 hQ1
  refine wpIn_wide.1 (wpIn_rangeFunc_ownG (n := 3) rfl (by omega) (gf := 102) (lb := #[.pointer (some ⟨W.heap.size + 1 + 1, 0, none⟩), .pointer (some ⟨W.heap.size + 1 + 1 + 1, 0, none⟩)]) rfl trivial (enters_of Tryz.func102 (by kernel_rfl) rfl)
    (reachR_stops b off cap _ _ (n₀ + 1) p.L fr 2 W1 hf hC) (fun h k => h.trans k) (kpR_b (by omega)) (Below.refl _ _) (fun _ => rfl)
    (fun pre W' => FrK (n₀ + 1) W W' ∧ KpR (n₀ + 1) W1 W' ∧ ∃ v', GS n₀ w W' b off cap p v' (l ++ toldL p fr ((sqr pre).filter (takeB p))))
    (fun _ _ _ => False)
    (fun s A C row hs hg hr => ⟨hs.1.grown hg hbl (by omega) hr, hs.2.1.grown hg (by omega) (Nat.le_refl _) hr, hs.2.2.elim fun v' hv' => ⟨v', hv'.grown hg (by omega) hr⟩⟩)
    (fun _ _ _ _ _ hs _ _ => hs.elim)
    ⟨hF1, KpR.refl _ _, v, by simpa [sqr, toldL] using HG1.out⟩
    (fun (x : Sr p.L fr) => { tmps := #[.agg #[.slice (some ⟨b, off, none⟩) 64 cap, .int .i64 p.turn, .int .i64 p.castle, .int .i64 p.ep, .int .i64 p.half, .int .i64 p.full], .int .i64 fr, .func (.func 74) #[] #[.pointer (some ⟨B, 0, none⟩), .pointer (some ⟨n₀ + 2, 0, none⟩)],
      .pointer (some ⟨W.heap.size, 0, none⟩), undef, .pointer (some ⟨W.heap.size + 1, 0, none⟩), .int .i64 (8 * (1 - 2 * p.turn)), .int .i64 (x.val.val : Int), .pointer (some ⟨W.heap.size, 1, none⟩), .int .i64 p.turn, .int .i64 (1 - 2 * p.turn), .int .i64 (8 * (1 - 2 * p.turn)),
      .pointer (some ⟨W.heap.size, 0, none⟩), .slice (some ⟨b, off, none⟩) 64 cap, .int .i64 fr, .func (.func 102) #[] #[.pointer (some ⟨W.heap.size + 1 + 1, 0, none⟩), .pointer (some ⟨W.heap.size + 1 + 1 + 1, 0, none⟩)], .int .i64 (x.val.val : Int), undef, undef, undef, undef, undef, undef, undef, undef, undef, undef, undef, undef, undef, undef, undef, undef, undef, undef, undef, undef, undef, undef, undef, undef, undef, undef, undef, undef, undef, undef, undef, undef, undef, undef, undef, undef, undef, undef, undef, undef, undef, undef, undef, undef, undef, undef, undef, undef, undef, undef, undef, undef, undef, undef, undef, undef], defers := [] }) ?assign ?body ?done ?stop)
  case assign =>
    intro l x W K hK
    dsimp only [sqAr]
    gi_wp2
    exact hK
  case stop =>
    rintro D c pre W' hD hSp h
    exact h.elim
  case body =>
    rintro l' pre ⟨⟨q, hxlt⟩, hqm⟩ W' ⟨hF, hk, v', hG⟩ hlen
    dsimp only at hqm
    dsimp only
    have hd : 1 ≤ 3 - 1 - 1 := by omega
    have hmx : Tryz.prog.follows .mixedOrders = true := by kernel_rfl
    have hP' := hP1.of_heap (hSfP.kp hk).2
    have hT' := hT1.of_heap (hSfT.kp hk).2
    have hB' : ∀ nq, (W'.drewN nq).cell? ⟨B, 0, none⟩ = some (.int .i64 fr) := fun nq => HcB.out W' hk
    have hbr' : Brd W' b off p.L := Hbr.out.below hG.below hbn
    have cx := hbr'.cell q hxlt
    have p0 := hP'.cell (o := 0) rfl
    have p1 := hP'.cell (o := 1) rfl
    have p3 := hP'.cell (o := 3) rfl
    have t0 := hT'.cell (o := 0) rfl
    have hxi : (q : Int) < 64 := by omega
    have x1 : IntKind.i64.wrap (1 - p.turn) = 1 - p.turn := IntWalk.i64_in _ (by omega)
    have hGlt' := hG.lt
    have hGd : ∀ nq, GS n₀ w (W'.drewN nq) b off cap p v' (l ++ toldL p fr ((sqr pre).filter (takeB p))) := fun nq => hG.later (below_drewN (Below.refl _ _) nq)
    have hFd : ∀ nq, FrK (n₀ + 1) W' (W'.drewN nq) := fun nq => FrK.of_below (below_drewN (Below.refl _ _) nq) (by omega)
    have hlen2 : (l ++ toldL p fr ((sqr pre).filter (takeB p))).length ≤ 19000 := by
      rw [List.length_append]
      have h1 := toldL_le p fr ((sqr pre).filter (takeB p))
      have h2 : ((sqr pre).filter (takeB p)).length ≤ pre.length := Nat.le_trans (List.length_filter_le _ _) (by simp [sqr])
      have h3 := reach_le (hm.ok.bd fr).1 (hm.ok.bd fr).2
      omega
    have hnew : takeB p q = true → ∀ m, m ∈ crownL fr q → Pseu p m := fun h => (pawn_pseu hm hf hown hs1 (List.mem_append_left _ (by unfold takesL; rw [List.mem_filter]; exact ⟨hqm, h⟩))).2
    have HT := fun h nq => tell_any hm hbr hbn (hGd nq) hlen2 (hnew h) hf hxlt (hB' nq)
    have hyes : takeB p q = true → l ++ toldL p fr ((sqr (pre ++ [⟨⟨q, hxlt⟩, hqm⟩])).filter (takeB p)) = (l ++ toldL p fr ((sqr pre).filter (takeB p))) ++ ((crownL fr q).filter fun m => safeGo p m.fr m.tg) := by
      intro h
      rw [sqr_snoc, List.filter_append, toldL_app]
      simp [h, toldL_one]
    have hnope : takeB p q = false → l ++ toldL p fr ((sqr (pre ++ [⟨⟨q, hxlt⟩, hqm⟩])).filter (takeB p)) = l ++ toldL p fr ((sqr pre).filter (takeB p)) := by
      intro h
      rw [sqr_snoc, List.filter_append]
      simp [h]
    have HT := Lib.hid HT
    have Hyes := Lib.hid hyes
    have Hno := Lib.hid hnope
    clear hnew hlen2 hlen hyes hnope hB'
    have Hdone : ∀ w1 v1, GS n₀ w w1 b off cap p v1 ((l ++ toldL p fr ((sqr pre).filter (takeB p))) ++ ((crownL fr q).filter fun m => safeGo p m.fr m.tg)) → ∀ nq, FrK (n₀ + 1) (W'.drewN nq) w1 → takeB p q = true →
        KeepsFrom W1.heap.size W' w1 ∧ KpR (n₀ + 1) W' w1 ∧ FrK (n₀ + 1) W w1 ∧ KpR (n₀ + 1) W1 w1 ∧ ∃ v'', GS n₀ w w1 b off cap p v'' (l ++ toldL p fr ((sqr (pre ++ [⟨⟨q, hxlt⟩, hqm⟩])).filter (takeB p))) :=
      fun w1 v1 hG1 nq hF1 h => ⟨((hFd nq).trans hF1).keepsFrom hG.cells, ((hFd nq).trans hF1).kp, hF.trans ((hFd nq).trans hF1), hk.trans ((hFd nq).trans hF1).kp, v1, by rw [Hyes.out h]; exact hG1⟩
    have HD := Lib.hid Hdone
    clear Hdone
    cases e1 : (sideR (p.L q) == 1 - p.turn)
    case true =>
      have htk : takeB p q = true := by unfold takeB; rw [e1]; rfl
      have HC := Lib.hid (HT.out htk)
      gi_wp2
      refine wpIn_region_quiet_round rfl (by kernel_rfl) (by kernel_rfl) (by kernel_rfl) ?_
      repeat (gi_big_quiet_step ((gi_at_call 60; exact quietIn_retW (sideP_any _ _))))
      refine wpQuietIn_nil ?_
      intro _ hw'
      obtain ⟨nq, hw''⟩ := hw'
      subst hw''
      all_goals
        gi_wp2_with (gi_at_call 74; refine (CallsIn.inRound l' (callsIn_wide.2 (HC.out nq))).mono ?_; rintro e w1 ⟨rfl, v1, hG1, hF1⟩)
        exact HD.out w1 v1 hG1 nq hF1 htk
    case false =>
    cases e2 : ((q : Int) == p.ep)
    case true =>
      have htk : takeB p q = true := by unfold takeB; rw [e1, e2]; rfl
      have HC := Lib.hid (HT.out htk)
      gi_wp2
      refine wpIn_region_quiet_round rfl (by kernel_rfl) (by kernel_rfl) (by kernel_rfl) ?_
      repeat (gi_big_quiet_step ((gi_at_call 60; exact quietIn_retW (sideP_any _ _))))
      refine wpQuietIn_nil ?_
      intro _ hw'
      obtain ⟨nq, hw''⟩ := hw'
      subst hw''
      all_goals
        gi_wp2_with (gi_at_call 74; refine (CallsIn.inRound l' (callsIn_wide.2 (HC.out nq))).mono ?_; rintro e w1 ⟨rfl, v1, hG1, hF1⟩)
        exact HD.out w1 v1 hG1 nq hF1 htk
    case false =>
      have htk : takeB p q = false := by unfold takeB; rw [e1, e2]; rfl
      gi_wp2
      refine wpIn_region_quiet_round rfl (by kernel_rfl) (by kernel_rfl) (by kernel_rfl) ?_
      repeat (gi_big_quiet_step ((gi_at_call 60; exact quietIn_retW (sideP_any _ _))))
      refine wpQuietIn_nil ?_
      intro _ hw'
      obtain ⟨nq, hw''⟩ := hw'
      subst hw''
      all_goals
        gi_wp2
        exact ⟨(hFd nq).keepsFrom hG.cells, (hFd nq).kp, hF.trans (hFd nq), hk.trans (hFd nq).kp, v', by rw [Hno.out htk]; exact hGd nq⟩
  case done =>
    rintro D xs W' hD hS' ⟨hF, hk, v', hG⟩ hKD
    have hG0 : GS n₀ w W' b off cap p v' (l ++ toldL p fr (takesL p fr)) := by
      rw [hS'] at hG; exact hG
    clear hG hS'
    have hP' := hP1.of_heap (hSfP.kp hk).2
    have hT' := hT1.of_heap (hSfT.kp hk).2
    have hB' := HcB.out W' hk
    have hbr' : Brd W' b off p.L := Hbr.out.below hG0.below hbn
    have hx := own_one ht hown hs1
    have hGlt' := hG0.lt
    obtain ⟨n1, hn1, hn1i, hn1l⟩ : ∃ n1 : Nat, fwdN p fr 1 = n1 ∧ (n1 : Int) = fr + 8 * (1 - 2 * p.turn) ∧ n1 < 64 := by
      refine ⟨_, rfl, ?_, ?_⟩ <;> unfold fwdN <;> rcases ht with h | h <;> rw [h] <;> omega
    have hEnd : ∀ Wf vf lf, GS n₀ w Wf b off cap p vf lf → FrK (n₀ + 1) W Wf → Wf.heap[D]? = some (.deferred (some [])) → lf = l ++ toldL p fr (takesL p fr ++ aheadL p fr) →
        ∃ v'', GS n₀ w (Wf.putObj D (.deferred none)) b off cap p v'' (l ++ toldL p fr (takesL p fr ++ aheadL p fr)) ∧ FrK (n₀ + 1) W (Wf.putObj D (.deferred none)) := by
      rintro Wf vf lf h1 h2 h3 rfl
      obtain ⟨h4, h5⟩ := mark_end h1 h2 h3 (by omega) (by omega)
      exact ⟨vf, h4, h5⟩
    have HE := Lib.hid hEnd
    clear hEnd
    have hAH : aheadL p fr = if p.L n1 ≠ 0 then [] else n1 :: (if (fr : Int) / 8 = 1 + 5 * p.turn ∧ p.L (fwdN p fr 2) = 0 then [fwdN p fr 2] else []) := by unfold aheadL; rw [hn1]
    have HAH := Lib.hid hAH
    clear hAH
    have hlenT : (l ++ toldL p fr (takesL p fr)).length ≤ 18800 := by
      rw [List.length_append]
      have h1 := toldL_le p fr (takesL p fr)
      have h2 : (takesL p fr).length ≤ (reachL p.L fr).length := by unfold takesL; exact List.length_filter_le _ _
      have h3 := reach_le (hm.ok.bd fr).1 (hm.ok.bd fr).2
      omega
    have HlT := Lib.hid hlenT
    clear hlenT
    have hDl : W'.heap.size > D := (Array.getElem?_eq_some_iff.1 hKD).1
    have hff : 8 * (1 - 2 * p.turn) = 8 ∨ 8 * (1 - 2 * p.turn) = -8 := by omega
    have hn2 : (fr : Int) / 8 = 1 + 5 * p.turn → ∃ n2 : Nat, fwdN p fr 2 = n2 ∧ (n2 : Int) = fr + 2 * (8 * (1 - 2 * p.turn)) ∧ n2 < 64 := by
      intro h3
      refine ⟨_, rfl, ?_, ?_⟩ <;> unfold fwdN <;> rcases ht with h | h <;> rw [h] at h3 ⊢ <;> omega
    have HN2 := Lib.hid hn2
    clear hn2
    generalize hfe : 8 * (1 - 2 * p.turn) = f at *
    have Hfe := Lib.hid hfe
    clear hfe
    have hfb0 : -8 ≤ f := by omega
    have hfb1 : f ≤ 8 := by omega
    have hn1e : (fr : Int) + f = n1 := hn1i.symm
    have p0 := hP'.cell (o := 0) rfl
    have p1 := hP'.cell (o := 1) rfl
    have t0 := hT'.cell (o := 0) rfl
    have c1 := hbr'.cell n1 hn1l
    have hn1b : (n1 : Int) < 64 := by omega
    clear hn1 hn1i hff
    cases e0 : (p.L n1 != 0)
    case true =>
      have hA : aheadL p fr = [] := by rw [HAH.out, if_pos (by simpa using e0)]
      have HA := Lib.hid hA
      clear hA
      go_wp2
      show LeavesInM _ _ _ _ _ _ _ _ _
      refine ⟨by simp, .inl ⟨D, _, rfl, run_takeDeferred hKD, ?_⟩⟩
      exact ⟨_, results_none rfl _ _ _, rfl, HE.out _ _ _ hG0 hF hKD (by rw [HA.out, List.append_nil])⟩
    case false =>
    have hz : ¬ p.L n1 ≠ 0 := by simpa using e0
    have hA1 : aheadL p fr = n1 :: (if (fr : Int) / 8 = 1 + 5 * p.turn ∧ p.L (fwdN p fr 2) = 0 then [fwdN p fr 2] else []) := by rw [HAH.out, if_neg hz]
    have HC1 := Lib.hid (tell_any hm hbr hbn hG0 (Nat.le_trans HlT.out (by omega)) (pawn_pseu hm hf hown hs1 (List.mem_append_right (takesL p fr) (by rw [hA1]; exact List.mem_cons_self)) : n1 < 64 ∧ ∀ m, m ∈ crownL fr n1 → Pseu p m).2 hf hn1l hB')
    have HA1 := Lib.hid hA1
    clear hA1 hz
    go_upto_region 8 with (go_at_call 74; refine HC1.out.mono ?_; rintro e w1 ⟨rfl, v1, hG1, hF1⟩)
    clear p0 p1 t0 c1
    have hk1 := hk.trans hF1.kp
    have hP2 := hP1.of_heap (hSfP.kp hk1).2
    have hT2 := hT1.of_heap (hSfT.kp hk1).2
    have hB2 := HcB.out w1 hk1
    have hbr2 : Brd w1 b off p.L := Hbr.out.below hG1.below hbn
    have hKD1 := mark_kept hG0 hF1 hKD rfl
    have hF2 := hF.trans hF1
    have p0 := hP2.cell (o := 0) rfl
    have p1 := hP2.cell (o := 1) rfl
    have t0 := hT2.cell (o := 0) rfl
    have hG1lt := hG1.lt
    cases e3 : ((fr : Int) / 8 == 1 + 5 * p.turn)
    case false =>
      have hA : aheadL p fr = [n1] := by rw [HA1.out, if_neg (fun h => by rw [h.1] at e3; simp at e3)]
      have HA := Lib.hid hA
      clear hA
      go_wp2
      show LeavesInM _ _ _ _ _ _ _ _ _
      refine ⟨by simp, .inl ⟨D, _, rfl, run_takeDeferred hKD1, ?_⟩⟩
      exact ⟨_, results_none rfl _ _ _, rfl, HE.out _ _ _ hG1 hF2 hKD1 (by rw [HA.out, toldL_app, toldL_one, List.append_assoc])⟩
    case true =>
    have h3 : (fr : Int) / 8 = 1 + 5 * p.turn := by simpa using e3
    obtain ⟨n2, hn2, hn2i, hn2l⟩ := HN2.out h3
    have c2 := hbr2.cell n2 hn2l
    have hn2b : (n2 : Int) < 64 := by omega
    have hn2e : (fr : Int) + 2 * f = n2 := hn2i.symm
    rw [hn2] at HA1
    have H3 := Lib.hid h3
    clear hn2i h3 hn2
    cases e4 : (p.L n2 == 0)
    case false =>
      have hA : aheadL p fr = [n1] := by rw [HA1.out, if_neg (fun h => by rw [h.2] at e4; simp at e4)]
      have HA := Lib.hid hA
      clear hA
      go_wp2
      show LeavesInM _ _ _ _ _ _ _ _ _
      refine ⟨by simp, .inl ⟨D, _, rfl, run_takeDeferred hKD1, ?_⟩⟩
      exact ⟨_, results_none rfl _ _ _, rfl, HE.out _ _ _ hG1 hF2 hKD1 (by rw [HA.out, toldL_app, toldL_one, List.append_assoc])⟩
    case true =>
      have hA : aheadL p fr = [n1, n2] := by rw [HA1.out, if_pos ⟨H3.out, by simpa using e4⟩]
      have hl1 : ((l ++ toldL p fr (takesL p fr)) ++ (crownL fr n1).filter fun m => safeGo p m.fr m.tg).length ≤ 19000 := by
        rw [List.length_append]
        have h1 := HlT.out
        have h2 : ((crownL fr n1).filter fun m => safeGo p m.fr m.tg).length ≤ 4 := Nat.le_trans (List.length_filter_le _ _) (crown_le _ _)
        omega
      have HC2 := Lib.hid (tell_any hm hbr hbn hG1 hl1 (pawn_pseu hm hf hown hs1 (List.mem_append_right (takesL p fr) (by rw [hA]; exact List.mem_cons_of_mem _ List.mem_cons_self)) : n2 < 64 ∧ ∀ m, m ∈ crownL fr n2 → Pseu p m).2 hf hn2l hB2)
      have HA := Lib.hid hA
      clear hA hl1
      go_wp2_with (go_at_call 74; refine HC2.out.mono ?_; rintro e w2 ⟨rfl, v2, hG2, hF3⟩)
      have hKD2 := mark_kept hG1 hF3 hKD1 rfl
      show LeavesInM _ _ _ _ _ _ _ _ _
      refine ⟨by simp, .inl ⟨D, _, rfl, run_takeDeferred hKD2, ?_⟩⟩
      exact ⟨_, results_none rfl _ _ _, rfl, HE.out _ _ _ hG2 (hF2.trans hF3) hKD2 (by rw [HA.out, toldL_app, show [n1, n2] = [n1] ++ [n2] from rfl, toldL_app, toldL_one, toldL_one]; simp only [List.append_assoc])⟩

end Go.Proofs.YthffhhbbhjcdeaaGreatDoor
