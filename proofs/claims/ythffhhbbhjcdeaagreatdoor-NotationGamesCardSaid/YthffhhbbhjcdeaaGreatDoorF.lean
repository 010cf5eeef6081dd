/- WHAT A CALL MAY TOUCH, where a slice variable in a box of its own is appended to: that box, the slice's own block, new blocks. -/
import Derived.Test.YthffhhbbhjcdeaaGreatDoorM
import Derived.RangeFuncNested
set_option linter.unusedVariables false
set_option linter.unusedSimpArgs false
namespace Go.Proofs.YthffhhbbhjcdeaaGreatDoor
open Go.RowKit

/-- Block k is the box bl, or what the slice in it lies in. -/
def OwnK (bl : Nat) (W : World) (k : Nat) : Prop := k = bl ∨ ∃ v, W.cell? ⟨bl, 0, none⟩ = some v ∧ v.ownBlock = some k

theorem cell_heap {W W' : World} {k o : Nat} (h : W'.heap[k]? = W.heap[k]?) : W'.cell? ⟨k, o, none⟩ = W.cell? ⟨k, o, none⟩ := by simp [World.cell?, h]
theorem lt_heap {W W' : World} {k : Nat} (h : W'.heap[k]? = W.heap[k]?) (hk : k < W.heap.size) : k < W'.heap.size := by
  rcases Nat.lt_or_ge k W'.heap.size with h1 | h1
  · exact h1
  · rw [Array.getElem?_eq_none h1, Array.getElem?_eq_getElem hk] at h; cases h
theorem ownK_heap {bl k : Nat} {W W' : World} (h : W'.heap[bl]? = W.heap[bl]?) : OwnK bl W' k ↔ OwnK bl W k := by unfold OwnK; rw [cell_heap h]

/-- What a round of a loop over an iterator keeps. -/
structure KpR (bl : Nat) (W W' : World) : Prop where
  size : W.heap.size ≤ W'.heap.size
  keep : ∀ k o, ¬ OwnK bl W k → W.heap[k]? = some o → o.isCells = true → W'.heap[k]? = some o
  own : ∀ k, OwnK bl W' k → OwnK bl W k ∨ W.heap.size ≤ k
  lt : (∀ k, OwnK bl W k → k < W.heap.size) → ∀ k, OwnK bl W' k → k < W'.heap.size

/-- What a call keeps. -/
structure FrK (bl : Nat) (W W' : World) : Prop where
  os : W'.os = W.os
  tape : W'.tape = W.tape
  output : W'.output = W.output
  size : W.heap.size ≤ W'.heap.size
  keep : ∀ k, k < W.heap.size → ¬ OwnK bl W k → W'.heap[k]? = W.heap[k]?
  own : ∀ k, OwnK bl W' k → OwnK bl W k ∨ W.heap.size ≤ k
  lt : (∀ k, OwnK bl W k → k < W.heap.size) → ∀ k, OwnK bl W' k → k < W'.heap.size

theorem KpR.refl (bl : Nat) (W : World) : KpR bl W W := ⟨Nat.le_refl _, fun _ _ _ h _ => h, fun _ h => .inl h, fun h => h⟩
theorem FrK.refl (bl : Nat) (W : World) : FrK bl W W := ⟨rfl, rfl, rfl, Nat.le_refl _, fun _ _ _ => rfl, fun _ h => .inl h, fun h => h⟩
theorem KpR.trans {bl : Nat} {A B C : World} (h : KpR bl A B) (k : KpR bl B C) : KpR bl A C := by
  refine ⟨Nat.le_trans h.size k.size, fun i o hi ho hc => ?_, fun i hi => ?_, fun hA => k.lt (h.lt hA)⟩
  · have h1 := h.keep i o hi ho hc
    refine k.keep i o (fun hB => ?_) h1 hc
    rcases h.own i hB with h2 | h2
    · exact hi h2
    · have := (Array.getElem?_eq_some_iff.1 ho).1; omega
  · rcases k.own i hi with h1 | h1
    · exact h.own i h1
    · exact .inr (Nat.le_trans h.size h1)
theorem FrK.trans {bl : Nat} {A B C : World} (h : FrK bl A B) (k : FrK bl B C) : FrK bl A C := by
  refine ⟨k.os.trans h.os, k.tape.trans h.tape, k.output.trans h.output, Nat.le_trans h.size k.size, fun i hi ho => ?_, fun i hi => ?_, fun hA => k.lt (h.lt hA)⟩
  · refine (k.keep i (Nat.lt_of_lt_of_le hi h.size) (fun hB => ?_)).trans (h.keep i hi ho)
    rcases h.own i hB with h2 | h2
    · exact ho h2
    · omega
  · rcases k.own i hi with h1 | h1
    · exact h.own i h1
    · exact .inr (Nat.le_trans h.size h1)
theorem FrK.kp {bl : Nat} {W W' : World} (h : FrK bl W W') : KpR bl W W' := by
  refine ⟨h.size, fun k o hk ho hc => ?_, h.own, h.lt⟩
  rw [h.keep k (Array.getElem?_eq_some_iff.1 ho).1 hk]; exact ho
theorem FrK.of_below {bl : Nat} {W W' : World} (h : Below W.heap.size W W') (hbl : bl < W.heap.size) : FrK bl W W' :=
  ⟨h.os, h.tape, h.output, h.size, fun k hk _ => h.block k hk, fun k hk => .inl ((ownK_heap (h.block bl hbl)).1 hk), fun hA k hk => Nat.lt_of_lt_of_le (hA k ((ownK_heap (h.block bl hbl)).1 hk)) h.size⟩
theorem FrK.below {bl B : Nat} {W W' : World} (h : FrK bl W W') (hB : B ≤ W.heap.size) (ho : ∀ k, OwnK bl W k → B ≤ k) : Below B W W' :=
  ⟨h.os, h.tape, h.output, h.size, fun k hk => h.keep k (by omega) (fun hO => by have := ho k hO; omega)⟩
/-- The law's own book-keeping. -/
theorem kpR_b {bl : Nat} {w : World} (hbl : bl < w.heap.size) (W : World) (l : Nat) (o o' : Obj) (hl : w.heap.size ≤ l) (h : W.heap[l]? = some o) (hc : o.isCells = false) (_ : o.isWalk = false) : KpR bl W (W.putObj l o') := by
  have hlt := (Array.getElem?_eq_some_iff.1 h).1
  have hb : (W.putObj l o').heap[bl]? = W.heap[bl]? := World.putObj_heap_other (by omega)
  have hs : (W.putObj l o').heap.size = W.heap.size := by simp [World.putObj]
  refine ⟨by rw [hs]; exact Nat.le_refl _, fun k o1 _ ho hc1 => ?_, fun k hk => .inl ((ownK_heap hb).1 hk), fun hA k hk => by rw [hs]; exact hA k ((ownK_heap hb).1 hk)⟩
  have hne : k ≠ l := by rintro rfl; rw [h] at ho; cases ho; rw [hc] at hc1; cases hc1
  rw [World.putObj_heap_other hne]; exact ho
/-- Non-cells lie as they lay. -/
theorem FrK.keepsFrom {bl B : Nat} {W W' : World} (h : FrK bl W W') (ho : ∀ k, OwnK bl W k → ∃ o, W.heap[k]? = some o ∧ o.isCells = true) : KeepsFrom B W W' := by
  refine ⟨h.size, fun k o _ hk hc => ?_⟩
  rw [h.keep k (Array.getElem?_eq_some_iff.1 hk).1 (fun hO => ?_)]
  · exact hk
  · obtain ⟨o1, h1, h2⟩ := ho k hO
    rw [hk] at h1; cases h1; rw [hc] at h2; cases h2

/-- A block that rounds leave alone. -/
def Sf (bl : Nat) (W : World) (k : Nat) : Prop := (∃ o, W.heap[k]? = some o ∧ o.isCells = true) ∧ ¬ OwnK bl W k
theorem Sf.lt {bl k : Nat} {W : World} (h : Sf bl W k) : k < W.heap.size := by obtain ⟨⟨o, h1, _⟩, _⟩ := h; exact (Array.getElem?_eq_some_iff.1 h1).1
theorem Sf.kp {bl k : Nat} {W W' : World} (h : Sf bl W k) (hk : KpR bl W W') : Sf bl W' k ∧ W'.heap[k]? = W.heap[k]? := by
  have hlt := h.lt
  obtain ⟨⟨o, h1, h2⟩, h3⟩ := h
  have h4 := hk.keep k o h3 h1 h2
  refine ⟨⟨⟨o, h4, h2⟩, fun hO => ?_⟩, by rw [h4, h1]⟩
  rcases hk.own k hO with h5 | h5
  · exact h3 h5
  · omega
theorem Sf.below {bl k : Nat} {W W' : World} (h : Sf bl W k) (hb : Below W.heap.size W W') (hbl : bl < W.heap.size) : Sf bl W' k := (h.kp (FrK.of_below hb hbl).kp).1
theorem Sf.new {bl k : Nat} {W : World} (hk : k = W.heap.size) (hbl : bl < W.heap.size) (ho : ∀ k, OwnK bl W k → k < W.heap.size) (cs : Array Value) (e : TypeId) : Sf bl (W.alloc (.cells cs e)) k := by
  subst hk
  refine ⟨⟨_, World.alloc_heap_new W _, rfl⟩, fun hO => ?_⟩
  have := ho _ ((ownK_heap (Below.heap_alloc W _ bl hbl)).1 hO)
  omega
theorem Sf.fresh {bl k : Nat} {W W' : World} {cs : Array Value} (hb : Below W.heap.size W W') (hk : W.heap.size ≤ k) (hbl : bl < W.heap.size) (ho : ∀ k, OwnK bl W k → k < W.heap.size) (h : Blk W' k cs) : Sf bl W' k := by
  obtain ⟨e, h⟩ := h
  refine ⟨⟨_, h, rfl⟩, fun hO => ?_⟩
  have := ho _ ((ownK_heap (hb.block bl hbl)).1 hO)
  omega

end Go.Proofs.YthffhhbbhjcdeaaGreatDoor
