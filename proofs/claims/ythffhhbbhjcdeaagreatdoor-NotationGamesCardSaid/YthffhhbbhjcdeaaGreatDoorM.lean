/- SMALL THINGS ON MEMORY: a block known whole; a board in a block of the call's own. -/
import Derived.Test.YthffhhbbhjcdeaaGreatDoorB
set_option linter.unusedVariables false
set_option linter.unusedSimpArgs false
namespace Go.Proofs.YthffhhbbhjcdeaaGreatDoor
open Go.RowKit

/-- Block k holds just these cells, and may be written. -/
def Blk (w : World) (k : Nat) (cs : Array Value) : Prop := ∃ e, w.heap[k]? = some (.cells cs e (0, 0))

theorem Blk.lt {w : World} {k : Nat} {cs : Array Value} (h : Blk w k cs) : k < w.heap.size := by
  obtain ⟨e, h⟩ := h
  exact (Array.getElem?_eq_some_iff.1 h).1
theorem Blk.cell {w : World} {k : Nat} {cs : Array Value} (h : Blk w k cs) {o : Nat} {v : Value} (hv : cs[o]? = some v) : w.cell? ⟨k, o, none⟩ = some v := by
  obtain ⟨e, h⟩ := h
  simp [World.cell?, h, hv]
theorem Blk.free {w : World} {k : Nat} {cs : Array Value} (h : Blk w k cs) (o : Nat) : w.frozen? ⟨k, o, none⟩ = false := by
  obtain ⟨e, h⟩ := h
  simp [World.frozen?, h]
theorem Blk.of_heap {w w' : World} {k : Nat} {cs : Array Value} (h : Blk w k cs) (hh : w'.heap[k]? = w.heap[k]?) : Blk w' k cs := by
  obtain ⟨e, h⟩ := h
  exact ⟨e, hh.trans h⟩
theorem Blk.below {w w' : World} {k B : Nat} {cs : Array Value} (h : Blk w k cs) (hb : Below B w w') (hk : k < B) : Blk w' k cs := h.of_heap (hb.block k hk)
theorem Blk.alloc {w : World} {k : Nat} {cs : Array Value} (h : Blk w k cs) (o : Obj) : Blk (w.alloc o) k cs := h.of_heap (Below.heap_alloc w o k h.lt)
theorem Blk.drew {w : World} {k : Nat} {cs : Array Value} (h : Blk w k cs) : Blk w.drew k cs := h
theorem Blk.drewN {w : World} {k : Nat} {cs : Array Value} (h : Blk w k cs) (n : Nat) : Blk (w.drewN n) k cs := h
theorem Blk.new (w : World) (cs : Array Value) (e : TypeId) : Blk (w.alloc (.cells cs e)) w.heap.size cs := ⟨e, by show (w.heap.push _)[w.heap.size]? = _; simp⟩
theorem Blk.new' {w : World} {k : Nat} (hk : k = w.heap.size) (cs : Array Value) (e : TypeId) : Blk (w.alloc (.cells cs e)) k cs := by subst hk; exact Blk.new w cs e
theorem Blk.other {w : World} {k j : Nat} {cs : Array Value} (h : Blk w k cs) (hne : k ≠ j) (o : Nat) (v : Value) : Blk (w.setCell ⟨j, o, none⟩ v) k cs :=
  h.of_heap (Below.heap_setCell w ⟨j, o, none⟩ v k hne)
theorem Blk.set {w : World} {k : Nat} {cs : Array Value} (h : Blk w k cs) (o : Nat) (v : Value) : Blk (w.setCell ⟨k, o, none⟩ v) k (cs.setIfInBounds o v) := by
  obtain ⟨e, h⟩ := h
  refine ⟨e, ?_⟩
  simp [World.setCell, Array.getElem?_modify, h]

def upd (L : Nat → Int) (i : Nat) (v : Int) : Nat → Int := fun j => if j = i then v else L j

/-- A board in a block of one's own, from its head on. -/
def OwnB (w : World) (g : Nat) (L : Nat → Int) : Prop := ∃ cs, Blk w g cs ∧ ∀ i, i < 64 → cs[i]? = some (.int .i64 (L i))
theorem OwnB.lt {w : World} {g : Nat} {L : Nat → Int} (h : OwnB w g L) : g < w.heap.size := by obtain ⟨cs, h, _⟩ := h; exact h.lt
theorem OwnB.cell {w : World} {g : Nat} {L : Nat → Int} (h : OwnB w g L) {i : Nat} (hi : i < 64) : w.cell? ⟨g, i, none⟩ = some (.int .i64 (L i)) := by
  obtain ⟨cs, h, hc⟩ := h; exact h.cell (hc i hi)
theorem OwnB.free {w : World} {g : Nat} {L : Nat → Int} (h : OwnB w g L) (i : Nat) : w.frozen? ⟨g, i, none⟩ = false := by obtain ⟨cs, h, hc⟩ := h; exact h.free i
theorem OwnB.of_heap {w w' : World} {g : Nat} {L : Nat → Int} (h : OwnB w g L) (hh : w'.heap[g]? = w.heap[g]?) : OwnB w' g L := by obtain ⟨cs, h, hc⟩ := h; exact ⟨cs, h.of_heap hh, hc⟩
theorem OwnB.below {w w' : World} {g B : Nat} {L : Nat → Int} (h : OwnB w g L) (hb : Below B w w') (hk : g < B) : OwnB w' g L := h.of_heap (hb.block g hk)
theorem OwnB.alloc {w : World} {g : Nat} {L : Nat → Int} (h : OwnB w g L) (o : Obj) : OwnB (w.alloc o) g L := h.of_heap (Below.heap_alloc w o g h.lt)
theorem OwnB.drew {w : World} {g : Nat} {L : Nat → Int} (h : OwnB w g L) : OwnB w.drew g L := h
theorem OwnB.drewN {w : World} {g : Nat} {L : Nat → Int} (h : OwnB w g L) (n : Nat) : OwnB (w.drewN n) g L := h
theorem OwnB.other {w : World} {g j : Nat} {L : Nat → Int} (h : OwnB w g L) (hne : g ≠ j) (o : Nat) (v : Value) : OwnB (w.setCell ⟨j, o, none⟩ v) g L := h.of_heap (Below.heap_setCell w ⟨j, o, none⟩ v g hne)
theorem OwnB.set {w : World} {g : Nat} {L : Nat → Int} (h : OwnB w g L) {i : Nat} (hi : i < 64) (x : Int) : OwnB (w.setCell ⟨g, i, none⟩ (.int .i64 x)) g (upd L i x) := by
  obtain ⟨cs, h, hc⟩ := h
  refine ⟨_, h.set i _, fun j hj => ?_⟩
  have hsz : i < cs.size := by
    have := hc i hi
    exact (Array.getElem?_eq_some_iff.1 this).1
  unfold upd
  by_cases hji : j = i
  · subst hji; rw [if_pos rfl]; simp [hsz]
  · rw [if_neg hji, Array.getElem?_setIfInBounds_ne (by omega)]; exact hc j hj
theorem OwnB.brd {w : World} {g : Nat} {L : Nat → Int} (h : OwnB w g L) (hL : ∀ i, -6 ≤ L i ∧ L i ≤ 6) : Brd w g 0 L := ⟨h.lt, fun i hi => by rw [Nat.zero_add]; exact h.cell hi, hL⟩

/-- What an append to the nil slice leaves, where sixty-four numbers came. -/
theorem ownB_of_row {w : World} {base : Nat} {v : Value} {L : Nat → Int} {xs : List Value} (h : w.ownsRow base 3 1 v 64 xs) (hx : ∀ i, i < 64 → xs[i]? = some (.int .i64 (L i))) :
    ∃ g cap, v = .slice (some ⟨g, 0, none⟩) 64 cap ∧ base ≤ g ∧ OwnB w g L := by
  obtain ⟨h1, h2⟩ := h
  rcases h2 with ⟨_, h0⟩ | ⟨g, cap, cur, hv, hg, hh, hn, hcap, hsz, ht⟩
  · exact absurd h0 (by decide)
  · refine ⟨g, cap, hv, hg, cur, ⟨3, hh⟩, fun i hi => ?_⟩
    have := hx i hi
    rw [← ht] at this
    rw [List.getElem?_take_of_lt (by omega)] at this
    rw [← Array.getElem?_toList]
    exact this

end Go.Proofs.YthffhhbbhjcdeaaGreatDoor
