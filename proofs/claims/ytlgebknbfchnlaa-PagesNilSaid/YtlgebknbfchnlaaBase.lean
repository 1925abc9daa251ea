/- Plain words on worlds: what a block holds, and a frame by the blocks that may have turned. No program in sight. -/
import Derived.WalkKit
import Derived.WalkLawsBesides
import Derived.KernelRfl
import Derived.Laws.LoneSync
import Derived.Deep.QuietTactic
import Derived.BigQuiet
import Derived.StillTailTactics
namespace Go.Hay
open Go Go.RowKit

/-- Block b holds these cells. -/
def Blk (w : World) (b : Nat) (T : TypeId) (cs : Array Value) : Prop := w.heap[b]? = some (.cells cs T (0, 0))

theorem Blk.cell {w : World} {b : Nat} {T : TypeId} {cs : Array Value} (h : Blk w b T cs) : ∀ o, w.cell? ⟨b, o, none⟩ = cs[o]? := by
  intro o; unfold Blk at h; simp [World.cell?, h]
theorem Blk.froz {w : World} {b : Nat} {T : TypeId} {cs : Array Value} (h : Blk w b T cs) : ∀ o, w.frozen? ⟨b, o, none⟩ = false := by
  intro o; unfold Blk at h; simp [World.frozen?, h]
theorem Blk.lt {w : World} {b : Nat} {T : TypeId} {cs : Array Value} (h : Blk w b T cs) : b < w.heap.size := (Array.getElem?_eq_some_iff.1 h).1
theorem Blk.at_ {w : World} {b : Nat} {T : TypeId} {cs : Array Value} (h : Blk w b T cs) {o : Nat} {v : Value} (hv : cs[o]? = some v) : w.cell? ⟨b, o, none⟩ = some v := by rw [h.cell, hv]
theorem Blk.ne {w : World} {b b' : Nat} {T T' : TypeId} {cs cs' : Array Value} (h : Blk w b T cs) (h' : Blk w b' T' cs') (hT : T ≠ T') : b ≠ b' := by
  rintro rfl; unfold Blk at h h'; rw [h] at h'; simp at h'; exact hT h'.2
theorem Blk.ne_old {w w' : World} {b b' : Nat} {T T' : TypeId} {cs cs' : Array Value} (h : Blk w b T cs) (_h' : Blk w' b' T' cs') (hb : w.heap.size ≤ b') : b ≠ b' := by
  have := h.lt; omega

theorem heap_set (w : World) (g i : Nat) (u : Value) (b : Nat) (hb : b ≠ g) : (w.setCell ⟨g, i, none⟩ u).heap[b]? = w.heap[b]? := Below.heap_setCell _ _ _ _ hb
theorem heap_alloc (w : World) (o : Obj) (b : Nat) (hb : b < w.heap.size) : (w.alloc o).heap[b]? = w.heap[b]? := Below.heap_alloc _ _ _ hb
theorem heap_new (w : World) (o : Obj) : (w.alloc o).heap[w.heap.size]? = some o := by show (w.heap.push o)[w.heap.size]? = some o; simp

theorem Blk.set {w : World} {b : Nat} {T : TypeId} {cs : Array Value} (h : Blk w b T cs) (i : Nat) (u : Value) : Blk (w.setCell ⟨b, i, none⟩ u) b T (cs.setIfInBounds i u) := by
  unfold Blk at *
  simp only [World.setCell, Array.getElem?_modify, if_true, h]
  simp
theorem Blk.far {w : World} {b : Nat} {T : TypeId} {cs : Array Value} (h : Blk w b T cs) {g : Nat} (hg : b ≠ g) (i : Nat) (u : Value) : Blk (w.setCell ⟨g, i, none⟩ u) b T cs := by
  unfold Blk at *; rw [heap_set _ _ _ _ _ hg]; exact h
theorem Blk.drewN {w : World} {b : Nat} {T : TypeId} {cs : Array Value} (h : Blk w b T cs) (n : Nat) : Blk (w.drewN n) b T cs := h
theorem Blk.drew {w : World} {b : Nat} {T : TypeId} {cs : Array Value} (h : Blk w b T cs) : Blk w.drew b T cs := h
theorem Blk.alloc {w : World} {b : Nat} {T : TypeId} {cs : Array Value} (h : Blk w b T cs) (o : Obj) : Blk (w.alloc o) b T cs := by
  unfold Blk; rw [heap_alloc _ _ _ h.lt]; exact h
theorem Blk.new (w : World) (T : TypeId) (cs : Array Value) : Blk (w.alloc (.cells cs T (0, 0))) w.heap.size T cs := heap_new _ _

/-- The frame: the streams are as they were; no block has gone; of what was there only blocks of S may have turned. -/
structure Keep (S : List Nat) (w w' : World) : Prop where
  os : w'.os = w.os
  tape : w'.tape = w.tape
  output : w'.output = w.output
  size : w.heap.size ≤ w'.heap.size
  block : ∀ k, k < w.heap.size → k ∉ S → w'.heap[k]? = w.heap[k]?

theorem Keep.refl (S : List Nat) (w : World) : Keep S w w := ⟨rfl, rfl, rfl, Nat.le_refl _, fun _ _ _ => rfl⟩
theorem Keep.drewN {S : List Nat} {w w' : World} (h : Keep S w w') (n : Nat) : Keep S w (w'.drewN n) := ⟨h.os, h.tape, h.output, h.size, h.block⟩
theorem Keep.drew {S : List Nat} {w w' : World} (h : Keep S w w') : Keep S w w'.drew := ⟨h.os, h.tape, h.output, h.size, h.block⟩
theorem Keep.alloc {S : List Nat} {w w' : World} (h : Keep S w w') (o : Obj) : Keep S w (w'.alloc o) :=
  ⟨h.os, h.tape, h.output, by have := h.size; simp; omega, fun k hk hS => by rw [heap_alloc _ _ _ (by have := h.size; omega)]; exact h.block k hk hS⟩
theorem Keep.set {S : List Nat} {w w' : World} (h : Keep S w w') {g : Nat} (hg : g ∈ S ∨ w.heap.size ≤ g) (i : Nat) (u : Value) : Keep S w (w'.setCell ⟨g, i, none⟩ u) :=
  ⟨h.os, h.tape, h.output, by have := h.size; simp; omega, fun k hk hS => by
    rw [heap_set _ _ _ _ _ (by rintro rfl; rcases hg with hg | hg; exact hS hg; omega)]; exact h.block k hk hS⟩
theorem Keep.trans {S S1 : List Nat} {w w1 w2 : World} (h : Keep S w w1) (k : Keep S1 w1 w2) (hS : ∀ b ∈ S1, b ∈ S ∨ w.heap.size ≤ b) : Keep S w w2 :=
  ⟨k.os.trans h.os, k.tape.trans h.tape, k.output.trans h.output, Nat.le_trans h.size k.size, fun i hi hn => by
    rw [k.block i (by have := h.size; omega) (fun hm => by rcases hS i hm with h1 | h1; exact hn h1; omega)]; exact h.block i hi hn⟩
theorem Keep.mono {S S' : List Nat} {w w' : World} (h : Keep S w w') (hS : ∀ b ∈ S, b ∈ S' ∨ w.heap.size ≤ b) : Keep S' w w' := (Keep.refl S' w).trans h hS
theorem Keep.heap {S : List Nat} {w w' : World} (h : Keep S w w') {b : Nat} {o : Obj} (hb : w.heap[b]? = some o) (hn : b ∉ S) : w'.heap[b]? = some o :=
  (h.block b (Array.getElem?_eq_some_iff.1 hb).1 hn).trans hb
theorem Blk.keep {S : List Nat} {w w' : World} {b : Nat} {T : TypeId} {cs : Array Value} (h : Blk w b T cs) (k : Keep S w w') (hn : b ∉ S) : Blk w' b T cs := k.heap h hn
theorem Keep.below {w w' : World} (h : Keep [] w w') : Below w.heap.size w w' := ⟨h.os, h.tape, h.output, h.size, fun k hk => h.block k hk (by simp)⟩
theorem Keep.of_below {w w' : World} (h : Below w.heap.size w w') (S : List Nat) : Keep S w w' := ⟨h.os, h.tape, h.output, h.size, fun k hk _ => h.block k hk⟩

theorem Hid.mk {p : Prop} (h : p) : RowKit.Hid p := h

theorem ret_int {k : IntKind} {a b : Int} (h : a = b) : Ending.returned (.int k a) = .returned (.int k b) := by rw [h]
theorem ret2_int {k : IntKind} {a b : Int} {v : Value} (h : a = b) : Ending.returned (.tuple #[.int k a, v]) = .returned (.tuple #[.int k b, v]) := by rw [h]
theorem ret_bool {a b : Bool} (h : a = b) : Ending.returned (.bool a) = .returned (.bool b) := by rw [h]

/-- Only draws lie between. -/
def Drawn (w w' : World) : Prop := ∃ n, w' = w.drewN n
theorem Drawn.refl (w : World) : Drawn w w := ⟨0, rfl⟩
theorem Drawn.step {w w' : World} (h : Drawn w w') (n : Nat) : Drawn w (w'.drewN n) := by
  obtain ⟨m, rfl⟩ := h; exact ⟨m + n, by simp [World.drewN, Nat.add_assoc]⟩

end Go.Hay
