/- Contracts of package pages: what reads. -/
import Derived.Test.YtlgebknbfchnlaaField
import Derived.Deep.RegionHeld3
namespace Go.Proofs.Ytlgebknbfchnlaa
open Go Go.RowKit Go.Hay Go.Proofs.YtlgebknbfchnlaaW.PrintWords

/-- A buffer, by its blocks and what it has. -/
structure Buf where
  bits : Nat
  b : Nat
  R : Nat
  C : Nat
  RH : Nat
  CH : Nat
  words : List Int
  holder : List Int

/-- What holders tell: each 0, or a page that belongs there, and one. -/
def Marks (l : List Int) : Prop := ∀ i, i < l.length → l.getD i 0 = 0 ∨ (0 < l.getD i 0 ∧ l.getD i 0 ≤ 9223372036854775808 ∧ (l.getD i 0 - 1) % l.length = i)
theorem getD_set (l : List Int) (i j : Nat) (v : Int) : (l.set i v).getD j 0 = if i = j ∧ j < l.length then v else l.getD j 0 := by
  simp only [List.getD_eq_getElem?_getD, List.getElem?_set]
  by_cases h : i = j
  · subst h
    by_cases h2 : i < l.length
    · simp [h2]
    · simp [h2]
  · simp [h]
theorem Marks.zero {l : List Int} (h : Marks l) (i : Nat) : Marks (l.set i 0) := by
  intro j hj
  rw [List.length_set] at *
  rw [getD_set]
  split
  · exact .inl rfl
  · exact h j hj
theorem Marks.page {l : List Int} (h : Marks l) {p : Int} (h0 : 0 ≤ p) (hm : p ≤ 9223372036854775807) : Marks (l.set (p % l.length).toNat (p + 1)) := by
  intro j hj
  rw [List.length_set] at *
  rw [getD_set]
  split
  · rename_i hc
    have := Int.emod_nonneg p (show (l.length : Int) ≠ 0 by omega)
    refine .inr ⟨by omega, by omega, ?_⟩
    rw [show p + 1 - 1 = p by omega]
    omega
  · exact h j hj
theorem Marks.fresh (n : Nat) : Marks (List.replicate n 0) := by
  intro i hi
  left
  rw [List.getD_eq_getElem?_getD, List.getElem?_replicate]
  split <;> rfl

structure BufAt (w : World) (x : Buf) : Prop where
  buf : Blk w x.b 104 #[.int .i64 x.bits, .pointer (some ⟨x.R, 0, none⟩), .pointer (some ⟨x.RH, 0, none⟩)]
  words : RowAt w x.R x.C x.words
  holder : RowAt w x.RH x.CH x.holder
  bits : 5 ≤ x.bits ∧ x.bits ≤ 9
  frames : 2 ≤ x.holder.length ∧ x.holder.length ≤ 8
  size : x.words.length = x.holder.length * 2 ^ x.bits
  neR : x.R ≠ x.RH
  neC : x.C ≠ x.CH
  marks : Marks x.holder

/-- The blocks that a buffer's calls may write. -/
def Buf.fp (x : Buf) : List Nat := [x.R, x.C, x.RH, x.CH]
/-- All its blocks. -/
def Buf.all (x : Buf) : List Nat := x.b :: x.fp

theorem BufAt.keep {S : List Nat} {w w' : World} {x : Buf} (h : BufAt w x) (k : Keep S w w') (hS : ∀ b ∈ x.all, b ∉ S) : BufAt w' x :=
  ⟨h.buf.keep k (hS _ (by simp [Buf.all])), h.words.keep k (hS _ (by simp [Buf.all, Buf.fp])) (hS _ (by simp [Buf.all, Buf.fp])), h.holder.keep k (hS _ (by simp [Buf.all, Buf.fp])) (hS _ (by simp [Buf.all, Buf.fp])), h.bits, h.frames, h.size, h.neR, h.neC, h.marks⟩
theorem BufAt.drewN {w : World} {x : Buf} (h : BufAt w x) (n : Nat) : BufAt (w.drewN n) x := h.keep ((Keep.refl [] w).drewN n) (by simp)
theorem BufAt.drawn {w w' : World} {x : Buf} (h : BufAt w x) (d : Drawn w w') : BufAt w' x := by obtain ⟨n, rfl⟩ := d; exact h.drewN n
theorem BufAt.ne_b {w : World} {x : Buf} (h : BufAt w x) : x.b ∉ x.fp := by
  obtain ⟨_, _, h1⟩ := h.words.row
  obtain ⟨_, _, h2⟩ := h.holder.row
  have a1 := h.buf.ne h1 (by decide)
  have a2 := h.buf.ne h.words.cells (by decide)
  have a3 := h.buf.ne h2 (by decide)
  have a4 := h.buf.ne h.holder.cells (by decide)
  simp [Buf.fp, a1, a2, a3, a4]
theorem BufAt.lt {w : World} {x : Buf} (h : BufAt w x) : ∀ b ∈ x.all, b < w.heap.size := by
  have h1 := h.words.lt
  have h2 := h.holder.lt
  have h3 := h.buf.lt
  intro b hb
  simp [Buf.all, Buf.fp] at hb
  omega
/-- Rows and cells apart. -/
theorem BufAt.nes {w : World} {x : Buf} (h : BufAt w x) : x.R ≠ x.C ∧ x.R ≠ x.CH ∧ x.RH ≠ x.C ∧ x.RH ≠ x.CH := by
  obtain ⟨_, _, h1⟩ := h.words.row
  obtain ⟨_, _, h2⟩ := h.holder.row
  exact ⟨h1.ne h.words.cells (by decide), h1.ne h.holder.cells (by decide), h2.ne h.words.cells (by decide), h2.ne h.holder.cells (by decide)⟩

def Buf.nf (x : Buf) : Int := x.holder.length
def Buf.fr (x : Buf) (p : Int) : Int := p % x.nf
/-- Is a page in? -/
def Buf.has (x : Buf) (p : Int) : Bool := decide (0 ≤ p ∧ x.holder.getD (x.fr p).toNat 0 = p + 1)
theorem BufAt.fr_bd {w : World} {x : Buf} (h : BufAt w x) (p : Int) : 0 ≤ x.fr p ∧ x.fr p < x.holder.length ∧ x.fr p < 8 := by
  have h1 := h.frames
  unfold Buf.fr Buf.nf
  have a := Int.emod_nonneg p (show (x.holder.length : Int) ≠ 0 by omega)
  have b := Int.emod_lt_of_pos p (show (0 : Int) < (x.holder.length : Int) by omega)
  omega

set_option maxRecDepth 100000 in
theorem bbits_ok (x : Buf) (w : World) (h : BufAt w x) :
    Calls Try.prog 38 #[.pointer (some ⟨x.b, 0, none⟩)] w fun e w' => e = .returned (.int .i64 x.bits) ∧ w = w' := by
  have h1 := h.buf.cell
  go_enter Try.func38, Try.ntmps38
  go_wp2_with fail
  go_ret
  exact ⟨rfl, rfl⟩

set_option maxRecDepth 100000 in
theorem bframes_ok (x : Buf) (w : World) (h : BufAt w x) :
    Calls Try.prog 39 #[.pointer (some ⟨x.b, 0, none⟩)] w fun e w' => e = .returned (.int .i64 x.nf) ∧ w = w' := by
  have h1 := h.buf.cell
  go_enter Try.func39, Try.ntmps39
  go_wp2_with (first | (go_at_call 76; refine (row_len _ _ _ _ h.holder).mono ?_; rintro e w' ⟨rfl, rfl⟩))
  go_ret
  exact ⟨rfl, rfl⟩

set_option maxRecDepth 100000 in
theorem bframe_ok (x : Buf) (p : Int) (w : World) (h : BufAt w x) (h0 : 0 ≤ p) (hm : p ≤ 9223372036854775807) :
    Calls Try.prog 70 #[.pointer (some ⟨x.b, 0, none⟩), .int .i64 p] w fun e w' => e = .returned (.int .i64 (x.fr p)) ∧ w = w' := by
  have h1 := h.buf.cell
  have hf := h.frames
  unfold Buf.fr Buf.nf
  go_enter Try.func70, Try.ntmps70
  go_wp2_with (first | (go_at_call 76; refine (row_len _ _ _ _ h.holder).mono ?_; rintro e w' ⟨rfl, rfl⟩))
  go_ret
  exact ⟨rfl, rfl⟩

set_option maxRecDepth 100000 in
theorem pmark_ok (p : Int) (w : World) (h0 : 0 ≤ p) (hm : p ≤ 9223372036854775807) :
    Calls Try.prog 72 #[.int .i64 p] w fun e w' => e = .returned (.int .u64 (p + 1)) ∧ w = w' := by
  go_enter Try.func72, Try.ntmps72
  go_wp2_with fail
  go_ret
  exact ⟨rfl, rfl⟩

theorem Calls.of_eq {P : Program} {f : FuncId} {args : Array Value} {w : World} {v : Value} (h : Calls P f args w fun e w' => e = .returned v ∧ w = w') : Calls P f args w fun e w' => e = .returned v ∧ w' = w := h.mono fun _ _ h => ⟨h.1, h.2.symm⟩
theorem Calls.of_drawn {P : Program} {f : FuncId} {args : Array Value} {w : World} {v : Value} (h : Calls P f args w fun e w' => e = .returned v ∧ Drawn w w') : Calls P f args w fun e w' => e = .returned v ∧ ∃ n, w' = w.drewN n := h

theorem Calls.quiet_of_drawn {P : Program} {f : FuncId} {args : Array Value} {w : World} {n : Nat} {v : Value} (h : Calls P f args (w.drewN n) fun e w' => e = .returned v ∧ ∃ m, w' = (w.drewN n).drewN m) :
    Calls P f args (w.drewN n) fun e w' => e = .returned v ∧ ∃ n', w' = w.drewN n' := h.mono fun _ _ h => ⟨h.1, by obtain ⟨m, hm⟩ := h.2; exact ⟨n + m, by rw [hm, World.drewN_drewN]⟩⟩

set_option maxRecDepth 100000 in
theorem bhas_ok (x : Buf) (p : Int) (w : World) (h : BufAt w x) (hm : p ≤ 9223372036854775807) (c : Bool) (hc : x.has p = c) :
    Calls Try.prog 36 #[.pointer (some ⟨x.b, 0, none⟩), .int .i64 p] w fun e w' => e = .returned (.bool c) ∧ Drawn w w' := by
  subst hc
  have h1 := h.buf.cell
  obtain ⟨f0, f1, f2⟩ := h.fr_bd p
  by_cases h0 : 0 ≤ p
  · have hd : decide (0 ≤ p) = true := by simpa using h0
    have hv := h.holder.range _ (getD_mem (xs := x.holder) (i := (x.fr p).toNat) (by omega))
    have HF := Hid.mk (fun W (hW : BufAt W x) => Calls.of_eq (bframe_ok x p W hW h0 hm))
    have HL := Hid.mk (fun W (hW : BufAt W x) => Calls.of_eq (row_load _ _ _ (x.fr p) W hW.holder f0 f1))
    have HM := Hid.mk (fun W => Calls.of_eq (pmark_ok p W h0 hm))
    have e : x.has p = (x.holder.getD (x.fr p).toNat 0 == p + 1) := by unfold Buf.has; simp [h0]; rfl
    rw [e]
    clear e
    generalize x.holder.getD (x.fr p).toNat 0 = v at *
    generalize x.fr p = f at *
    obtain ⟨v0, v1⟩ := hv
    go_enter Try.func36, Try.ntmps36
    go_wp2_with fail
    go_quiet ((first | (go_at_call 70; exact Calls.quiet_of_same (HF.out _ (h.drewN _))) | (go_at_call 65; exact Calls.quiet_of_same (HL.out _ (h.drewN _))) | (go_at_call 72; exact Calls.quiet_of_same (HM.out _))))
    go_wp2_with fail
    go_ret
    exact ⟨rfl, _, rfl⟩
  · have hd : decide (0 ≤ p) = false := by simpa using h0
    have e : x.has p = false := by unfold Buf.has; simp [h0]
    rw [e]
    clear e
    go_enter Try.func36, Try.ntmps36
    go_wp2_with fail
    go_quiet (fail)
    go_wp2_with fail
    go_ret
    exact ⟨rfl, _, rfl⟩
end Go.Proofs.Ytlgebknbfchnlaa
