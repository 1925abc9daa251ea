/- Contracts of inplace.Reader. -/
import Derived.Test.YtlgebknbfchnlaaWriter3
import Derived.Test.YtlgebknbfchnlaaBytes
import Derived.Deep.RegionWith
namespace Go.Proofs.Ytlgebknbfchnlaa
open Go Go.RowKit Go.Hay Go.Proofs.YtlgebknbfchnlaaW.PrintWords

theorem Below.zero {n : Nat} {w w' : World} (h : Below n w w') : Below 0 w w' := ⟨h.os, h.tape, h.output, h.size, fun _ hk => absurd hk (Nat.not_lt_zero _)⟩
theorem Keep.of_grown {w w' : World} {row : Option Nat} (h : w.grownBy w' row) : Keep row.toList w w' :=
  ⟨h.os, h.tape, h.output, h.size, fun k hk hn => h.block k hk (by rintro rfl; simp at hn)⟩

/-- A reader. -/
structure Rd where
  p : Nat
  state : Nat
  n : Nat
  v : Value
  l : List Int
  seen : Int
  val : ByteArray

structure RdAt (w : World) (b : Nat) (lk va : Int) (nw : Nat) (r : Rd) : Prop where
  blk : Blk w r.p 113 #[.pointer (some ⟨b, 0, none⟩), .int .u64 lk, .int .u64 va, .int .i64 nw, .int .i64 r.state, .int .i64 r.n, r.v, .int .u64 r.seen, .string r.val]
  row : Own .u64 22 w 0 r.v r.l
  range : ∀ x ∈ r.l, U64 x
  len : r.l.length ≤ 100
  n9 : r.n ≤ 1000
  st : r.state ≤ 4

def Rd.fp (r : Rd) : List Nat := r.p :: r.v.ownBlock.toList
theorem RdAt.keep {S : List Nat} {w w' : World} {b : Nat} {lk va : Int} {nw : Nat} {r : Rd} (h : RdAt w b lk va nw r) (k : Keep S w w') (hS : ∀ g ∈ r.fp, g ∉ S) : RdAt w' b lk va nw r :=
  ⟨h.blk.keep k (hS _ (by simp [Rd.fp])), h.row.keepB k (fun g hg => hS g (by simp [Rd.fp, hg])), h.range, h.len, h.n9, h.st⟩
theorem RdAt.drewN {w : World} {b : Nat} {lk va : Int} {nw : Nat} {r : Rd} (h : RdAt w b lk va nw r) (n : Nat) : RdAt (w.drewN n) b lk va nw r := h.keep ((Keep.refl [] w).drewN n) (by simp)
theorem RdAt.lt {w : World} {b : Nat} {lk va : Int} {nw : Nat} {r : Rd} (h : RdAt w b lk va nw r) : ∀ g ∈ r.fp, g < w.heap.size := by
  intro g hg
  simp [Rd.fp] at hg
  rcases hg with rfl | hg
  · exact h.blk.lt
  · exact (h.row.lt hg).2
theorem RdAt.ne {w : World} {b : Nat} {lk va : Int} {nw : Nat} {r : Rd} (h : RdAt w b lk va nw r) {g : Nat} (hg : r.v.ownBlock = some g) : r.p ≠ g := by
  obtain ⟨cs, hc⟩ := own_typed h.row.row g hg
  rintro rfl
  have := h.blk
  unfold Blk at this
  rw [hc] at this
  simp at this

def Rd.apart (r : Rd) (x : Buf) : Prop := ∀ g ∈ r.fp, g ∉ x.all

/-- What a move of a reader comes to (its row's place apart). -/
def Rd.step (r : Rd) (x : Buf) (va : Int) (nw : Nat) (h : Bool) (c : Int) : Int × Rd :=
  if r.state = 0 then (if h then (3, r) else (1, { r with seen := c, l := [], state := 1 }))
  else if r.state = 1 then
    (if r.l.length < nw then (1, { r with l := r.l ++ [x.at_ (va + r.l.length)] })
     else if LK h c = r.seen then (2, { r with val := strOfNums (bytesL r.l r.n), state := 4 }) else (3, { r with state := 0 }))
  else (2, r)

structure Rd.Fit (r : Rd) (x : Buf) (lk va : Int) (nw : Nat) (h : Bool) (c : Int) : Prop where
  lock : x.at_ lk = LK h c
  c0 : 0 ≤ c
  c1 : c < 4294967296
  lk0 : 0 ≤ lk
  lkin : x.ain lk = true
  va0 : 0 ≤ va
  va9 : va ≤ 1000000
  vain : ∀ j : Nat, j < nw → x.ain (va + j) = true
  nw1 : nw ≤ 99
  nwn : nw = (r.n + 7) / 8
  le : r.l.length ≤ nw
  zero : r.state = 1 → r.l.length = nw → LK h c = r.seen → ∀ i, r.n ≤ i → i < 8 * r.l.length → byteAt r.l i = 0

theorem RdAt.turn {w w' : World} {b : Nat} {lk va : Int} {nw : Nat} {r : Rd} {u : Int} (h : RdAt w b lk va nw r) {t : Nat} (ht : t ≤ 4) (hb : Blk w' r.p 113 #[.pointer (some ⟨b, 0, none⟩), .int .u64 lk, .int .u64 va, .int .i64 nw, .int .i64 t, .int .i64 r.n, .slice none 0 0, .int .u64 u, .string r.val]) :
    RdAt w' b lk va nw { r with seen := u, v := .slice none 0 0, l := [], state := t } :=
  ⟨hb, Own.nil _ _ _ _, by simp, by simp, h.n9, ht⟩

set_option maxRecDepth 100000 in
theorem rlook_no (x : Buf) (lk va : Int) (nw : Nat) (r : Rd) (w : World) (hx : BufAt w x) (h : RdAt w x.b lk va nw r) (h0 : 0 ≤ lk) (hi : x.ain lk = false) :
    Calls Try.prog 56 #[.pointer (some ⟨r.p, 0, none⟩)] w fun e w' => e = .returned (.tuple #[.int .i64 0, .int .i64 7]) ∧ Drawn w w' := by
  have hc := h.blk.cell
  have HL := Hid.mk (fun W (hW : BufAt W x) => Calls.of_drawn (bload_no x lk W hW h0 hi))
  clear hi
  go_enter Try.func56, Try.ntmps56
  go_wp2_with fail
  go_quiet ((go_at_call 27; exact Calls.quiet_of (HL.out _ (hx.drewN _))))
  go_wp2_with fail
  go_ret2
  exact ⟨rfl, _, rfl⟩

set_option maxRecDepth 100000 in
theorem rlook_busy (x : Buf) (lk va : Int) (nw : Nat) (r : Rd) (c : Int) (w : World) (hx : BufAt w x) (h : RdAt w x.b lk va nw r) (h0 : 0 ≤ lk) (hi : x.ain lk = true) (hl : x.at_ lk = LK true c) (c0 : 0 ≤ c) (c1 : c < 4294967296) :
    Calls Try.prog 56 #[.pointer (some ⟨r.p, 0, none⟩)] w fun e w' => e = .returned (.tuple #[.int .i64 3, .int .i64 0]) ∧ Drawn w w' := by
  have hc := h.blk.cell
  have HL := Hid.mk (fun W (hW : BufAt W x) => Calls.of_drawn (bload_ok x lk W hW h0 hi))
  have HB := Hid.mk (fun W => Calls.of_drawn (hlocked true c W c0 c1))
  rw [hl] at HL
  clear hi hl
  generalize LK true c = u at *
  go_enter Try.func56, Try.ntmps56
  go_wp2_with fail
  go_quiet ((go_at_call 27; exact Calls.quiet_of (HL.out _ (hx.drewN _))))
  go_wp2_with ((go_at_call 86; refine (HB.out _).mono ?_; rintro e w' ⟨rfl, ⟨m1, rfl⟩⟩))
  go_ret2
  exact ⟨rfl, _, rfl⟩

set_option maxRecDepth 100000 in
theorem rlook_ok (x : Buf) (lk va : Int) (nw : Nat) (r : Rd) (c : Int) (w : World) (hx : BufAt w x) (h : RdAt w x.b lk va nw r) (h0 : 0 ≤ lk) (hi : x.ain lk = true) (hl : x.at_ lk = LK false c) (c0 : 0 ≤ c) (c1 : c < 4294967296) :
    Calls Try.prog 56 #[.pointer (some ⟨r.p, 0, none⟩)] w fun e w' => e = .returned (.tuple #[.int .i64 1, .int .i64 0]) ∧ RdAt w' x.b lk va nw { r with seen := c, v := .slice none 0 0, l := [], state := 1 } ∧ Keep [r.p] w w' := by
  have hc := h.blk.cell
  have hf := h.blk.froz
  have HL := Hid.mk (fun W (hW : BufAt W x) => Calls.of_drawn (bload_ok x lk W hW h0 hi))
  have HB := Hid.mk (fun W => Calls.of_drawn (hlocked false c W c0 c1))
  have hlf : LK false c = c := rfl
  rw [hl] at HL
  rw [hlf] at HL HB
  clear hi hl hlf
  go_enter Try.func56, Try.ntmps56
  go_wp2_with fail
  go_quiet ((go_at_call 27; exact Calls.quiet_of (HL.out _ (hx.drewN _))))
  go_wp2_with ((go_at_call 86; refine (HB.out _).mono ?_; rintro e w' ⟨rfl, ⟨m1, rfl⟩⟩))
  go_ret2
  refine ⟨rfl, h.turn (t := 1) (by omega) ?_, ?_⟩
  · have := (((h.blk.drewN (nq + m1)).set 7 (.int .u64 c)).set 6 (.slice none 0 0)).set 4 (.int .i64 1)
    simpa using this
  · exact (((((Keep.refl [r.p] w).drewN _).set (by simp) _ _).set (by simp) _ _).set (by simp) _ _)

set_option maxRecDepth 100000 in
theorem rread_ok (x : Buf) (lk va : Int) (nw : Nat) (r : Rd) (w : World) (hx : BufAt w x) (h : RdAt w x.b lk va nw r) (h0 : 0 ≤ va) (h9 : va ≤ 1000000) (hi : x.ain (va + r.l.length) = true) (hl : r.l.length < 100) (hU : U64 (x.at_ (va + r.l.length))) :
    Calls Try.prog 57 #[.pointer (some ⟨r.p, 0, none⟩)] w fun e w' => e = .returned (.tuple #[.int .i64 1, .int .i64 0]) ∧ ∃ v', RdAt w' x.b lk va nw { r with l := r.l ++ [x.at_ (va + r.l.length)], v := v' } ∧ (∀ g, v'.ownBlock = some g → r.v.ownBlock = some g ∨ w.heap.size ≤ g) ∧ Keep r.fp w w' := by
  have hc := h.blk.cell
  have HL := Hid.mk (fun W (hW : BufAt W x) => Calls.of_drawn (bload_ok x (va + r.l.length) W hW (by omega) hi))
  generalize hu : x.at_ (va + r.l.length) = u at *
  clear hi hu
  obtain ⟨A, cap, hv, hlc, hC, hb⟩ := h.row.reads
  rw [hv] at hc
  go_enter Try.func57, Try.ntmps57
  go_wp2_with fail
  go_quiet ((go_at_call 27; exact Calls.quiet_of (HL.out _ (hx.drewN _))))
  have hown : Own .u64 22 (w.drewN nq) 0 (.slice A r.l.length cap) r.l := hv ▸ h.row.drewN nq
  have hlt : r.p < (w.drewN nq).heap.size := h.blk.lt
  have hblk := h.blk.drewN nq
  rw [hv] at hblk
  have hne0 : r.p ∉ (Value.slice A r.l.length cap).ownBlock.toList := by
    intro hm
    simp at hm
    exact h.ne (hv ▸ hm) rfl
  go_wp2_with ((at_builtin; refine Kd.R_append (Kd.int .u64) (w0 := w) 0 rfl (.tmp 34) (.tmp 36) 40 22 (.int .u64 0) 8 rfl Try.underlying40 info_u64 rfl (by decide) (by omega) (.slice A r.l.length cap) r.l u [.int .u64 u] (fun _ => True) (fun _ => False) rfl rfl rfl (fun _ hk => hk.elim) (fun _ _ => trivial) hown (Below.zero ((Keep.refl [] w).drewN nq).below) (Nat.zero_le _) (by omega) ?_; intro v1 w1 ho hb hg hat; obtain ⟨A1, c1, rfl, _⟩ := Own.reads ho; have hb1 := hblk.keep (Keep.of_grown hg) hne0; have hc1 := hb1.cell; have hf1 := hb1.froz))
  go_ret2
  have hk1 : Keep r.fp w w1 := ((Keep.refl r.fp w).drewN nq).trans (Keep.of_grown hg) (fun b hb => .inl (by rw [← hv] at hb; exact List.mem_cons_of_mem _ hb))
  have hset := (Keep.refl [r.p] w1).set (g := r.p) (by simp) 6 (.slice A1 (r.l ++ [u]).length c1)
  simp only [List.length_append, List.length_singleton] at hset
  refine ⟨rfl, _, ⟨by simpa using hb1.set 6 _, Own.keepB ho hset ?_, ?_, by simp; omega, h.n9, h.st⟩, ?_, hk1.trans hset (by simp [Rd.fp])⟩
  · intro g hg2 hm
    simp at hm
    subst hm
    rcases hat with h1 | ⟨b, h1, h2⟩
    · rw [h1, ← hv] at hg2; exact h.ne hg2 rfl
    · rw [hg2] at h1; injection h1 with h1; subst h1; exact Nat.not_lt.2 h2 hlt
  · intro y hy
    rcases List.mem_append.1 hy with h1 | h1
    · exact h.range y h1
    · simp at h1; subst h1; exact hU
  · intro g hg2
    rcases hat with h1 | ⟨b, h1, h2⟩
    · rw [h1, ← hv] at hg2; exact .inl hg2
    · rw [hg2] at h1; injection h1 with h1; subst h1; exact .inr h2

set_option maxRecDepth 100000 in
theorem rcheck_no (x : Buf) (lk va : Int) (nw : Nat) (r : Rd) (u : Int) (w : World) (hx : BufAt w x) (h : RdAt w x.b lk va nw r) (h0 : 0 ≤ lk) (hi : x.ain lk = true) (hl : x.at_ lk = u) (hs : u ≠ r.seen) :
    Calls Try.prog 58 #[.pointer (some ⟨r.p, 0, none⟩)] w fun e w' => e = .returned (.tuple #[.int .i64 3, .int .i64 0]) ∧ RdAt w' x.b lk va nw { r with state := 0 } ∧ Keep [r.p] w w' := by
  have hc := h.blk.cell
  have hf := h.blk.froz
  have HL := Hid.mk (fun W (hW : BufAt W x) => Calls.of_drawn (bload_ok x lk W hW h0 hi))
  rw [hl] at HL
  clear hi hl
  have hd : (u != r.seen) = true := bne_iff_ne.2 hs
  have hd2 : decide (u = r.seen) = false := by simpa using hs
  clear hs
  go_enter Try.func58, Try.ntmps58
  go_wp2_with fail
  go_quiet ((go_at_call 27; exact Calls.quiet_of (HL.out _ (hx.drewN _))))
  go_wp2_with fail
  go_ret2
  have hset : Keep [r.p] w ((w.drewN nq).setCell ⟨r.p, 4, none⟩ (.int .i64 0)) := ((Keep.refl _ _).drewN _).set (by simp) _ _
  exact ⟨rfl, ⟨by simpa using (h.blk.drewN nq).set 4 (.int .i64 0), h.row.keepB hset (fun g hg => by have := h.ne hg; simpa using this.symm), h.range, h.len, h.n9, by simp⟩, hset⟩
end Go.Proofs.Ytlgebknbfchnlaa
