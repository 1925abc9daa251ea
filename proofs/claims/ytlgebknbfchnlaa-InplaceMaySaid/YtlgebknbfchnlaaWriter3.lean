/- Contracts of inplace.Writer, part 3: Move, Holds. -/
import Derived.Test.YtlgebknbfchnlaaWriter2
namespace Go.Proofs.Ytlgebknbfchnlaa
open Go Go.RowKit Go.Hay Go.Proofs.YtlgebknbfchnlaaW.PrintWords

/-- What a move of a writer comes to, at a lock that is held or free and was written c times. -/
def Wr.step (r : Wr) (x : Buf) (lk va : Int) (nw : Nat) (h : Bool) (c : Int) : Int × Buf × Wr :=
  if r.state = 0 then (if h then (3, x, r) else (1, x.put lk (LK true c), { r with held := LK true c, state := r.nextS nw 1 }))
  else if r.state = 1 then (1, x, { r with l := r.l.set 0 (IntKind.u64.wrap (x.at_ va + r.n)), state := r.nextS nw 2 })
  else if r.state = 2 then (1, x.put (va + r.at_) (r.l.getD r.at_ 0), { r with at_ := r.at_ + 1, state := ({ r with at_ := r.at_ + 1 } : Wr).nextS nw 2 })
  else if r.state = 3 then (2, x.put lk ((c + 1) % 4294967296), { r with state := 4 })
  else (2, x, r)

/-- A writer that may move. -/
structure Wr.Fit (r : Wr) (x : Buf) (lk va : Int) (nw : Nat) (h : Bool) (c : Int) : Prop where
  lock : x.at_ lk = LK h c
  c0 : 0 ≤ c
  c1 : c < 4294967296
  lk0 : 0 ≤ lk
  lkin : x.ain lk = true
  va0 : 0 ≤ va
  va9 : va ≤ 1000000
  vain : ∀ j : Nat, j < nw → x.ain (va + j) = true
  nw1 : nw ≤ 100
  s1 : r.state = 1 → 1 ≤ nw ∧ 1 ≤ r.l.length
  s2 : r.state = 2 → r.at_ < nw ∧ r.at_ < r.l.length
  s3 : r.state = 3 → r.held = LK true c

set_option maxRecDepth 100000 in
theorem wmove_no (x : Buf) (lk va : Int) (nw : Nat) (r : Wr) (w : World) (hx : BufAt w x) (h : WrAt w x.b lk va nw r) (h0 : 0 ≤ lk) (hi : x.ain lk = false) (hs : r.state = 0) :
    Calls Try.prog 15 #[.pointer (some ⟨r.p, 0, none⟩)] w fun e w' => e = .returned (.tuple #[.int .i64 0, .int .i64 7]) ∧ Drawn w w' := by
  have hc := h.blk.cell
  rw [hs] at hc
  have HT := Hid.mk (Calls.of_drawn (wtake_no x lk va nw r w hx h h0 hi))
  clear hi hs h
  go_enter Try.func15, Try.ntmps15
  go_wp2_with ((go_at_call 52; refine HT.out.mono ?_; rintro e w' ⟨rfl, ⟨m1, rfl⟩⟩))
  go_ret2
  exact ⟨rfl, _, rfl⟩

set_option maxRecDepth 100000 in
theorem wmove_nil (w : World) : Calls Try.prog 15 #[.pointer none] w fun e w' => e = .returned (.tuple #[.int .i64 0, .int .i64 2]) ∧ w = w' := by
  go_enter Try.func15, Try.ntmps15
  go_wp2_with fail
  go_ret2
  exact ⟨rfl, rfl⟩

set_option maxRecDepth 100000 in
theorem wmove_ok (x : Buf) (lk va : Int) (nw : Nat) (r : Wr) (h : Bool) (c : Int) (w : World) (hx : BufAt w x) (hr : WrAt w x.b lk va nw r) (hA : r.apart x) (hf : r.Fit x lk va nw h c) :
    Calls Try.prog 15 #[.pointer (some ⟨r.p, 0, none⟩)] w fun e w' =>
      e = .returned (.tuple #[.int .i64 (r.step x lk va nw h c).1, .int .i64 0]) ∧ BufAt w' (r.step x lk va nw h c).2.1 ∧ WrAt w' x.b lk va nw (r.step x lk va nw h c).2.2 ∧ Keep (r.fp ++ [x.R, x.C]) w w' := by
  have hc := hr.blk.cell
  have hst := hr.st
  unfold Wr.step
  have h5 : r.state = 0 ∨ r.state = 1 ∨ r.state = 2 ∨ r.state = 3 ∨ r.state = 4 := by omega
  rcases h5 with h5 | h5 | h5 | h5 | h5
  · rw [h5] at hc
    rw [if_pos h5]
    cases h with
    | true =>
      have HT := Hid.mk (Calls.of_drawn (wtake_busy x lk va nw r c w hx hr hf.lk0 hf.lkin hf.lock hf.c0 hf.c1))
      clear hf hst h5
      rw [if_pos rfl]
      go_enter Try.func15, Try.ntmps15
      go_wp2_with ((go_at_call 52; refine HT.out.mono ?_; rintro e w' ⟨rfl, ⟨m1, rfl⟩⟩))
      go_ret2
      exact ⟨rfl, hx.drewN _, hr.drewN _, (Keep.refl _ _).drewN _⟩
    | false =>
      have HT := Hid.mk (wtake_ok x lk va nw r c w hx hr hA hf.lk0 hf.lkin hf.lock hf.c0 hf.c1)
      clear hf hst h5
      rw [if_neg (by decide)]
      go_enter Try.func15, Try.ntmps15
      go_wp2_with ((go_at_call 52; refine HT.out.mono ?_; rintro e w' ⟨rfl, hb, hw, hk⟩))
      go_ret2
      exact ⟨rfl, hb, hw, hk.mono (fun b hb => .inl (by simp [Wr.fp] at hb ⊢; rcases hb with h | h | h <;> simp [h]))⟩
  · rw [h5] at hc
    rw [if_neg (by omega), if_pos h5]
    have HT := Hid.mk (wread_ok x lk va nw r w hx hr hA hf.va0 (by have := hf.vain 0 (by have := hf.s1 h5; omega); simpa using this) (hf.s1 h5).2)
    clear hf hst h5
    go_enter Try.func15, Try.ntmps15
    go_wp2_with ((go_at_call 53; refine HT.out.mono ?_; rintro e w' ⟨rfl, hb, hw, hk⟩))
    go_ret2
    exact ⟨rfl, hb, hw, hk.mono (fun b hb => .inl (by simp [hb]))⟩
  · rw [h5] at hc
    rw [if_neg (by omega), if_neg (by omega), if_pos h5]
    have HT := Hid.mk (wwrite_ok x lk va nw r w hx hr hA hf.va0 hf.va9 (hf.vain _ (hf.s2 h5).1) (hf.s2 h5).2 (by have := hf.s2 h5; have := hf.nw1; omega))
    clear hf hst h5
    go_enter Try.func15, Try.ntmps15
    go_wp2_with ((go_at_call 54; refine HT.out.mono ?_; rintro e w' ⟨rfl, hb, hw, hk⟩))
    go_ret2
    exact ⟨rfl, hb, hw, hk.mono (by simp [Wr.fp])⟩
  · rw [h5] at hc
    rw [if_neg (by omega), if_neg (by omega), if_neg (by omega), if_pos h5]
    have HT := Hid.mk (wend_ok x lk va nw r c w hx hr hA hf.lk0 hf.lkin (hf.s3 h5) hf.c0 hf.c1)
    clear hf hst h5
    go_enter Try.func15, Try.ntmps15
    go_wp2_with ((go_at_call 55; refine HT.out.mono ?_; rintro e w' ⟨rfl, hb, hw, hk⟩))
    go_ret2
    exact ⟨rfl, hb, hw, hk.mono (by simp [Wr.fp])⟩
  · rw [h5] at hc
    rw [if_neg (by omega), if_neg (by omega), if_neg (by omega), if_neg (by omega)]
    clear hf hst h5
    go_enter Try.func15, Try.ntmps15
    go_wp2_with fail
    go_ret2
    exact ⟨rfl, hx, hr, Keep.refl _ _⟩

def Wr.holds (r : Wr) : Bool := decide (0 < r.state ∧ r.state < 4)

set_option maxRecDepth 100000 in
theorem wholds_ok (b : Nat) (lk va : Int) (nw : Nat) (r : Wr) (w : World) (hr : WrAt w b lk va nw r) :
    Calls Try.prog 16 #[.pointer (some ⟨r.p, 0, none⟩)] w fun e w' => e = .returned (.bool r.holds) ∧ w = w' := by
  have hc := hr.blk.cell
  have hst := hr.st
  have h5 : r.state = 0 ∨ r.state = 1 ∨ r.state = 2 ∨ r.state = 3 ∨ r.state = 4 := by omega
  have HE : Hid (r.holds = decide (0 < r.state ∧ r.state < 4)) := rfl
  generalize r.holds = H at *
  rcases h5 with h5 | h5 | h5 | h5 | h5
  all_goals
    rw [h5] at hc HE
    clear hst h5
    go_enter Try.func16, Try.ntmps16
    go_wp2_with fail
    go_ret
    exact ⟨ret_bool (by rw [HE.out]; simp), rfl⟩

set_option maxRecDepth 100000 in
theorem wholds_nil (w : World) : Calls Try.prog 16 #[.pointer none] w fun e w' => e = .returned (.bool false) ∧ w = w' := by
  go_enter Try.func16, Try.ntmps16
  go_wp2_with fail
  go_ret
  exact ⟨rfl, rfl⟩
end Go.Proofs.Ytlgebknbfchnlaa
