/- Contracts of inplace.Reader, part 2: check, Move. -/
import Derived.Test.YtlgebknbfchnlaaReader
namespace Go.Proofs.Ytlgebknbfchnlaa
open Go Go.RowKit Go.Hay Go.Proofs.YtlgebknbfchnlaaW.PrintWords

set_option maxRecDepth 100000 in
set_option maxHeartbeats 4000000 in
theorem rcheck_ok (x : Buf) (lk va : Int) (nw : Nat) (r : Rd) (w : World) (hx : BufAt w x) (h : RdAt w x.b lk va nw r) (h0 : 0 ≤ lk) (hi : x.ain lk = true) (hl : x.at_ lk = r.seen) (hn : r.l.length = (r.n + 7) / 8) (hz : ∀ i, r.n ≤ i → i < 8 * r.l.length → byteAt r.l i = 0) :
    Calls Try.prog 58 #[.pointer (some ⟨r.p, 0, none⟩)] w fun e w' => e = .returned (.tuple #[.int .i64 2, .int .i64 0]) ∧ RdAt w' x.b lk va nw { r with val := strOfNums (bytesL r.l r.n), state := 4 } ∧ Keep [r.p] w w' := by
  have hc := h.blk.cell
  have hf := h.blk.froz
  have HL := Hid.mk (fun W (hW : BufAt W x) => Calls.of_drawn (bload_ok x lk W hW h0 hi))
  obtain ⟨A, cap, hv, hlc, hC, hb⟩ := h.row.reads
  have HB := Hid.mk (fun W (hCW : (Kd.int .u64).C W A r.l.length r.l) => fbytes_ok A cap r.n r.l W hCW hn (by have := h.len; omega) hz h.range)
  rw [hl] at HL
  rw [hv] at hc
  clear hi hl hz
  generalize strOfNums (bytesL r.l r.n) = s at *
  have HR := Hid.mk (fun (W : World) (hk : Keep [] w W) => h.keep hk (by simp))
  have hd : (r.seen != r.seen) = false := by simp
  go_enter Try.func58, Try.ntmps58
  go_wp2_with fail
  go_quiet ((go_at_call 27; exact Calls.quiet_of (HL.out _ (hx.drewN _))))
  go_wp2_with fail
  have hkd : Keep [] w (w.drewN nq) := (Keep.refl _ _).drewN _
  generalize w.drewN nq = W at hkd ⊢
  have hW := HR.out _ hkd
  have hcw := hW.blk.cell
  have hfw := hW.blk.froz
  rw [hv] at hcw
  have hWd := hW.blk.drewN 1
  rw [hv] at hWd
  have hCW : (Kd.int .u64).C W.drew A r.l.length r.l := C_keep hC hkd.drew (by simp)
  have HV := Hid.mk hv
  clear hC HL hx hv HR hn hb hd
  go_region_held3 (fun w' => w'.cell? ⟨r.p, 6, none⟩ = some (.slice A r.l.length cap) ∧ w'.cell? ⟨r.p, 5, none⟩ = some (.int .i64 r.n)) (first | exact ⟨hcw 6, hcw 5⟩ | exact ⟨hc2 6, hc2 5⟩ | exact ⟨hc3 6, hc3 5⟩) ((go_at_call 82; refine (HB.out W.drew hCW).mono ?_; rintro e w' ⟨rfl, hk⟩; have hb2 := hWd.keep hk (by simp); have hc2 := hb2.cell; have hf2 := hb2.froz; have hc3 := (hb2.set 8 (.string s)).cell; simp at hc3))
  all_goals
    go_wp2_with fail
    go_ret2
    have hk2 : Keep [r.p] w _ := (((hkd.drew).trans hk (by simp)).mono (S' := [r.p]) (by simp)).set (g := r.p) (by simp) 8 (.string s)
    have hk3 := hk2.set (g := r.p) (by simp) 4 (.int .i64 4)
    exact ⟨rfl, ⟨by simpa [HV.out] using (hb2.set 8 (.string s)).set 4 (.int .i64 4), h.row.keepB hk3 (fun g hg => by have := h.ne hg; simpa using this.symm), h.range, h.len, h.n9, by simp⟩, hk3⟩

set_option maxRecDepth 100000 in
theorem rmove_no (x : Buf) (lk va : Int) (nw : Nat) (r : Rd) (w : World) (hx : BufAt w x) (h : RdAt w x.b lk va nw r) (h0 : 0 ≤ lk) (hi : x.ain lk = false) (hs : r.state = 0) :
    Calls Try.prog 17 #[.pointer (some ⟨r.p, 0, none⟩)] w fun e w' => e = .returned (.tuple #[.int .i64 0, .int .i64 7]) ∧ Drawn w w' := by
  have hc := h.blk.cell
  rw [hs] at hc
  have HT := Hid.mk (Calls.of_drawn (rlook_no x lk va nw r w hx h h0 hi))
  clear hi hs h
  go_enter Try.func17, Try.ntmps17
  go_wp2_with ((go_at_call 56; refine HT.out.mono ?_; rintro e w' ⟨rfl, ⟨m1, rfl⟩⟩))
  go_ret2
  exact ⟨rfl, _, rfl⟩

set_option maxRecDepth 100000 in
theorem rmove_nil (w : World) : Calls Try.prog 17 #[.pointer none] w fun e w' => e = .returned (.tuple #[.int .i64 0, .int .i64 2]) ∧ w = w' := by
  go_enter Try.func17, Try.ntmps17
  go_wp2_with fail
  go_ret2
  exact ⟨rfl, rfl⟩

set_option maxRecDepth 100000 in
set_option maxHeartbeats 1000000 in
theorem rmove_ok (x : Buf) (lk va : Int) (nw : Nat) (r : Rd) (h : Bool) (c : Int) (w : World) (hx : BufAt w x) (hr : RdAt w x.b lk va nw r) (hf : r.Fit x lk va nw h c) (hX : ∀ a, U64 (x.at_ a)) :
    Calls Try.prog 17 #[.pointer (some ⟨r.p, 0, none⟩)] w fun e w' =>
      e = .returned (.tuple #[.int .i64 (r.step x va nw h c).1, .int .i64 0]) ∧ ∃ v', RdAt w' x.b lk va nw { (r.step x va nw h c).2 with v := v' } ∧ (∀ g, v'.ownBlock = some g → r.v.ownBlock = some g ∨ w.heap.size ≤ g) ∧ Keep r.fp w w' := by
  have hc := hr.blk.cell
  have hst := hr.st
  unfold Rd.step
  have h5 : r.state = 0 ∨ r.state = 1 ∨ 2 ≤ r.state := by omega
  rcases h5 with h5 | h5 | h5
  · rw [h5] at hc
    rw [if_pos h5]
    cases h with
    | true =>
      have HT := Hid.mk (Calls.of_drawn (rlook_busy x lk va nw r c w hx hr hf.lk0 hf.lkin hf.lock hf.c0 hf.c1))
      clear hf hst h5
      rw [if_pos rfl]
      go_enter Try.func17, Try.ntmps17
      go_wp2_with ((go_at_call 56; refine HT.out.mono ?_; rintro e w' ⟨rfl, ⟨m1, rfl⟩⟩))
      go_ret2
      exact ⟨rfl, r.v, hr.drewN _, fun g hg => .inl hg, (Keep.refl _ _).drewN _⟩
    | false =>
      have HT := Hid.mk (rlook_ok x lk va nw r c w hx hr hf.lk0 hf.lkin hf.lock hf.c0 hf.c1)
      clear hf hst h5
      rw [if_neg (by decide)]
      go_enter Try.func17, Try.ntmps17
      go_wp2_with ((go_at_call 56; refine HT.out.mono ?_; rintro e w' ⟨rfl, hw, hk⟩))
      go_ret2
      exact ⟨rfl, .slice none 0 0, hw, fun g hg => by simp [Value.ownBlock] at hg, hk.mono (by simp [Rd.fp])⟩
  · rw [h5] at hc
    rw [if_neg (by omega), if_pos h5]
    obtain ⟨A, cap, hv, hlc, hC, hb⟩ := hr.row.reads
    rw [hv] at hc
    by_cases hl : r.l.length < nw
    · rw [if_pos hl]
      have HT := Hid.mk (fun (m : Nat) => rread_ok x lk va nw r (w.drewN m) (hx.drewN m) (hr.drewN m) hf.va0 hf.va9 (hf.vain _ hl) (by have := hf.nw1; omega) (hX _))
      have hd2 : decide ((r.l.length : Int) < (nw : Int)) = true := by simpa using hl
      clear hf hst h5
      go_enter Try.func17, Try.ntmps17
      go_wp2_with fail
      go_quiet (fail)
      go_wp2_with ((go_at_call 57; refine (HT.out nq).mono ?_; rintro e w' ⟨rfl, v', hw, hv', hk⟩))
      go_ret2
      exact ⟨rfl, v', hw, hv', ((Keep.refl _ _).drewN nq).trans hk (fun b hb => .inl hb)⟩
    · rw [if_neg hl]
      have hd2 : decide ((r.l.length : Int) < (nw : Int)) = false := by simpa using hl
      by_cases hs : LK h c = r.seen
      · rw [if_pos hs]
        have hle : r.l.length = nw := by have := hf.le; omega
        have HT := Hid.mk (fun (m : Nat) => rcheck_ok x lk va nw r (w.drewN m) (hx.drewN m) (hr.drewN m) hf.lk0 hf.lkin (hf.lock.trans hs) (by rw [hle]; exact hf.nwn) (hf.zero h5 hle hs))
        clear hf hst h5 hs hle
        go_enter Try.func17, Try.ntmps17
        go_wp2_with fail
        go_quiet (fail)
        go_wp2_with ((go_at_call 58; refine (HT.out nq).mono ?_; rintro e w' ⟨rfl, hw, hk⟩))
        go_ret2
        exact ⟨rfl, r.v, hw, fun g hg => .inl hg, ((Keep.refl _ _).drewN nq).trans hk (by simp [Rd.fp])⟩
      · rw [if_neg hs]
        have HT := Hid.mk (fun (m : Nat) => rcheck_no x lk va nw r (LK h c) (w.drewN m) (hx.drewN m) (hr.drewN m) hf.lk0 hf.lkin hf.lock hs)
        clear hf hst h5 hs
        go_enter Try.func17, Try.ntmps17
        go_wp2_with fail
        go_quiet (fail)
        go_wp2_with ((go_at_call 58; refine (HT.out nq).mono ?_; rintro e w' ⟨rfl, hw, hk⟩))
        go_ret2
        exact ⟨rfl, r.v, hw, fun g hg => .inl hg, ((Keep.refl _ _).drewN nq).trans hk (by simp [Rd.fp])⟩
  · have hd1 : ((r.state : Int) == 0) = false := by simp; omega
    have hd2 : ((r.state : Int) == 1) = false := by simp; omega
    rw [if_neg (by omega), if_neg (by omega)]
    clear hf hst
    go_enter Try.func17, Try.ntmps17
    go_wp2_with fail
    go_quiet (fail)
    go_wp2_with fail
    go_ret2
    exact ⟨rfl, r.v, hr.drewN _, fun g hg => .inl hg, (Keep.refl _ _).drewN _⟩

set_option maxRecDepth 100000 in
theorem rvalue_ok (b : Nat) (lk va : Int) (nw : Nat) (r : Rd) (w : World) (hr : RdAt w b lk va nw r) :
    Calls Try.prog 18 #[.pointer (some ⟨r.p, 0, none⟩)] w fun e w' => e = .returned (.string r.val) ∧ w = w' := by
  have hc := hr.blk.cell
  go_enter Try.func18, Try.ntmps18
  go_wp2_with fail
  go_ret
  exact ⟨rfl, rfl⟩

set_option maxRecDepth 100000 in
theorem rvalue_nil (w : World) : Calls Try.prog 18 #[.pointer none] w fun e w' => e = .returned (.string ⟨#[]⟩) ∧ w = w' := by
  go_enter Try.func18, Try.ntmps18
  go_wp2_with fail
  go_ret
  exact ⟨rfl, rfl⟩
end Go.Proofs.Ytlgebknbfchnlaa
