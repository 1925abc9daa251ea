/- Contracts of inplace.Writer, part 2: its moves. -/
import Derived.Test.YtlgebknbfchnlaaWriter
namespace Go.Proofs.Ytlgebknbfchnlaa
open Go Go.RowKit Go.Hay Go.Proofs.YtlgebknbfchnlaaW.PrintWords

theorem Wr.apart.off {r : Wr} {x : Buf} (h : r.apart x) : ∀ g ∈ x.all, g ∉ [r.p] := fun g hg hm => h r.p (by simp [Wr.fp]) (by simp at hm; subst hm; exact hg)
theorem Wr.apart.ne {r : Wr} {x : Buf} (h : r.apart x) : ∀ g ∈ r.fp, g ∉ [x.R, x.C] := fun g hg => by have := h g hg; simp [Buf.all, Buf.fp] at this ⊢; exact ⟨this.2.1, this.2.2.1⟩
theorem wrap_U64 (z : Int) : U64 (IntKind.u64.wrap z) := by
  unfold U64
  simp only [IntKind.wrap, IntKind.bits, IntKind.signed]
  simp
  omega

set_option maxRecDepth 100000 in
theorem wtake_no (x : Buf) (lk va : Int) (nw : Nat) (r : Wr) (w : World) (hx : BufAt w x) (h : WrAt w x.b lk va nw r) (h0 : 0 ≤ lk) (hi : x.ain lk = false) :
    Calls Try.prog 52 #[.pointer (some ⟨r.p, 0, none⟩)] w fun e w' => e = .returned (.tuple #[.int .i64 0, .int .i64 7]) ∧ Drawn w w' := by
  have hc := h.blk.cell
  have HL := Hid.mk (fun W (hW : BufAt W x) => Calls.of_drawn (bload_no x lk W hW h0 hi))
  clear hi
  go_enter Try.func52, Try.ntmps52
  go_wp2_with fail
  go_quiet ((go_at_call 27; exact Calls.quiet_of (HL.out _ (hx.drewN _))))
  go_wp2_with fail
  go_ret2
  exact ⟨rfl, _, rfl⟩

set_option maxRecDepth 100000 in
theorem wtake_busy (x : Buf) (lk va : Int) (nw : Nat) (r : Wr) (c : Int) (w : World) (hx : BufAt w x) (h : WrAt w x.b lk va nw r) (h0 : 0 ≤ lk) (hi : x.ain lk = true) (hl : x.at_ lk = LK true c) (c0 : 0 ≤ c) (c1 : c < 4294967296) :
    Calls Try.prog 52 #[.pointer (some ⟨r.p, 0, none⟩)] w fun e w' => e = .returned (.tuple #[.int .i64 3, .int .i64 0]) ∧ Drawn w w' := by
  have hc := h.blk.cell
  have HL := Hid.mk (fun W (hW : BufAt W x) => Calls.of_drawn (bload_ok x lk W hW h0 hi))
  have HB := Hid.mk (fun W => Calls.of_drawn (hLock_busy c W c0 c1))
  rw [hl] at HL
  clear hi hl
  generalize LK true c = u at *
  go_enter Try.func52, Try.ntmps52
  go_wp2_with fail
  go_quiet ((go_at_call 27; exact Calls.quiet_of (HL.out _ (hx.drewN _))))
  go_wp2_with ((go_at_call 83; refine (HB.out _).mono ?_; rintro e w' ⟨rfl, ⟨m1, rfl⟩⟩))
  go_ret2
  exact ⟨rfl, _, rfl⟩

set_option maxRecDepth 100000 in
theorem wtake_ok (x : Buf) (lk va : Int) (nw : Nat) (r : Wr) (c : Int) (w : World) (hx : BufAt w x) (h : WrAt w x.b lk va nw r) (hA : r.apart x) (h0 : 0 ≤ lk) (hi : x.ain lk = true) (hl : x.at_ lk = c) (c0 : 0 ≤ c) (c1 : c < 4294967296) :
    Calls Try.prog 52 #[.pointer (some ⟨r.p, 0, none⟩)] w fun e w' => e = .returned (.tuple #[.int .i64 1, .int .i64 0]) ∧ BufAt w' (x.put lk (LK true c)) ∧ WrAt w' x.b lk va nw { r with held := LK true c, state := r.nextS nw 1 } ∧ Keep [r.p, x.R, x.C] w w' := by
  have hc := h.blk.cell
  have HL := Hid.mk (fun W (hW : BufAt W x) => Calls.of_drawn (bload_ok x lk W hW h0 hi))
  have HB := Hid.mk (fun W => Calls.of_drawn (hLock_free c W c0 c1))
  have HC := Hid.mk (fun W (hW : BufAt W x) => bcas_hit x lk c (LK true c) W hW h0 (lk_u64 c0 c1) hi hl)
  have hne := hA.ne
  have HN := Hid.mk (show ({ r with held := LK true c } : Wr).nextS nw 1 = r.nextS nw 1 from rfl)
  have hs := nextS_le r nw 1 (.inl rfl)
  rw [hl] at HL
  clear hi hl
  generalize LK true c = u at *
  go_enter Try.func52, Try.ntmps52
  go_wp2_with fail
  go_quiet ((go_at_call 27; exact Calls.quiet_of (HL.out _ (hx.drewN _))))
  go_wp2_with ((go_at_call 83; refine (HB.out _).mono ?_; rintro e w' ⟨rfl, ⟨m1, rfl⟩⟩))
  have hW := h.drewN (nq + m1)
  have hX := hx.drewN (nq + m1)
  have hd : Drawn w (w.drewN (nq + m1)) := ⟨_, rfl⟩
  generalize w.drewN (nq + m1) = W at hW hX hd ⊢
  have hcw := hW.blk.cell
  have hX1 : BufAt W.drew x := hX.drewN 1
  have hW1 : WrAt W.drew x.b lk va nw r := hW.drewN 1
  go_region_held3 (fun w' => w'.cell? ⟨r.p, 0, none⟩ = some (.pointer (some ⟨x.b, 0, none⟩)) ∧ w'.cell? ⟨r.p, 1, none⟩ = some (.int .u64 lk)) (first | go_keep | exact ⟨(hW1.keep hk hne).blk.cell 0, (hW1.keep hk hne).blk.cell 1⟩) ((go_at_call 40; refine (HC.out W.drew hX1).mono ?_; rintro e w' ⟨rfl, hb, hk⟩))
  all_goals
    have hw2 := hW1.keep hk hne
    have hc2 := hw2.blk.cell
    have hf2 := hw2.blk.froz
    have hw3 := hw2.setHeld u
    have HG := Hid.mk (fun m => wgoes x.b lk va nw _ 1 ((w'.setCell ⟨r.p, 9, none⟩ (.int .u64 u)).drewN m) (hw3.1.drewN m) (.inl rfl))
    go_wp2_with ((go_at_call 84; refine (HG.out 0).mono ?_; rintro e w4 ⟨rfl, m4, rfl⟩))
    go_ret2
    have hw5 := hw2.heldState u hs m4
    obtain ⟨md, rfl⟩ := hd
    have hkk := (((Keep.refl [r.p, x.R, x.C] w).drewN md).drew).trans hk (by simp)
    exact ⟨rfl, hb.keep hw5.2 (hA.off), hw5.1, hkk.trans hw5.2 (by simp)⟩

theorem WrAt.setL {w : World} {b : Nat} {lk va : Int} {nw : Nat} {r : Wr} (h : WrAt w b lk va nw r) {g j : Nat} {u : Int} (hg : r.v.ownBlock = some g) (hu : U64 u) (ho : Own .u64 22 (w.setCell ⟨g, j, none⟩ (.int .u64 u)) 0 r.v (r.l.set j u)) :
    WrAt (w.setCell ⟨g, j, none⟩ (.int .u64 u)) b lk va nw { r with l := r.l.set j u } ∧ Keep [g] w (w.setCell ⟨g, j, none⟩ (.int .u64 u)) := by
  have hk : Keep [g] w (w.setCell ⟨g, j, none⟩ (.int .u64 u)) := (Keep.refl _ _).set (by simp) _ _
  refine ⟨⟨h.blk.keep hk (by have := h.ne hg; simpa using this), ho, ?_, h.nr, h.st, h.atle⟩, hk⟩
  intro y hy
  rcases List.mem_or_eq_of_mem_set hy with h1 | rfl
  · exact h.range y h1
  · exact hu

set_option maxRecDepth 100000 in
theorem wread_ok (x : Buf) (lk va : Int) (nw : Nat) (r : Wr) (w : World) (hx : BufAt w x) (h : WrAt w x.b lk va nw r) (hA : r.apart x) (h0 : 0 ≤ va) (hi : x.ain va = true) (h1 : 1 ≤ r.l.length) :
    Calls Try.prog 53 #[.pointer (some ⟨r.p, 0, none⟩)] w fun e w' => e = .returned (.tuple #[.int .i64 1, .int .i64 0]) ∧ BufAt w' x ∧ WrAt w' x.b lk va nw { r with l := r.l.set 0 (IntKind.u64.wrap (x.at_ va + r.n)), state := r.nextS nw 2 } ∧ Keep r.fp w w' := by
  have hc := h.blk.cell
  have HL := Hid.mk (fun W (hW : BufAt W x) => Calls.of_drawn (bload_ok x va W hW h0 hi))
  have hs := nextS_le r nw 2 (.inr rfl)
  have hU := wrap_U64 (x.at_ va + r.n)
  generalize x.at_ va = u at *
  clear hi
  go_enter Try.func53, Try.ntmps53
  go_wp2_with fail
  go_quiet ((go_at_call 27; exact Calls.quiet_of (HL.out _ (hx.drewN _))))
  go_wp2_with fail
  have hW := h.drewN nq
  have hX := hx.drewN nq
  have hd : Drawn w (w.drewN nq) := ⟨_, rfl⟩
  generalize w.drewN nq = W at hW hX hd ⊢
  have hcw := hW.blk.cell
  obtain ⟨g, cap, hv, hcap, hg, hcl, hfl, hset⟩ := hW.row.at_ (j := 0) (by omega)
  have hset2 := hset (IntKind.u64.wrap (u + r.n))
  have hL := hW.setL hg hU hset2
  rw [hv] at hcw
  have hl := hfl 0
  go_region
  all_goals
    have HG := Hid.mk (wgoes x.b lk va nw _ 2 _ (hL.1.drewN 1) (.inr rfl))
    go_wp2_with ((go_at_call 84; refine HG.out.mono ?_; rintro e w4 ⟨rfl, m4, rfl⟩))
    go_ret2
    have hw5 := (hL.1.drewN 1).setState hs
    have hk5 : Keep r.fp W (((W.setCell ⟨g, 0, none⟩ (.int .u64 (IntKind.u64.wrap (u + r.n)))).drewN 1).setCell ⟨r.p, 4, none⟩ (.int .i64 (r.nextS nw 2))) := ((hL.2.mono (S' := r.fp) (by simp [Wr.fp, hg])).drewN 1).trans hw5.2 (by simp [Wr.fp])
    obtain ⟨md, rfl⟩ := hd
    refine ⟨rfl, (hX.keep hk5 (fun b hb hm => hA b hm hb)).drewN m4, hw5.1.drewN m4, (((Keep.refl r.fp w).drewN md).trans hk5 (fun b hb => .inl hb)).drewN m4⟩

set_option maxRecDepth 100000 in
set_option maxHeartbeats 1000000 in
theorem wwrite_ok (x : Buf) (lk va : Int) (nw : Nat) (r : Wr) (w : World) (hx : BufAt w x) (h : WrAt w x.b lk va nw r) (hA : r.apart x) (h0 : 0 ≤ va) (h9 : va ≤ 1000000) (hi : x.ain (va + r.at_) = true) (h1 : r.at_ < r.l.length) (h2 : r.at_ < 100) :
    Calls Try.prog 54 #[.pointer (some ⟨r.p, 0, none⟩)] w fun e w' => e = .returned (.tuple #[.int .i64 1, .int .i64 0]) ∧ BufAt w' (x.put (va + r.at_) (r.l.getD r.at_ 0)) ∧ WrAt w' x.b lk va nw { r with at_ := r.at_ + 1, state := ({ r with at_ := r.at_ + 1 } : Wr).nextS nw 2 } ∧ Keep [r.p, x.C] w w' := by
  have hc := h.blk.cell
  obtain ⟨g, cap, hv, hcap, hg, hcl, hfl, hset⟩ := h.row.at_ h1
  have hgC : g ≠ x.C := by have := hA g (by simp [Wr.fp, hg]); simp [Buf.all, Buf.fp] at this; exact this.2.2.1
  have hne := hA.ne
  have hu : U64 (r.l.getD r.at_ 0) := h.range _ (getD_mem h1)
  have HS := Hid.mk (fun W (hW : BufAt W x) => bstore_ok x (va + r.at_) (r.l.getD r.at_ 0) W hW (by omega) hu hi)
  have hs := nextS_le { r with at_ := r.at_ + 1 } nw 2 (.inr rfl)
  have hat : ((r.l.length : Nat) : Int) = r.l.length := rfl
  clear hi hset
  have HV := Hid.mk (fun (w' : World) (hk : Keep [x.C] w w') => ((World.cell?_of_block (hk.block g (h.row.lt hg).2 (by simpa using hgC))).trans hcl : w'.cell? ⟨g, r.at_, none⟩ = _))
  generalize r.l.getD r.at_ 0 = u at *
  rw [hv] at hc
  have hne1 : ∀ g ∈ r.fp, g ∉ [x.C] := fun g hg => by have := hne g hg; simp at this ⊢; exact this.2
  have hx1 : BufAt w.drew x := hx.drewN 1
  have hk0 : Keep [x.C] w w.drew := (Keep.refl _ _).drew
  have hcl1 : w.drew.cell? ⟨g, r.at_, none⟩ = some (.int .u64 u) := hcl
  have hwr : IntKind.u64.wrap (va + IntKind.u64.wrap (r.at_ : Int)) = va + r.at_ := by rw [wrap_u64 (x := (r.at_ : Int)) ⟨by omega, by omega⟩, wrap_u64 ⟨by omega, by omega⟩]
  have hwr2 : IntKind.u64.wrap (va + (r.at_ : Int)) = va + r.at_ := wrap_u64 ⟨by omega, by omega⟩
  have hwr3 : IntKind.u64.wrap (r.at_ : Int) = r.at_ := wrap_u64 ⟨by omega, by omega⟩
  go_enter Try.func54, Try.ntmps54
  go_wp2_with fail
  go_region_held3 (fun w' => (w'.cell? ⟨r.p, 0, none⟩ = some (.pointer (some ⟨x.b, 0, none⟩)) ∧ w'.cell? ⟨r.p, 2, none⟩ = some (.int .u64 va)) ∧ (w'.cell? ⟨r.p, 8, none⟩ = some (.int .i64 r.at_) ∧ w'.cell? ⟨r.p, 7, none⟩ = some (.slice (some ⟨g, 0, none⟩) r.l.length cap)) ∧ w'.cell? ⟨g, r.at_, none⟩ = some (.int .u64 u)) (first | go_keep | (have hk2 := hk0.trans hk (by simp); have hb2 := (h.blk.keep hk2 (hne1 _ (by simp [Wr.fp]))).cell; rw [hv] at hb2; exact ⟨⟨hb2 0, hb2 2⟩, ⟨hb2 8, hb2 7⟩, HV.out _ hk2⟩)) ((go_at_call 42; refine (HS.out w.drew hx1).mono ?_; rintro e w' ⟨rfl, hb, hk⟩))
  all_goals
    clear hwr hwr2 hwr3
    have hk2 := hk0.trans hk (by simp)
    have hw2 := h.keep hk2 hne1
    have hc2 := hw2.blk.cell
    have hf2 := hw2.blk.froz
    have hw3 := hw2.setAt (t := r.at_ + 1) (by omega)
    have HG := Hid.mk (fun m => wgoes x.b lk va nw _ 2 _ (hw3.1.drewN m) (.inr rfl))
    have hcast : Hid (((r.at_ : Nat) : Int) + 1 = ((r.at_ + 1 : Nat) : Int)) := Hid.mk (by omega)
    go_wp2_with ((go_at_call 84; rw [hcast.out]; refine (HG.out 0).mono ?_; rintro e w4 ⟨rfl, m4, rfl⟩))
    go_ret2
    have hw5 := hw2.atState (u := r.at_ + 1) (by omega) hs m4
    exact ⟨rfl, hb.keep hw5.2 (hA.off), hw5.1, (hk2.mono (S' := [r.p, x.C]) (by simp)).trans hw5.2 (by simp)⟩

set_option maxRecDepth 100000 in
theorem wend_ok (x : Buf) (lk va : Int) (nw : Nat) (r : Wr) (c : Int) (w : World) (hx : BufAt w x) (h : WrAt w x.b lk va nw r) (hA : r.apart x) (h0 : 0 ≤ lk) (hi : x.ain lk = true) (hl : r.held = LK true c) (c0 : 0 ≤ c) (c1 : c < 4294967296) :
    Calls Try.prog 55 #[.pointer (some ⟨r.p, 0, none⟩)] w fun e w' => e = .returned (.tuple #[.int .i64 2, .int .i64 0]) ∧ BufAt w' (x.put lk ((c + 1) % 4294967296)) ∧ WrAt w' x.b lk va nw { r with state := 4 } ∧ Keep [r.p, x.C] w w' := by
  have hc := h.blk.cell
  have HU := Hid.mk (fun W => Calls.of_drawn (hUnlock c W c0 c1))
  have hne1 : ∀ g ∈ r.fp, g ∉ [x.C] := fun g hg => by have := hA.ne g hg; simp at this ⊢; exact this.2
  have hu : U64 ((c + 1) % 4294967296) := by unfold U64; omega
  have HS := Hid.mk (fun W (hW : BufAt W x) => bstore_ok x lk ((c + 1) % 4294967296) W hW h0 hu hi)
  rw [hl] at hc
  generalize (c + 1) % 4294967296 = u at *
  generalize LK true c = v at *
  clear hi
  go_enter Try.func55, Try.ntmps55
  go_wp2_with ((go_at_call 85; refine (HU.out _).mono ?_; rintro e w' ⟨rfl, ⟨m1, rfl⟩⟩))
  have hW := h.drewN m1
  have hX := hx.drewN m1
  have hd : Drawn w (w.drewN m1) := ⟨_, rfl⟩
  generalize w.drewN m1 = W at hW hX hd ⊢
  have hcw := hW.blk.cell
  have hX1 : BufAt W.drew x := hX.drewN 1
  have hW1 : WrAt W.drew x.b lk va nw r := hW.drewN 1
  go_region_held3 (fun w' => w'.cell? ⟨r.p, 0, none⟩ = some (.pointer (some ⟨x.b, 0, none⟩)) ∧ w'.cell? ⟨r.p, 1, none⟩ = some (.int .u64 lk)) (first | go_keep | exact ⟨(hW1.keep hk hne1).blk.cell 0, (hW1.keep hk hne1).blk.cell 1⟩) ((go_at_call 42; refine (HS.out W.drew hX1).mono ?_; rintro e w' ⟨rfl, hb, hk⟩))
  all_goals
    have hw2 := hW1.keep hk hne1
    have hc2 := hw2.blk.cell
    have hf2 := hw2.blk.froz
    have hw3 := hw2.setState (t := 4) (by omega)
    go_wp2_with fail
    go_ret2
    obtain ⟨md, rfl⟩ := hd
    have hkk := (((Keep.refl [r.p, x.C] w).drewN md).drew).trans hk (by simp)
    exact ⟨rfl, hb.keep hw3.2 (hA.off), hw3.1, hkk.trans hw3.2 (by simp)⟩
end Go.Proofs.Ytlgebknbfchnlaa
