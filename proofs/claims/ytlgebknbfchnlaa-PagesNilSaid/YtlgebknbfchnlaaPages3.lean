/- Contracts of package pages: pages are opened, closed, read whole; a new buffer. -/
import Derived.Test.YtlgebknbfchnlaaPages2
namespace Go.Proofs.Ytlgebknbfchnlaa
open Go Go.RowKit Go.Hay Go.Proofs.YtlgebknbfchnlaaW.PrintWords

def Buf.hold (x : Buf) (p : Int) : Int := x.holder.getD (x.fr p).toNat 0
def Buf.setHold (x : Buf) (p v : Int) : Buf := { x with holder := x.holder.set (x.fr p).toNat v }
/-- The buffer when a page has been opened. -/
def Buf.opened (x : Buf) (p : Int) : Buf := { x with holder := x.holder.set (x.fr p).toNat (p + 1), words := putAt x.words (x.fr p * (2 ^ x.bits : Nat)).toNat (List.replicate (2 ^ x.bits) 0) }
def Buf.openE (x : Buf) (p : Int) : Int := if p < 0 then 1 else if x.has p then 8 else if x.hold p = 0 then 0 else 10

theorem BufAt.withHold {w w' : World} {x : Buf} (h : BufAt w x) {l : List Int} (hl : l.length = x.holder.length) (hr : RowAt w' x.RH x.CH l) (hm : Marks l) (k : Keep [x.RH, x.CH] w w') : BufAt w' { x with holder := l } := by
  obtain ⟨n1, n2, n3, n4⟩ := h.nes
  have hb := h.ne_b
  simp [Buf.fp] at hb
  refine ⟨h.buf.keep k (by simp [hb]), h.words.keep k ?_ ?_, hr, h.bits, ?_, ?_, h.neR, h.neC, hm⟩
  · have := h.neR; simp [n2, this]
  · have := h.neC; simp [this]; exact fun e => n3 e.symm
  · show 2 ≤ l.length ∧ l.length ≤ 8; rw [hl]; exact h.frames
  · show x.words.length = l.length * 2 ^ x.bits; rw [hl]; exact h.size

set_option maxRecDepth 100000 in
theorem bclose_ok (x : Buf) (p : Int) (w : World) (h : BufAt w x) (hm : p ≤ 9223372036854775807) (hh : x.has p = true) :
    Calls Try.prog 33 #[.pointer (some ⟨x.b, 0, none⟩), .int .i64 p] w fun e w' => e = .returned (.int .i64 0) ∧ BufAt w' (x.setHold p 0) ∧ Keep [x.CH] w w' := by
  have h1 := h.buf.cell
  have hp0 : 0 ≤ p := by unfold Buf.has at hh; simp at hh; exact hh.1
  have hf := h.fr_bd p
  have HH := Hid.mk (Calls.of_drawn (bhas_ok x p w h hm true hh))
  have HF := Hid.mk (fun W (hW : BufAt W x) => Calls.of_eq (bframe_ok x p W hW hp0 hm))
  have HS := Hid.mk (fun W (hW : BufAt W x) => row_store _ _ _ (x.fr p) 0 W hW.holder (by omega) (by omega))
  have HR := Hid.mk (fun W (hW : BufAt W x) => hW.holder.set (x.fr p).toNat (show U64 0 by unfold U64; omega))
  have HE : Hid (x.setHold p 0 = { x with holder := x.holder.set (x.fr p).toNat 0 }) := rfl
  clear hh
  generalize x.fr p = f at *
  go_enter Try.func33, Try.ntmps33
  go_wp2_with (first | (go_at_call 36; refine HH.out.mono ?_; rintro e w' ⟨rfl, ⟨m1, rfl⟩⟩))
  have hW := h.drewN m1
  have hd : Drawn w (w.drewN m1) := ⟨_, rfl⟩
  generalize w.drewN m1 = W at hW hd ⊢
  have hc := hW.buf.cell
  refine wp_region_still_tail 7 (by kernel_rfl) (by kernel_rfl) ?_
  simp only [List.take_succ_cons, List.take_zero, List.drop_succ_cons, List.drop_zero]
  change wpStill _ _ W.drew (fun a' => wpList _ _ _ _ a' W.drew) _ _
  have hd := hd.step 1
  change Drawn w W.drew at hd
  have hW := hW.drewN 1
  change BufAt W.drew x at hW
  have hc := hW.buf.cell
  generalize W.drew = W1 at hW hd hc ⊢
  repeat (first | still_step | still_call (HF.out _ hW))
  refine wpStill_nil ?_
  go_wp2_with (first | (go_at_call 74; refine (HS.out W1 hW).mono ?_; rintro e w' ⟨rfl, rfl⟩))
  go_ret
  obtain ⟨m, rfl⟩ := hd
  have hk : Keep [x.CH] w ((w.drewN m).setCell ⟨x.CH, f.toNat, none⟩ (.int .u64 0)) := ((Keep.refl _ _).drewN _).set (by simp) _ _
  refine ⟨rfl, ?_, hk⟩
  rw [HE.out]
  exact h.withHold (by simp) (HR.out _ hW) (h.marks.zero _) (hk.mono (by simp))

set_option maxRecDepth 100000 in
theorem bclose_no (x : Buf) (p : Int) (w : World) (h : BufAt w x) (hm : p ≤ 9223372036854775807) (hh : x.has p = false) :
    Calls Try.prog 33 #[.pointer (some ⟨x.b, 0, none⟩), .int .i64 p] w fun e w' => e = .returned (.int .i64 7) ∧ Drawn w w' := by
  have HH := Hid.mk (Calls.of_drawn (bhas_ok x p w h hm false hh))
  clear hh
  go_enter Try.func33, Try.ntmps33
  go_wp2_with (first | (go_at_call 36; refine HH.out.mono ?_; rintro e w' ⟨rfl, ⟨m1, rfl⟩⟩))
  go_ret
  exact ⟨rfl, _, rfl⟩

set_option maxRecDepth 100000 in
theorem bpage_no (x : Buf) (p : Int) (w : World) (h : BufAt w x) (hm : p ≤ 9223372036854775807) (hh : x.has p = false) :
    Calls Try.prog 34 #[.pointer (some ⟨x.b, 0, none⟩), .int .i64 p] w fun e w' => e = .returned (.tuple #[.slice none 0 0, .int .i64 7]) ∧ Drawn w w' := by
  have HH := Hid.mk (Calls.of_drawn (bhas_ok x p w h hm false hh))
  clear hh
  go_enter Try.func34, Try.ntmps34
  go_wp2_with (first | (go_at_call 36; refine HH.out.mono ?_; rintro e w' ⟨rfl, ⟨m1, rfl⟩⟩))
  go_ret2
  exact ⟨rfl, _, rfl⟩

set_option maxRecDepth 100000 in
theorem bpage_ok (x : Buf) (p : Int) (w : World) (h : BufAt w x) (hm : p ≤ 9223372036854775807) (hh : x.has p = true) :
    Calls Try.prog 34 #[.pointer (some ⟨x.b, 0, none⟩), .int .i64 p] w fun e w' =>
      ∃ g, e = .returned (.tuple #[.slice (some ⟨g, 0, none⟩) (2 ^ x.bits) (2 ^ x.bits), .int .i64 0]) ∧ w.heap.size ≤ g ∧ Blk w' g 22 (((x.words.drop (x.fr p * (2 ^ x.bits : Nat)).toNat).take (2 ^ x.bits)).map (Value.int .u64)).toArray ∧ Keep [] w w' := by
  have h1 := h.buf.cell
  have hp0 : 0 ≤ p := by unfold Buf.has at hh; simp at hh; exact hh.1
  have hf := h.fr_bd p
  have hpg := h.page_bd p
  have hsz := psz_bd x.bits h.bits
  have HH := Hid.mk (Calls.of_drawn (bhas_ok x p w h hm true hh))
  have HF := Hid.mk (fun W (hW : BufAt W x) => Calls.of_eq (bframe_ok x p W hW hp0 hm))
  have HS := Hid.mk (fun W => Calls.of_eq (psize_ok x.bits W h.bits.1 h.bits.2))
  have HW := Hid.mk (fun W (hW : BufAt W x) => row_words_i _ _ _ (x.fr p * (2 ^ x.bits : Nat)) (2 ^ x.bits : Nat) W hW.words (by omega) (by omega) (by omega))
  simp only [Int.toNat_natCast] at HW
  clear hh
  generalize x.fr p = f at *
  generalize hs : 2 ^ x.bits = s at *
  clear hs
  have hb2 : f * (s : Int) ≤ 4096 := by omega
  obtain ⟨hf0, hf1, hf2⟩ := hf
  obtain ⟨hpg0, hpg1, hpg2⟩ := hpg
  obtain ⟨hs0, hs1⟩ := hsz
  go_enter Try.func34, Try.ntmps34
  go_wp2_with (first | (go_at_call 36; refine HH.out.mono ?_; rintro e w' ⟨rfl, ⟨m1, rfl⟩⟩) | (go_at_call 47; refine (HS.out _).mono ?_; rintro e w' ⟨rfl, rfl⟩))
  have hW := h.drewN m1
  have hd : Drawn w (w.drewN m1) := ⟨_, rfl⟩
  generalize w.drewN m1 = W at hW hd ⊢
  have hc := hW.buf.cell
  have hW1 : BufAt W.drew x := hW.drewN 1
  have hmul : IntKind.i64.wrap (f * (s : Int)) = f * (s : Int) := IntWalk.i64_in _ (by omega)
  go_region_held3 (fun w' => w'.cell? ⟨x.b, 1, none⟩ = some (.pointer (some ⟨x.R, 0, none⟩))) (first | go_keep | exact ((hW1.keep hk (by simp)).buf.cell 1)) (first | (go_at_call 70; refine (HF.out W.drew hW1).mono ?_; rintro e w' ⟨rfl, rfl⟩) | (go_at_call 75; refine (HW.out W.drew hW1).mono ?_; rintro e w' ⟨g, rfl, hg, hb, hk⟩))
  all_goals
    clear hmul
    go_wp2_with fail
    go_ret2
    obtain ⟨m, rfl⟩ := hd
    exact ⟨g, rfl, hg, hb, (((Keep.refl _ w).drewN m).drew).trans hk (by simp)⟩

theorem BufAt.opened {w w1 w2 : World} {x : Buf} {p : Int} (h : BufAt w x) (hp0 : 0 ≤ p) (hpm : p ≤ 9223372036854775807) (k1 : Keep [x.RH, x.CH] w w1) (k2 : Keep [x.C] w1 w2) (hr : RowAt w1 x.RH x.CH (x.holder.set (x.fr p).toNat (p + 1)))
    (hr2 : RowAt w2 x.R x.C (putAt x.words (x.fr p * (2 ^ x.bits : Nat)).toNat (List.replicate (2 ^ x.bits) 0))) : BufAt w2 (x.opened p) := by
  have h2 := h.withHold (by simp) hr (h.marks.page hp0 hpm) k1
  refine h2.withWords (l := putAt x.words (x.fr p * (2 ^ x.bits : Nat)).toNat (List.replicate (2 ^ x.bits) 0)) ?_ hr2 (k2.mono (by simp))
  have := h.page_bd p
  exact putAt_length _ _ _ (by rw [List.length_replicate]; omega)

set_option maxRecDepth 100000 in
theorem bopen_no (x : Buf) (p : Int) (w : World) (h : BufAt w x) (hm : p ≤ 9223372036854775807) (he : x.openE p = 1 ∨ x.openE p = 8) :
    Calls Try.prog 32 #[.pointer (some ⟨x.b, 0, none⟩), .int .i64 p] w fun e w' => e = .returned (.int .i64 (x.openE p)) ∧ Drawn w w' := by
  by_cases h0 : p < 0
  · have HE := Hid.mk (show x.openE p = 1 by unfold Buf.openE; rw [if_pos h0])
    rw [HE.out]
    clear he HE
    go_enter Try.func32, Try.ntmps32
    go_wp2_with fail
    go_ret
    exact ⟨rfl, 0, rfl⟩
  · have hh : x.has p = true := by
      by_cases hh : x.has p = true
      · exact hh
      · unfold Buf.openE at he; rw [if_neg h0, if_neg hh] at he; split at he <;> omega
    have HE := Hid.mk (show x.openE p = 8 by unfold Buf.openE; rw [if_neg h0, if_pos hh])
    have HH := Hid.mk (Calls.of_drawn (bhas_ok x p w h hm true hh))
    rw [HE.out]
    clear he HE hh
    go_enter Try.func32, Try.ntmps32
    go_wp2_with (first | (go_at_call 36; refine HH.out.mono ?_; rintro e w' ⟨rfl, ⟨m1, rfl⟩⟩))
    go_ret
    exact ⟨rfl, _, rfl⟩

set_option maxRecDepth 100000 in
theorem bopen_busy (x : Buf) (p : Int) (w : World) (h : BufAt w x) (hm : p ≤ 9223372036854775807) (he : x.openE p = 10) :
    Calls Try.prog 32 #[.pointer (some ⟨x.b, 0, none⟩), .int .i64 p] w fun e w' => e = .returned (.int .i64 10) ∧ BufAt w' x ∧ Keep [x.RH, x.CH] w w' := by
  have h1 := h.buf.cell
  have hp0 : 0 ≤ p := by unfold Buf.openE at he; split at he <;> omega
  have hh : x.has p = false := by unfold Buf.openE at he; split at he; omega; split at he; omega; simp_all
  have hv : ¬ x.holder.getD (x.fr p).toNat 0 = 0 := by unfold Buf.openE Buf.hold at he; split at he; omega; split at he; omega; split at he <;> simp_all
  have hf := h.fr_bd p
  have HH := Hid.mk (Calls.of_drawn (bhas_ok x p w h hm false hh))
  have HF := Hid.mk (fun W (hW : BufAt W x) => bframe_ok x p W hW hp0 hm)
  have HM := Hid.mk (fun W => pmark_ok p W hp0 hm)
  have HC := Hid.mk (fun W (hW : BufAt W x) => row_cas_miss _ _ _ (x.fr p) 0 (p + 1) W hW.holder hf.1 hf.2.1 hv)
  clear hh he hv
  generalize x.fr p = f at *
  obtain ⟨hf0, hf1, hf2⟩ := hf
  go_enter Try.func32, Try.ntmps32
  go_wp2_with (first | (go_at_call 36; refine HH.out.mono ?_; rintro e w' ⟨rfl, ⟨m1, rfl⟩⟩) | (go_at_call 70; refine (HF.out _ (h.drewN _)).mono ?_; rintro e w' ⟨rfl, rfl⟩))
  have hW := h.drewN m1
  have hd : Drawn w (w.drewN m1) := ⟨_, rfl⟩
  generalize w.drewN m1 = W at hW hd ⊢
  have hc := hW.buf.cell
  have hW1 : BufAt W.drew x := hW.drewN 1
  go_region_held3 (fun w' => w'.cell? ⟨x.b, 2, none⟩ = some (.pointer (some ⟨x.RH, 0, none⟩))) (first | go_keep | exact ((hW1.buf.keep hk (by have := hW1.ne_b; simp [Buf.fp] at this; simp [this])).cell 2)) (first | (go_at_call 72; refine (HM.out W.drew).mono ?_; rintro e w' ⟨rfl, rfl⟩) | (go_at_call 71; refine (HC.out W.drew hW1).mono ?_; rintro e w' ⟨rfl, hr, hk⟩))
  all_goals
    go_wp2_with fail
    go_ret
    obtain ⟨m, rfl⟩ := hd
    have hk2 := (((Keep.refl [x.RH, x.CH] w).drewN m).drew).trans hk (by simp)
    exact ⟨rfl, h.withHold (l := x.holder) rfl hr h.marks hk2, hk2⟩

set_option maxRecDepth 100000 in
theorem bopen_ok (x : Buf) (p : Int) (w : World) (h : BufAt w x) (hm : p ≤ 9223372036854775807) (he : x.openE p = 0) :
    Calls Try.prog 32 #[.pointer (some ⟨x.b, 0, none⟩), .int .i64 p] w fun e w' => e = .returned (.int .i64 0) ∧ BufAt w' (x.opened p) ∧ Keep x.fp w w' := by
  have h1 := h.buf.cell
  have hp0 : 0 ≤ p := by unfold Buf.openE at he; split at he <;> omega
  have hh : x.has p = false := by unfold Buf.openE at he; split at he; omega; split at he; omega; simp_all
  have hv : x.holder.getD (x.fr p).toNat 0 = 0 := by unfold Buf.openE Buf.hold at he; split at he; omega; split at he; omega; split at he <;> simp_all
  have hf := h.fr_bd p
  have hpg := h.page_bd p
  have hsz := psz_bd x.bits h.bits
  have HH := Hid.mk (Calls.of_drawn (bhas_ok x p w h hm false hh))
  have HF := Hid.mk (fun W (hW : BufAt W x) => bframe_ok x p W hW hp0 hm)
  have HM := Hid.mk (fun W => pmark_ok p W hp0 hm)
  have HS := Hid.mk (fun W => psize_ok x.bits W h.bits.1 h.bits.2)
  have HC := Hid.mk (fun W (hW : BufAt W x) => row_cas_hit _ _ _ (x.fr p) 0 (p + 1) W hW.holder hf.1 hf.2.1 hv (show U64 (p + 1) by unfold U64; omega))
  have HL := Hid.mk (fun W g (hR : RowAt W x.R x.C x.words) (hg : Blk W g 22 ((List.replicate (2 ^ x.bits) (0 : Int)).map (Value.int .u64)).toArray) (hne : g ≠ x.C) => row_fill_i x.R x.C x.words (x.fr p * (2 ^ x.bits : Nat)) (some ⟨g, 0, none⟩) (2 ^ x.bits) (2 ^ x.bits) (List.replicate (2 ^ x.bits) 0) W hR (by simpa using C_of_blk hg (by simp; omega)) (by intro ad e; cases e; exact hne) (by omega) (by omega) (by intro y hy; rw [List.eq_of_mem_replicate hy]; unfold U64; omega))
  have HO := Hid.mk (fun W w1 w2 (hW : BufAt W x) => BufAt.opened (w := W) (w1 := w1) (w2 := w2) (x := x) (p := p) hW hp0 hm)
  have hmk := fun W => make_u64 W (2 ^ x.bits) (by omega)
  clear hh he hv
  generalize Buf.opened x p = y at *
  generalize x.fr p = f at *
  generalize hs : 2 ^ x.bits = s at *
  clear hs
  have hb2 : f * (s : Int) ≤ 4096 := by omega
  obtain ⟨hf0, hf1, hf2⟩ := hf
  obtain ⟨hpg0, hpg1, hpg2⟩ := hpg
  obtain ⟨hs0, hs1⟩ := hsz
  go_enter Try.func32, Try.ntmps32
  go_wp2_with (first | (go_at_call 36; refine HH.out.mono ?_; rintro e w' ⟨rfl, ⟨m1, rfl⟩⟩) | (go_at_call 70; refine (HF.out _ (h.drewN _)).mono ?_; rintro e w' ⟨rfl, rfl⟩))
  have hW := h.drewN m1
  have hd : Drawn w (w.drewN m1) := ⟨_, rfl⟩
  generalize w.drewN m1 = W at hW hd ⊢
  have hc := hW.buf.cell
  have hW1 : BufAt W.drew x := hW.drewN 1
  go_region_held3 (fun w' => w'.cell? ⟨x.b, 2, none⟩ = some (.pointer (some ⟨x.RH, 0, none⟩))) (first | go_keep | exact ((hW1.buf.keep hk (by have := hW1.ne_b; simp [Buf.fp] at this; simp [this])).cell 2)) (first | (go_at_call 72; refine (HM.out W.drew).mono ?_; rintro e w' ⟨rfl, rfl⟩) | (go_at_call 71; refine (HC.out W.drew hW1).mono ?_; rintro e w' ⟨rfl, hr, hk⟩))
  have hnb := hW1.ne_b
  have hns := hW1.nes
  have hnR := hW1.neR
  have hnC := hW1.neC
  simp [Buf.fp] at hnb
  have hb3 := hW1.buf.keep hk (by simp [hnb])
  have hr3 := hW1.words.keep hk (by simp [hns, hnR]) (by simp [hnC]; exact fun e => hns.2.2.1 e.symm)
  have hc3 := hb3.cell
  have hlt := hb3.lt
  have hltC := hr3.lt
  clear hc h1
  go_wp2_with (first | (go_at_call 47; refine (HS.out _).mono ?_; rintro e w2 ⟨rfl, rfl⟩))
  have hmk3 := hmk w'.drew
  clear hmk
  have hmul : IntKind.i64.wrap (f * (s : Int)) = f * (s : Int) := IntWalk.i64_in _ (by omega)
  go_region_held3 (fun v => v.cell? ⟨x.b, 1, none⟩ = some (.pointer (some ⟨x.R, 0, none⟩))) (first | go_keep | exact (hb3.keep hq (by simp [hnb])).cell 1) (first | (go_at_call 73; refine (HL.out _ w'.heap.size (hr3.keep (((Keep.refl [] w').alloc _).drew) (by simp) (by simp)) ?_ ?_).mono ?_; (have hnw := (Blk.new w' 22 (Array.replicate s (Value.int .u64 0))).drew; simpa using hnw); omega; rintro e w3 ⟨rfl, hr4, hk4⟩; have hq := (((Keep.refl [x.C] w').alloc _).drew).trans hk4 (by simp)))
  all_goals
    clear hmul hmk3
    go_wp2_with fail
    go_ret
    obtain ⟨m, rfl⟩ := hd
    have hk2 := (((Keep.refl [x.RH, x.CH] w).drewN m).drew).trans hk (by simp)
    refine ⟨rfl, HO.out w w' w3 h hk2 hq hr ?_, (hk2.mono (by simp [Buf.fp])).trans hq (by simp [Buf.fp])⟩
    simpa using hr4

theorem mul_i (f s : Nat) : ((f * s : Nat) : Int) = (f : Int) * (s : Int) := by simp

set_option maxRecDepth 100000 in
theorem bnew_no (b f : Int) (w : World) (h : ¬ ((5 ≤ b ∧ b ≤ 9) ∧ 2 ≤ f ∧ f ≤ 8)) :
    Calls Try.prog 10 #[.int .i64 b, .int .i64 f] w fun e w' => e = .returned (.tuple #[.pointer none, .int .i64 1]) ∧ w = w' := by
  by_cases hb : 5 ≤ b ∧ b ≤ 9
  · have hm := decide_eq_true hb
    by_cases h2 : 2 ≤ f
    · have h3 : ¬ f ≤ 8 := fun h3 => h ⟨hb, h2, h3⟩
      clear h hb
      go_enter Try.func10, Try.ntmps10
      go_wp2_with (first | (go_at_call 45; refine (pmay_ok _ _ true hm).mono ?_; rintro e w' ⟨rfl, rfl⟩))
      go_ret2
      exact ⟨rfl, rfl⟩
    · clear h hb
      go_enter Try.func10, Try.ntmps10
      go_wp2_with (first | (go_at_call 45; refine (pmay_ok _ _ true hm).mono ?_; rintro e w' ⟨rfl, rfl⟩))
      go_ret2
      exact ⟨rfl, rfl⟩
  · have hm := decide_eq_false hb
    clear h hb
    go_enter Try.func10, Try.ntmps10
    go_wp2_with (first | (go_at_call 45; refine (pmay_ok _ _ false hm).mono ?_; rintro e w' ⟨rfl, rfl⟩))
    go_ret2
    exact ⟨rfl, rfl⟩

/-- A new buffer. -/
def Buf.fresh (bits frames b R C RH CH : Nat) : Buf := ⟨bits, b, R, C, RH, CH, List.replicate (frames * 2 ^ bits) 0, List.replicate frames 0⟩
theorem Buf.fresh_eq (b f : Nat) : Hid (Buf.fresh b f = fun p R C RH CH => (⟨b, p, R, C, RH, CH, List.replicate (f * 2 ^ b) 0, List.replicate f 0⟩ : Buf)) := rfl

set_option maxRecDepth 100000 in
theorem bnew_ok (b f : Nat) (w : World) (hb : 5 ≤ b ∧ b ≤ 9) (hf : 2 ≤ f ∧ f ≤ 8) :
    Calls Try.prog 10 #[.int .i64 b, .int .i64 f] w fun e w' =>
      ∃ p R C RH CH, e = .returned (.tuple #[.pointer (some ⟨p, 0, none⟩), .int .i64 0]) ∧ BufAt w' (Buf.fresh b f p R C RH CH) ∧ (∀ k ∈ (Buf.fresh b f p R C RH CH).all, w.heap.size ≤ k) ∧ Keep [] w w' := by
  have hm := decide_eq_true (show 5 ≤ (b : Int) ∧ (b : Int) ≤ 9 by omega)
  have hsz := psz_bd b hb
  have hmul1 : f * 32 ≤ f * 2 ^ b := Nat.mul_le_mul_left f hsz.1
  have hmul2 : f * 2 ^ b ≤ 8 * 512 := Nat.mul_le_mul hf.2 hsz.2
  have HS := Hid.mk (fun W => psize_ok b W hb.1 hb.2)
  have HR := Hid.mk (fun W => row_new_i ((f : Int) * (2 ^ b : Nat)) W (by rw [← mul_i]; omega) (by rw [← mul_i]; omega))
  have HH := Hid.mk (fun W => row_new_i (f : Int) W (by omega) (by omega))
  have e1 : ((f : Int) * (2 ^ b : Nat)).toNat = f * 2 ^ b := by rw [← mul_i]; omega
  rw [e1] at HR
  simp only [Int.toNat_natCast] at HH
  obtain ⟨hf1, hf2⟩ := hf
  have hmi : 0 ≤ (f : Int) * (2 ^ b : Nat) ∧ (f : Int) * (2 ^ b : Nat) ≤ 4096 := by rw [← mul_i]; omega
  obtain ⟨hmi0, hmi1⟩ := hmi
  clear e1 hmul1 hmul2
  have HN := Buf.fresh_eq b f
  generalize hs : 2 ^ b = s at *
  have HSS := Hid.mk hs
  clear hs
  go_enter Try.func10, Try.ntmps10
  go_wp2_with (first | (go_at_call 45; refine (pmay_ok _ _ true hm).mono ?_; rintro e w' ⟨rfl, rfl⟩) | (go_at_call 47; refine (HS.out _).mono ?_; rintro e w' ⟨rfl, rfl⟩))
  refine (HR.out _).mono ?_
  rintro e w1 ⟨r, c, rfl, hrow, hr, hc, hk⟩
  go_wp2_with fail
  refine (HH.out _).mono ?_
  rintro e w2 ⟨r2, c2, rfl, hrow2, hr2, hc2, hk2⟩
  go_wp2_with fail
  go_ret2
  have l1 := hrow.lt
  have z1 := hk.size
  have z2 := hk2.size
  have hkk := hk.trans hk2 (by simp)
  have hrow1 := hrow.keep (((Keep.refl [] w1).trans hk2 (by simp)).alloc (Obj.cells #[Value.int .i64 b, .pointer (some ⟨r, 0, none⟩), .pointer (some ⟨r2, 0, none⟩)] 104)) (by simp) (by simp)
  have hrow3 := hrow2.keep ((Keep.refl [] w2).alloc (Obj.cells #[Value.int .i64 b, .pointer (some ⟨r, 0, none⟩), .pointer (some ⟨r2, 0, none⟩)] 104)) (by simp) (by simp)
  refine ⟨w2.heap.size, r, c, r2, c2, rfl, ?_, ?_, hkk.alloc _⟩
  · rw [HN.out]
    refine ⟨by simpa using Blk.new w2 104 #[Value.int .i64 b, .pointer (some ⟨r, 0, none⟩), .pointer (some ⟨r2, 0, none⟩)], hrow1, hrow3, hb, ?_, ?_, ?_, ?_, Marks.fresh _⟩
    · simp; omega
    · simp [HSS.out]
    · show r ≠ r2; omega
    · show c ≠ c2; omega
  · intro k hk
    rw [HN.out] at hk
    simp [Buf.all, Buf.fp] at hk
    omega

end Go.Proofs.Ytlgebknbfchnlaa
