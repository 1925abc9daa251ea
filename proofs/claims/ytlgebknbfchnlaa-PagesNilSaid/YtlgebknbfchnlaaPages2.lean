/- Contracts of package pages: words at addresses. -/
import Derived.Test.YtlgebknbfchnlaaPages
namespace Go.Proofs.Ytlgebknbfchnlaa
open Go Go.RowKit Go.Hay Go.Proofs.YtlgebknbfchnlaaW.PrintWords

/-- Is an address in? -/
def Buf.ain (x : Buf) (a : Int) : Bool := decide (a ≤ 281474976710655) && x.has (pageOf x.bits a)
/-- The cell of an address that is in. -/
def Buf.idx (x : Buf) (a : Int) : Int := x.fr (pageOf x.bits a) * (2 ^ x.bits : Nat) + offOf x.bits a

theorem mul_bd {f n s : Int} (h0 : 0 ≤ f) (h1 : f < n) (hs : 0 ≤ s) : 0 ≤ f * s ∧ f * s + s ≤ n * s := by
  have h2 : f + 1 ≤ n := by omega
  have h3 := Int.mul_le_mul_of_nonneg_right h2 hs
  rw [Int.add_mul, Int.one_mul] at h3
  exact ⟨Int.mul_nonneg h0 hs, h3⟩

theorem BufAt.page_bd {w : World} {x : Buf} (h : BufAt w x) (p : Int) : 0 ≤ x.fr p * (2 ^ x.bits : Nat) ∧ x.fr p * (2 ^ x.bits : Nat) + (2 ^ x.bits : Nat) ≤ x.words.length ∧ x.words.length ≤ 4096 := by
  have h1 := h.fr_bd p
  have h2 := psz_bd x.bits h.bits
  have h3 := mul_bd h1.1 h1.2.1 (show (0 : Int) ≤ (2 ^ x.bits : Nat) by omega)
  have h4 := h.size
  have h5 : ((x.words.length : Nat) : Int) = (x.holder.length : Int) * (2 ^ x.bits : Nat) := by rw [h4]; simp
  have h6 : x.words.length ≤ 8 * 512 := by rw [h4]; exact Nat.mul_le_mul h.frames.2 h2.2
  omega

theorem BufAt.idx_bd {w : World} {x : Buf} (h : BufAt w x) (a : Int) : 0 ≤ x.idx a ∧ x.idx a < x.words.length ∧ x.idx a ≤ 4096 := by
  have h1 := h.page_bd (pageOf x.bits a)
  have h2 := offOf_bd x.bits a
  unfold Buf.idx
  omega

set_option maxRecDepth 100000 in
theorem bat_ok (x : Buf) (a : Int) (w : World) (h : BufAt w x) (h0 : 0 ≤ a) (hi : x.ain a = true) :
    Calls Try.prog 64 #[.pointer (some ⟨x.b, 0, none⟩), .int .u64 a] w fun e w' => e = .returned (.tuple #[.int .i64 (x.idx a), .int .i64 0]) ∧ Drawn w w' := by
  have h1 := h.buf.cell
  unfold Buf.ain at hi
  rw [Bool.and_eq_true, decide_eq_true_eq] at hi
  obtain ⟨ha, hh⟩ := hi
  have hp := pageOf_bd x.bits a h.bits h0 ha
  have hf := h.fr_bd (pageOf x.bits a)
  have hpg := h.page_bd (pageOf x.bits a)
  have ho := offOf_bd x.bits a
  have hsz := psz_bd x.bits h.bits
  have HP := Hid.mk (fun W => Calls.of_drawn (ppage_ok x.bits a W h.bits h0 ha))
  have HO := Hid.mk (fun W => Calls.of_drawn (poff_ok x.bits a W h.bits h0 ha))
  have HS := Hid.mk (fun W => Calls.of_eq (psize_ok x.bits W h.bits.1 h.bits.2))
  have HH := Hid.mk (fun W (hW : BufAt W x) => Calls.of_drawn (bhas_ok x (pageOf x.bits a) W hW (by omega) true hh))
  have HF := Hid.mk (fun W (hW : BufAt W x) => Calls.of_eq (bframe_ok x (pageOf x.bits a) W hW (by omega) (by omega)))
  unfold Buf.idx
  clear hh
  generalize pageOf x.bits a = p at *
  generalize offOf x.bits a = o at *
  generalize x.fr p = f at *
  generalize hs : 2 ^ x.bits = s at *
  clear hs
  have hb2 : f * (s : Int) ≤ 4096 := by omega
  obtain ⟨hp0, hp1⟩ := hp
  obtain ⟨hf0, hf1, hf2⟩ := hf
  obtain ⟨hpg0, hpg1, hpg2⟩ := hpg
  obtain ⟨ho0, ho1⟩ := ho
  obtain ⟨hs0, hs1⟩ := hsz
  go_enter Try.func64, Try.ntmps64
  go_wp2_with (first | (go_at_call 87; refine (HP.out _).mono ?_; rintro e w' ⟨rfl, ⟨m1, rfl⟩⟩) | (go_at_call 36; refine (HH.out _ (h.drewN _)).mono ?_; rintro e w' ⟨rfl, ⟨m2, rfl⟩⟩))
  have hW := h.drewN (m1 + m2)
  have hc := hW.buf.cell
  have hd : Drawn w (w.drewN (m1 + m2)) := ⟨_, rfl⟩
  generalize w.drewN (m1 + m2) = W at hW hc hd ⊢
  go_quiet ((first | (go_at_call 87; exact Calls.quiet_of (HP.out _)) | (go_at_call 70; exact Calls.quiet_of_same (HF.out _ (hW.drewN _))) | (go_at_call 47; exact Calls.quiet_of_same (HS.out _)) | (go_at_call 88; exact Calls.quiet_of (HO.out _))))
  go_wp2_with fail
  go_ret2
  exact ⟨rfl, hd.step _⟩

set_option maxRecDepth 100000 in
theorem bat_no (x : Buf) (a : Int) (w : World) (h : BufAt w x) (h0 : 0 ≤ a) (hi : x.ain a = false) :
    Calls Try.prog 64 #[.pointer (some ⟨x.b, 0, none⟩), .int .u64 a] w fun e w' => e = .returned (.tuple #[.int .i64 0, .int .i64 7]) ∧ Drawn w w' := by
  have h1 := h.buf.cell
  by_cases ha : a ≤ 281474976710655
  · have hh : x.has (pageOf x.bits a) = false := by simpa [Buf.ain, ha] using hi
    have hp := pageOf_bd x.bits a h.bits h0 ha
    have HP := Hid.mk (fun W => Calls.of_drawn (ppage_ok x.bits a W h.bits h0 ha))
    have HH := Hid.mk (fun W (hW : BufAt W x) => Calls.of_drawn (bhas_ok x (pageOf x.bits a) W hW (by omega) false hh))
    clear hi hh
    generalize pageOf x.bits a = p at *
    go_enter Try.func64, Try.ntmps64
    go_wp2_with (first | (go_at_call 87; refine (HP.out _).mono ?_; rintro e w' ⟨rfl, ⟨m1, rfl⟩⟩) | (go_at_call 36; refine (HH.out _ (h.drewN _)).mono ?_; rintro e w' ⟨rfl, ⟨m2, rfl⟩⟩))
    go_ret2
    exact ⟨rfl, _, rfl⟩
  · go_enter Try.func64, Try.ntmps64
    go_wp2_with fail
    go_ret2
    exact ⟨rfl, 0, rfl⟩

/-- The word of an address. -/
def Buf.at_ (x : Buf) (a : Int) : Int := x.words.getD (x.idx a).toNat 0

set_option maxRecDepth 100000 in
theorem bload_ok (x : Buf) (a : Int) (w : World) (h : BufAt w x) (h0 : 0 ≤ a) (hi : x.ain a = true) :
    Calls Try.prog 27 #[.pointer (some ⟨x.b, 0, none⟩), .int .u64 a] w fun e w' => e = .returned (.tuple #[.int .u64 (x.at_ a), .int .i64 0]) ∧ Drawn w w' := by
  have h1 := h.buf.cell
  have hb := h.idx_bd a
  have HA := Hid.mk (fun W (hW : BufAt W x) => Calls.of_drawn (bat_ok x a W hW h0 hi))
  have HL := Hid.mk (fun W (hW : BufAt W x) => row_load _ _ _ (x.idx a) W hW.words (by omega) (by omega))
  unfold Buf.at_
  clear hi
  generalize x.words.getD (x.idx a).toNat 0 = v at *
  generalize x.idx a = i at *
  go_enter Try.func27, Try.ntmps27
  go_wp2_with (first | (go_at_call 64; refine (HA.out _ h).mono ?_; rintro e w' ⟨rfl, ⟨m1, rfl⟩⟩) | (go_at_call 65; refine (HL.out _ (h.drewN _)).mono ?_; rintro e w' ⟨rfl, rfl⟩))
  go_ret2
  exact ⟨rfl, _, rfl⟩

set_option maxRecDepth 100000 in
theorem bload_no (x : Buf) (a : Int) (w : World) (h : BufAt w x) (h0 : 0 ≤ a) (hi : x.ain a = false) :
    Calls Try.prog 27 #[.pointer (some ⟨x.b, 0, none⟩), .int .u64 a] w fun e w' => e = .returned (.tuple #[.int .u64 0, .int .i64 7]) ∧ Drawn w w' := by
  have HA := Hid.mk (Calls.of_drawn (bat_no x a w h h0 hi))
  go_enter Try.func27, Try.ntmps27
  go_wp2_with (first | (go_at_call 64; refine HA.out.mono ?_; rintro e w' ⟨rfl, ⟨m1, rfl⟩⟩))
  go_ret2
  exact ⟨rfl, _, rfl⟩

/-- The buffer with other words. -/
def Buf.withWords (x : Buf) (l : List Int) : Buf := { x with words := l }
def Buf.put (x : Buf) (a v : Int) : Buf := x.withWords (x.words.set (x.idx a).toNat v)
theorem Buf.put_eq (x : Buf) (a v : Int) : Hid (x.put a v = x.withWords (x.words.set (x.idx a).toNat v)) := rfl

theorem BufAt.withWords {w w' : World} {x : Buf} (h : BufAt w x) {l : List Int} (hl : l.length = x.words.length) (hr : RowAt w' x.R x.C l) (k : Keep [x.R, x.C] w w') : BufAt w' (x.withWords l) := by
  obtain ⟨n1, n2, n3, n4⟩ := h.nes
  have hb := h.ne_b
  simp [Buf.fp] at hb
  refine ⟨h.buf.keep k (by simp [hb]), hr, h.holder.keep k ?_ ?_, h.bits, h.frames, ?_, h.neR, h.neC, h.marks⟩
  · have := h.neR; simp [n3, this.symm]
  · have := h.neC; simp [this.symm]; exact fun e => n2 e.symm
  · rw [Buf.withWords, hl]; exact h.size

set_option maxRecDepth 100000 in
theorem bstore_ok (x : Buf) (a v : Int) (w : World) (h : BufAt w x) (h0 : 0 ≤ a) (hv : U64 v) (hi : x.ain a = true) :
    Calls Try.prog 42 #[.pointer (some ⟨x.b, 0, none⟩), .int .u64 a, .int .u64 v] w fun e w' => e = .returned (.int .i64 0) ∧ BufAt w' (x.put a v) ∧ Keep [x.C] w w' := by
  have h1 := h.buf.cell
  have hb := h.idx_bd a
  have HA := Hid.mk (fun W (hW : BufAt W x) => Calls.of_drawn (bat_ok x a W hW h0 hi))
  have HL := Hid.mk (fun W (hW : BufAt W x) => row_store _ _ _ (x.idx a) v W hW.words (by omega) (by omega))
  have HE := x.put_eq a v
  have HR := Hid.mk (fun W (hW : BufAt W x) => hW.words.set (x.idx a).toNat hv)
  clear hi hv
  generalize x.idx a = i at *
  go_enter Try.func42, Try.ntmps42
  go_wp2_with (first | (go_at_call 64; refine (HA.out _ h).mono ?_; rintro e w' ⟨rfl, ⟨m1, rfl⟩⟩) | (go_at_call 74; refine (HL.out _ (h.drewN _)).mono ?_; rintro e w' ⟨rfl, rfl⟩))
  go_ret
  have hk : Keep [x.C] w ((w.drewN m1).setCell ⟨x.C, i.toNat, none⟩ (.int .u64 v)) := ((Keep.refl _ _).drewN _).set (by simp) _ _
  refine ⟨rfl, ?_, hk⟩
  rw [HE.out]
  exact h.withWords (by simp) (HR.out _ (h.drewN _)) (hk.mono (by simp))

set_option maxRecDepth 100000 in
theorem bstore_no (x : Buf) (a v : Int) (w : World) (h : BufAt w x) (h0 : 0 ≤ a) (hi : x.ain a = false) :
    Calls Try.prog 42 #[.pointer (some ⟨x.b, 0, none⟩), .int .u64 a, .int .u64 v] w fun e w' => e = .returned (.int .i64 7) ∧ Drawn w w' := by
  have HA := Hid.mk (Calls.of_drawn (bat_no x a w h h0 hi))
  go_enter Try.func42, Try.ntmps42
  go_wp2_with (first | (go_at_call 64; refine HA.out.mono ?_; rintro e w' ⟨rfl, ⟨m1, rfl⟩⟩))
  go_ret
  exact ⟨rfl, _, rfl⟩

set_option maxRecDepth 100000 in
theorem bcas_hit (x : Buf) (a o v : Int) (w : World) (h : BufAt w x) (h0 : 0 ≤ a) (hv : U64 v) (hi : x.ain a = true) (ho : x.at_ a = o) :
    Calls Try.prog 40 #[.pointer (some ⟨x.b, 0, none⟩), .int .u64 a, .int .u64 o, .int .u64 v] w fun e w' => e = .returned (.tuple #[.bool true, .int .i64 0]) ∧ BufAt w' (x.put a v) ∧ Keep [x.R, x.C] w w' := by
  have h1 := h.buf.cell
  have hb := h.idx_bd a
  have HA := Hid.mk (fun W (hW : BufAt W x) => Calls.of_drawn (bat_ok x a W hW h0 hi))
  have HL := Hid.mk (fun W (hW : BufAt W x) => row_cas_hit _ _ _ (x.idx a) o v W hW.words (by omega) (by omega) ho hv)
  have HE := x.put_eq a v
  clear hi hv ho
  generalize x.idx a = i at *
  go_enter Try.func40, Try.ntmps40
  go_wp2_with (first | (go_at_call 64; refine (HA.out _ h).mono ?_; rintro e w' ⟨rfl, ⟨m1, rfl⟩⟩) | (go_at_call 71; refine (HL.out _ (h.drewN _)).mono ?_; rintro e w' ⟨rfl, hr, hk⟩))
  go_ret2
  refine ⟨rfl, ?_, ((Keep.refl _ w).drewN m1).trans hk (by simp)⟩
  rw [HE.out]
  exact h.withWords (by simp) hr (((Keep.refl _ w).drewN m1).trans hk (by simp))

set_option maxRecDepth 100000 in
theorem bcas_miss (x : Buf) (a o v : Int) (w : World) (h : BufAt w x) (h0 : 0 ≤ a) (hi : x.ain a = true) (ho : ¬ x.at_ a = o) :
    Calls Try.prog 40 #[.pointer (some ⟨x.b, 0, none⟩), .int .u64 a, .int .u64 o, .int .u64 v] w fun e w' => e = .returned (.tuple #[.bool false, .int .i64 0]) ∧ BufAt w' x ∧ Keep [x.R, x.C] w w' := by
  have h1 := h.buf.cell
  have hb := h.idx_bd a
  have HA := Hid.mk (fun W (hW : BufAt W x) => Calls.of_drawn (bat_ok x a W hW h0 hi))
  have HL := Hid.mk (fun W (hW : BufAt W x) => row_cas_miss _ _ _ (x.idx a) o v W hW.words (by omega) (by omega) ho)
  clear hi ho
  generalize x.idx a = i at *
  go_enter Try.func40, Try.ntmps40
  go_wp2_with (first | (go_at_call 64; refine (HA.out _ h).mono ?_; rintro e w' ⟨rfl, ⟨m1, rfl⟩⟩) | (go_at_call 71; refine (HL.out _ (h.drewN _)).mono ?_; rintro e w' ⟨rfl, hr, hk⟩))
  go_ret2
  refine ⟨rfl, ?_, ((Keep.refl _ w).drewN m1).trans hk (by simp)⟩
  exact h.withWords (l := x.words) rfl hr (((Keep.refl _ w).drewN m1).trans hk (by simp))

set_option maxRecDepth 100000 in
theorem bcas_no (x : Buf) (a o v : Int) (w : World) (h : BufAt w x) (h0 : 0 ≤ a) (hi : x.ain a = false) :
    Calls Try.prog 40 #[.pointer (some ⟨x.b, 0, none⟩), .int .u64 a, .int .u64 o, .int .u64 v] w fun e w' => e = .returned (.tuple #[.bool false, .int .i64 7]) ∧ Drawn w w' := by
  have HA := Hid.mk (Calls.of_drawn (bat_no x a w h h0 hi))
  go_enter Try.func40, Try.ntmps40
  go_wp2_with (first | (go_at_call 64; refine HA.out.mono ?_; rintro e w' ⟨rfl, ⟨m1, rfl⟩⟩))
  go_ret2
  exact ⟨rfl, _, rfl⟩

/-! ### runs of words -/
/-- What a run answers: 0, or the error. -/
def Buf.runE (x : Buf) (a n : Int) : Int := if x.ain a then (if 1 ≤ n ∧ n ≤ roomOf x.bits a then 0 else 1) else 7

set_option maxRecDepth 100000 in
theorem brun_ok (x : Buf) (a n : Int) (w : World) (h : BufAt w x) (h0 : 0 ≤ a) (he : x.runE a n = 0) :
    Calls Try.prog 77 #[.pointer (some ⟨x.b, 0, none⟩), .int .u64 a, .int .i64 n] w fun e w' => e = .returned (.tuple #[.int .i64 (x.idx a), .int .i64 0]) ∧ Drawn w w' := by
  have h1 := h.buf.cell
  have hi : x.ain a = true := by unfold Buf.runE at he; split at he <;> simp_all
  have hf : decide (1 ≤ n ∧ n ≤ roomOf x.bits a) = true := by unfold Buf.runE at he; rw [if_pos hi] at he; split at he <;> simp_all
  have HA := Hid.mk (Calls.of_drawn (bat_ok x a w h h0 hi))
  have HF := Hid.mk (fun W => Calls.of_drawn (pfits_ok x.bits a n W h.bits h0 true hf))
  clear hi he hf
  generalize x.idx a = i at *
  go_enter Try.func77, Try.ntmps77
  go_wp2_with (first | (go_at_call 64; refine HA.out.mono ?_; rintro e w' ⟨rfl, ⟨m1, rfl⟩⟩) | (go_at_call 80; refine (HF.out _).mono ?_; rintro e w' ⟨rfl, ⟨m2, rfl⟩⟩))
  go_ret2
  exact ⟨rfl, _, rfl⟩

set_option maxRecDepth 100000 in
theorem brun_no (x : Buf) (a n : Int) (w : World) (h : BufAt w x) (h0 : 0 ≤ a) (he : x.runE a n ≠ 0) :
    Calls Try.prog 77 #[.pointer (some ⟨x.b, 0, none⟩), .int .u64 a, .int .i64 n] w fun e w' => e = .returned (.tuple #[.int .i64 0, .int .i64 (x.runE a n)]) ∧ Drawn w w' := by
  have h1 := h.buf.cell
  by_cases hi : x.ain a = true
  · have hf : decide (1 ≤ n ∧ n ≤ roomOf x.bits a) = false := by unfold Buf.runE at he; rw [if_pos hi] at he; simp at he ⊢; exact he
    have HE := Hid.mk (show x.runE a n = 1 by unfold Buf.runE; rw [if_pos hi, if_neg (of_decide_eq_false hf)])
    have HA := Hid.mk (Calls.of_drawn (bat_ok x a w h h0 hi))
    have HF := Hid.mk (fun W => Calls.of_drawn (pfits_ok x.bits a n W h.bits h0 false hf))
    rw [HE.out]
    clear hi he hf HE
    generalize x.idx a = i at *
    go_enter Try.func77, Try.ntmps77
    go_wp2_with (first | (go_at_call 64; refine HA.out.mono ?_; rintro e w' ⟨rfl, ⟨m1, rfl⟩⟩) | (go_at_call 80; refine (HF.out _).mono ?_; rintro e w' ⟨rfl, ⟨m2, rfl⟩⟩))
    go_ret2
    exact ⟨rfl, _, rfl⟩
  · have hi' : x.ain a = false := by simpa using hi
    have HE := Hid.mk (show x.runE a n = 7 by unfold Buf.runE; rw [if_neg hi])
    have HA := Hid.mk (Calls.of_drawn (bat_no x a w h h0 hi'))
    rw [HE.out]
    clear hi he hi' HE
    go_enter Try.func77, Try.ntmps77
    go_wp2_with (first | (go_at_call 64; refine HA.out.mono ?_; rintro e w' ⟨rfl, ⟨m1, rfl⟩⟩))
    go_ret2
    exact ⟨rfl, _, rfl⟩

theorem BufAt.run_bd {w : World} {x : Buf} (h : BufAt w x) {a n : Int} (he : x.runE a n = 0) : 0 ≤ x.idx a ∧ 1 ≤ n ∧ x.idx a + n ≤ x.words.length ∧ x.words.length ≤ 4096 := by
  unfold Buf.runE at he
  split at he
  · split at he
    · rename_i h1 h2
      unfold roomOf at h2
      have h3 := h.page_bd (pageOf x.bits a)
      have h4 := offOf_bd x.bits a
      unfold Buf.idx
      split at h2 <;> omega
    · omega
  · omega

set_option maxRecDepth 100000 in
theorem bwords_ok (x : Buf) (a n : Int) (w : World) (h : BufAt w x) (h0 : 0 ≤ a) (he : x.runE a n = 0) :
    Calls Try.prog 41 #[.pointer (some ⟨x.b, 0, none⟩), .int .u64 a, .int .i64 n] w fun e w' =>
      ∃ g, e = .returned (.tuple #[.slice (some ⟨g, 0, none⟩) n.toNat n.toNat, .int .i64 0]) ∧ w.heap.size ≤ g ∧ Blk w' g 22 (((x.words.drop (x.idx a).toNat).take n.toNat).map (Value.int .u64)).toArray ∧ Keep [] w w' := by
  have h1 := h.buf.cell
  obtain ⟨b0, b1, b2, b3⟩ := h.run_bd he
  have HA := Hid.mk (Calls.of_drawn (brun_ok x a n w h h0 he))
  have HW := Hid.mk (fun W (hW : BufAt W x) => row_words_i _ _ _ (x.idx a) n W hW.words (by omega) (by omega) (by omega))
  clear he
  generalize x.idx a = i at *
  go_enter Try.func41, Try.ntmps41
  go_wp2_with (first | (go_at_call 77; refine HA.out.mono ?_; rintro e w' ⟨rfl, ⟨m1, rfl⟩⟩) | (go_at_call 75; refine (HW.out _ (h.drewN _)).mono ?_; rintro e w' ⟨g, rfl, hg, hb, hk⟩))
  go_ret2
  exact ⟨g, rfl, hg, hb, ((Keep.refl _ w).drewN m1).trans hk (by simp)⟩

set_option maxRecDepth 100000 in
theorem bwords_no (x : Buf) (a n : Int) (w : World) (h : BufAt w x) (h0 : 0 ≤ a) (he : x.runE a n ≠ 0) :
    Calls Try.prog 41 #[.pointer (some ⟨x.b, 0, none⟩), .int .u64 a, .int .i64 n] w fun e w' => e = .returned (.tuple #[.slice none 0 0, .int .i64 (x.runE a n)]) ∧ Drawn w w' := by
  have HA := Hid.mk (Calls.of_drawn (brun_no x a n w h h0 he))
  have hd : (x.runE a n != 0) = true := bne_iff_ne.2 he
  clear he
  generalize x.runE a n = E at *
  go_enter Try.func41, Try.ntmps41
  go_wp2_with (first | (go_at_call 77; refine HA.out.mono ?_; rintro e w' ⟨rfl, ⟨m1, rfl⟩⟩))
  go_ret2
  exact ⟨rfl, _, rfl⟩

def Buf.putRun (x : Buf) (a : Int) (l : List Int) : Buf := x.withWords (putAt x.words (x.idx a).toNat l)
theorem Buf.putRun_eq (x : Buf) (a : Int) (l : List Int) : Hid (x.putRun a l = x.withWords (putAt x.words (x.idx a).toNat l)) := rfl

set_option maxRecDepth 100000 in
theorem bfill_ok (x : Buf) (a : Int) (A : Option Addr) (n cap : Nat) (l : List Int) (w : World) (h : BufAt w x) (h0 : 0 ≤ a) (hl : (Kd.int .u64).C w A n l) (hA : ∀ ad, A = some ad → ad.block ≠ x.C) (hR : ∀ y ∈ l, U64 y) (he : x.runE a n = 0) :
    Calls Try.prog 43 #[.pointer (some ⟨x.b, 0, none⟩), .int .u64 a, .slice A n cap] w fun e w' =>
      e = .returned (.int .i64 0) ∧ BufAt w' (x.putRun a l) ∧ Keep [x.C] w w' := by
  have h1 := h.buf.cell
  obtain ⟨b0, b1, b2, b3⟩ := h.run_bd he
  have hll : l.length = n := hl.1
  have HN := Hid.mk hll
  have HA := Hid.mk (Calls.of_drawn (brun_ok x a n w h h0 he))
  have HE := x.putRun_eq a l
  have HW := Hid.mk (fun (m : Nat) => row_fill_i _ _ _ (x.idx a) A n cap l (w.drewN m) (h.drewN m).words (C_keep hl ((Keep.refl [] w).drewN m) (by simp)) hA (by omega) (by omega) hR)
  clear he hll
  generalize x.idx a = i at *
  go_enter Try.func43, Try.ntmps43
  go_wp2_with (first | (go_at_call 77; refine HA.out.mono ?_; rintro e w' ⟨rfl, ⟨m1, rfl⟩⟩) | (go_at_call 73; refine (HW.out _).mono ?_; rintro e w' ⟨rfl, hr, hk⟩))
  go_ret
  have hk2 := ((Keep.refl [x.C] w).drewN m1).trans hk (by simp)
  refine ⟨rfl, ?_, hk2⟩
  rw [HE.out]
  exact h.withWords (putAt_length _ _ _ (by have := HN.out; omega)) hr (hk2.mono (by simp))

set_option maxRecDepth 100000 in
theorem bfill_no (x : Buf) (a : Int) (A : Option Addr) (n cap : Nat) (w : World) (h : BufAt w x) (h0 : 0 ≤ a) (he : x.runE a n ≠ 0) :
    Calls Try.prog 43 #[.pointer (some ⟨x.b, 0, none⟩), .int .u64 a, .slice A n cap] w fun e w' => e = .returned (.int .i64 (x.runE a n)) ∧ Drawn w w' := by
  have HA := Hid.mk (Calls.of_drawn (brun_no x a n w h h0 he))
  have hd : (x.runE a n != 0) = true := bne_iff_ne.2 he
  clear he
  generalize x.runE a n = E at *
  go_enter Try.func43, Try.ntmps43
  go_wp2_with (first | (go_at_call 77; refine HA.out.mono ?_; rintro e w' ⟨rfl, ⟨m1, rfl⟩⟩))
  go_ret
  exact ⟨rfl, _, rfl⟩

end Go.Proofs.Ytlgebknbfchnlaa
