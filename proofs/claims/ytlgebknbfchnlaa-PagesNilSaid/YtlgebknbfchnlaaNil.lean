/- law12: its example, and a buffer that isn't there. -/
import Derived.Test.YtlgebknbfchnlaaPages4
import Derived.Outline
namespace Go.Proofs.Ytlgebknbfchnlaa
open Go Go.RowKit Go.Hay Go.Proofs.YtlgebknbfchnlaaW.PrintWords

/-! ## a buffer that isn't there -/
set_option maxRecDepth 100000 in
theorem nbits_ok (w : World) : Calls Try.prog 38 #[.pointer none] w fun e w' => e = .returned (.int .i64 0) ∧ w = w' := by
  go_enter Try.func38, Try.ntmps38
  go_wp2_with fail
  go_ret
  exact ⟨rfl, rfl⟩
set_option maxRecDepth 100000 in
theorem nframes_ok (w : World) : Calls Try.prog 39 #[.pointer none] w fun e w' => e = .returned (.int .i64 0) ∧ w = w' := by
  go_enter Try.func39, Try.ntmps39
  go_wp2_with fail
  go_ret
  exact ⟨rfl, rfl⟩
set_option maxRecDepth 100000 in
theorem nhas_ok (p : Int) (w : World) : Calls Try.prog 36 #[.pointer none, .int .i64 p] w fun e w' => e = .returned (.bool false) ∧ Drawn w w' := by
  go_enter Try.func36, Try.ntmps36
  go_wp2_with fail
  go_quiet (fail)
  go_wp2_with fail
  go_ret
  exact ⟨rfl, _, rfl⟩
set_option maxRecDepth 100000 in
theorem nopen_ok (p : Int) (w : World) : Calls Try.prog 32 #[.pointer none, .int .i64 p] w fun e w' => e = .returned (.int .i64 2) ∧ w = w' := by
  go_enter Try.func32, Try.ntmps32
  go_wp2_with fail
  go_ret
  exact ⟨rfl, rfl⟩
set_option maxRecDepth 100000 in
theorem nclose_ok (p : Int) (w : World) : Calls Try.prog 33 #[.pointer none, .int .i64 p] w fun e w' => e = .returned (.int .i64 2) ∧ w = w' := by
  go_enter Try.func33, Try.ntmps33
  go_wp2_with fail
  go_ret
  exact ⟨rfl, rfl⟩
set_option maxRecDepth 100000 in
theorem nin_ok (w : World) : Calls Try.prog 31 #[.pointer none] w fun e w' => e = .returned (.slice none 0 0) ∧ Keep [] w w' := by
  have HF := Hid.mk (fun W => nframes_ok W)
  have HS := Hid.mk (fun W => sort_nil none 0 W)
  go_enter Try.func31, Try.ntmps31
  go_wp2_with ((go_at_call 39; refine (HF.out _).mono ?_; rintro e w' ⟨rfl, rfl⟩))
  go_loop [3, 8] (fun v i => i = .int .i64 0 ∧ v = .slice none 0 0) (fun _ _ => 0)
  case atStart => exact ⟨rfl, rfl⟩
  case round =>
    obtain ⟨rfl, rfl⟩ := hrel
    go_wp2_with ((go_at_call 69; refine (HS.out _).mono ?_; rintro e w' ⟨rfl, rfl⟩))
    go_ret
    exact ⟨rfl, Keep.refl _ _⟩
set_option maxRecDepth 100000 in
theorem nat_ok (a : Int) (w : World) : Calls Try.prog 64 #[.pointer none, .int .u64 a] w fun e w' => e = .returned (.tuple #[.int .i64 0, .int .i64 2]) ∧ w = w' := by
  go_enter Try.func64, Try.ntmps64
  go_wp2_with fail
  go_ret2
  exact ⟨rfl, rfl⟩
set_option maxRecDepth 100000 in
theorem nrun_ok (a n : Int) (w : World) : Calls Try.prog 77 #[.pointer none, .int .u64 a, .int .i64 n] w fun e w' => e = .returned (.tuple #[.int .i64 0, .int .i64 2]) ∧ w = w' := by
  go_enter Try.func77, Try.ntmps77
  go_wp2_with ((go_at_call 64; refine (nat_ok _ _).mono ?_; rintro e w' ⟨rfl, rfl⟩))
  go_ret2
  exact ⟨rfl, rfl⟩
set_option maxRecDepth 100000 in
theorem nload_ok (a : Int) (w : World) : Calls Try.prog 27 #[.pointer none, .int .u64 a] w fun e w' => e = .returned (.tuple #[.int .u64 0, .int .i64 2]) ∧ w = w' := by
  go_enter Try.func27, Try.ntmps27
  go_wp2_with ((go_at_call 64; refine (nat_ok _ _).mono ?_; rintro e w' ⟨rfl, rfl⟩))
  go_ret2
  exact ⟨rfl, rfl⟩
set_option maxRecDepth 100000 in
theorem nstore_ok (a u : Int) (w : World) : Calls Try.prog 42 #[.pointer none, .int .u64 a, .int .u64 u] w fun e w' => e = .returned (.int .i64 2) ∧ w = w' := by
  go_enter Try.func42, Try.ntmps42
  go_wp2_with ((go_at_call 64; refine (nat_ok _ _).mono ?_; rintro e w' ⟨rfl, rfl⟩))
  go_ret
  exact ⟨rfl, rfl⟩
set_option maxRecDepth 100000 in
theorem ncas_ok (a o u : Int) (w : World) : Calls Try.prog 40 #[.pointer none, .int .u64 a, .int .u64 o, .int .u64 u] w fun e w' => e = .returned (.tuple #[.bool false, .int .i64 2]) ∧ w = w' := by
  go_enter Try.func40, Try.ntmps40
  go_wp2_with ((go_at_call 64; refine (nat_ok _ _).mono ?_; rintro e w' ⟨rfl, rfl⟩))
  go_ret2
  exact ⟨rfl, rfl⟩
set_option maxRecDepth 100000 in
theorem nwords_ok (a n : Int) (w : World) : Calls Try.prog 41 #[.pointer none, .int .u64 a, .int .i64 n] w fun e w' => e = .returned (.tuple #[.slice none 0 0, .int .i64 2]) ∧ w = w' := by
  go_enter Try.func41, Try.ntmps41
  go_wp2_with ((go_at_call 77; refine (nrun_ok _ _ _).mono ?_; rintro e w' ⟨rfl, rfl⟩))
  go_ret2
  exact ⟨rfl, rfl⟩
set_option maxRecDepth 100000 in
theorem nfill_ok (a : Int) (A : Option Addr) (n cap : Nat) (w : World) : Calls Try.prog 43 #[.pointer none, .int .u64 a, .slice A n cap] w fun e w' => e = .returned (.int .i64 2) ∧ w = w' := by
  go_enter Try.func43, Try.ntmps43
  go_wp2_with ((go_at_call 77; refine (nrun_ok _ _ _).mono ?_; rintro e w' ⟨rfl, rfl⟩))
  go_ret
  exact ⟨rfl, rfl⟩
set_option maxRecDepth 100000 in
theorem npage_ok (p : Int) (w : World) : Calls Try.prog 34 #[.pointer none, .int .i64 p] w fun e w' => e = .returned (.tuple #[.slice none 0 0, .int .i64 2]) ∧ w = w' := by
  go_enter Try.func34, Try.ntmps34
  go_wp2_with fail
  go_ret2
  exact ⟨rfl, rfl⟩

/-! ## the example -/
set_option linter.unusedSimpArgs false in
set_option maxRecDepth 100000 in
set_option maxHeartbeats 1000000 in
theorem awake12_ok (w : World) : Calls Try.prog 28 #[] w fun e w' => e = .returned (.bool true) ∧ Keep [] w w' := by
  have HN := Hid.mk (fun W => bnew_ok 5 2 W (by omega) (by omega))
  have H0 := Hid.mk (fun p R C RH CH W (hW : BufAt W (Buf.fresh 5 2 p R C RH CH)) => bopen_ok (Buf.fresh 5 2 p R C RH CH) 0 W hW (by omega) (by simp [Buf.openE, Buf.has, Buf.hold, Buf.fresh, Buf.fr, Buf.nf]))
  have H1 := Hid.mk (fun p R C RH CH W (hW : BufAt W ((Buf.fresh 5 2 p R C RH CH).opened 0)) => bopen_ok ((Buf.fresh 5 2 p R C RH CH).opened 0) 1 W hW (by omega) (by simp [Buf.openE, Buf.has, Buf.hold, Buf.fresh, Buf.fr, Buf.nf, Buf.opened]))
  have H2 := Hid.mk (fun p R C RH CH W (hW : BufAt W (((Buf.fresh 5 2 p R C RH CH).opened 0).opened 1)) => bopen_busy (((Buf.fresh 5 2 p R C RH CH).opened 0).opened 1) 2 W hW (by omega) (by simp [Buf.openE, Buf.has, Buf.hold, Buf.fresh, Buf.fr, Buf.nf, Buf.opened]))
  have H3 := Hid.mk (fun p R C RH CH W (hW : BufAt W (((Buf.fresh 5 2 p R C RH CH).opened 0).opened 1)) => bclose_ok (((Buf.fresh 5 2 p R C RH CH).opened 0).opened 1) 0 W hW (by omega) (by simp [Buf.openE, Buf.has, Buf.hold, Buf.fresh, Buf.fr, Buf.nf, Buf.opened]))
  have H4 := Hid.mk (fun p R C RH CH W (hW : BufAt W ((((Buf.fresh 5 2 p R C RH CH).opened 0).opened 1).setHold 0 0)) => bopen_ok ((((Buf.fresh 5 2 p R C RH CH).opened 0).opened 1).setHold 0 0) 2 W hW (by omega) (by simp [Buf.openE, Buf.has, Buf.hold, Buf.fresh, Buf.fr, Buf.nf, Buf.opened, Buf.setHold]))
  have HK := Hid.mk (fun p R C RH CH (w1 w2 w3 w4 w5 w6 : World) (hnew : ∀ k ∈ (Buf.fresh 5 2 p R C RH CH).all, w.heap.size ≤ k) (k1 : Keep [] w w1) (k2 : Keep (Buf.fresh 5 2 p R C RH CH).fp w1 w2) (k3 : Keep ((Buf.fresh 5 2 p R C RH CH).opened 0).fp w2 w3) (k4 : Keep [RH, CH] w3 w4) (k5 : Keep [CH] w4 w5) (k6 : Keep ((((Buf.fresh 5 2 p R C RH CH).opened 0).opened 1).setHold 0 0).fp w5 w6) => by
    have hf : ∀ b ∈ [R, C, RH, CH], b ∈ ([] : List Nat) ∨ w.heap.size ≤ b := fun b hb => .inr (hnew b (List.mem_cons_of_mem _ hb))
    have a2 : Keep [] w w2 := k1.trans k2 hf
    have a3 : Keep [] w w3 := a2.trans k3 hf
    have a4 : Keep [] w w4 := a3.trans k4 (fun b hb => hf b (by simp at hb ⊢; omega))
    have a5 : Keep [] w w5 := a4.trans k5 (fun b hb => hf b (by simp at hb ⊢; omega))
    exact a5.trans k6 hf)
  go_enter Try.func28, Try.ntmps28
  go_wp2_with (first
    | (go_at_call 10; refine (HN.out _).mono ?_; rintro e w1 ⟨p, R, C, RH, CH, rfl, hx, hnew, k1⟩)
    | (go_at_call 32; refine (H4.out p R C RH CH _ hx5).mono ?_; rintro e w6 ⟨rfl, hx6, k6⟩)
    | (go_at_call 33; refine (H3.out p R C RH CH _ hx4).mono ?_; rintro e w5 ⟨rfl, hx5, k5⟩)
    | (go_at_call 32; refine (H2.out p R C RH CH _ hx3).mono ?_; rintro e w4 ⟨rfl, hx4, k4⟩)
    | (go_at_call 32; refine (H1.out p R C RH CH _ hx2).mono ?_; rintro e w3 ⟨rfl, hx3, k3⟩)
    | (go_at_call 32; refine (H0.out p R C RH CH _ hx).mono ?_; rintro e w2 ⟨rfl, hx2, k2⟩))
  go_ret
  exact ⟨rfl, HK.out p R C RH CH w1 w2 w3 w4 w5 w6 hnew k1 k2 k3 k4 k5 k6⟩
end Go.Proofs.Ytlgebknbfchnlaa
