/- The walk of law18.InplaceMay, whole. -/
import Derived.Test.YtlgebknbfchnlaaMay
namespace Go.Proofs.Ytlgebknbfchnlaa
open Go Go.RowKit Go.Hay Go.Proofs.YtlgebknbfchnlaaW.PrintWords

theorem Drawn.keep {w w' : World} (h : Drawn w w') (S : List Nat) : Keep S w w' := by obtain ⟨m, rfl⟩ := h; exact (Keep.refl _ _).drewN _

theorem refmay_m (a key value : Int) (w : World) (ha : U64 a) (m : Bool) (hm : mayB 5 a key value = m) :
    Calls Try.prog 14 #[.int .i64 32, .int .u64 a, .int .i64 key, .int .i64 value] w fun e w' => e = .returned (.bool m) ∧ Drawn w w' := hm ▸ refmay_ok a key value w ha

set_option maxRecDepth 100000 in
set_option maxHeartbeats 4000000 in
theorem may_walk (a key : Int) (s : ByteArray) (n : Int) (w : World) (ha : U64 a) :
    Calls Try.prog 3 #[.int .u64 a, .int .i64 key, .string s, .int .i64 n] w fun e w' => e = .returned (.bool true) ∧ Keep [] w w' := by
  have HAw := Hid.mk (fun W => awake_ok W)
  by_cases hs : s.size ≤ 1000
  · have hd : decide ((1000 : Int) < (s.size : Int)) = false := by simp; omega
    have HN := Hid.mk (fun W => bnew_ok 5 2 W (by omega) (by omega))
    have HX := Hid.mk (fun (x : Buf) (W W' : World) (hW : BufAt W x) (k : Keep [] W W') => hW.keep k (by simp))
    have HRW := Hid.mk (fun x W (hW : BufAt W x) m hm => newW_any x a key s W hW ha (by omega) m hm)
    have HRR := Hid.mk (fun x W (hW : BufAt W x) m hm => newR_any x a key n W hW ha m hm)
    have HRA := Hid.mk (fun x W (hW : BufAt W x) m hm => newA_any x a key 1 W hW ha (by unfold U64; omega) m hm)
    have HNR := Hid.mk (fun W => newReader_nil a key n W)
    have HWN := Hid.mk wmove_nil
    have HRN := Hid.mk rmove_nil
    have HHN := Hid.mk wholds_nil
    have HVN := Hid.mk rvalue_nil
    have HWM := Hid.mk (fun p R C RH CH r va nw W (hW : BufAt W (Buf.fresh 5 2 p R C RH CH)) (hr : WrAt W p (a + 1) va nw r) (hst : r.state = 0) => wmove_no (Buf.fresh 5 2 p R C RH CH) (a + 1) va nw r W hW hr (by have := ha.1; omega) (fresh_ain _ _ _ _ _ _ _ _) hst)
    have HRMv := Hid.mk (fun p R C RH CH r va nw W (hW : BufAt W (Buf.fresh 5 2 p R C RH CH)) (hr : RdAt W p (a + 1) va nw r) (hst : r.state = 0) => rmove_no (Buf.fresh 5 2 p R C RH CH) (a + 1) va nw r W hW hr (by have := ha.1; omega) (fresh_ain _ _ _ _ _ _ _ _) hst)
    have HHd := Hid.mk (fun b va nw r W (hr : WrAt W b (a + 1) va nw r) (hst : r.state = 0) => (show r.holds = false by unfold Wr.holds; rw [hst]; rfl) ▸ wholds_ok b (a + 1) va nw r W hr)
    have HVl := Hid.mk (fun b va nw r W (hr : RdAt W b (a + 1) va nw r) (hv : r.val = ⟨#[]⟩) => hv ▸ rvalue_ok b (a + 1) va nw r W hr)
    obtain ⟨m1, hm1⟩ : ∃ m, mayB 5 a key s.size = m := ⟨_, rfl⟩
    obtain ⟨m2, hm2⟩ : ∃ m, mayB 5 a key n = m := ⟨_, rfl⟩
    obtain ⟨m3, hm3⟩ : ∃ m, mayB 5 a key 8 = m := ⟨_, rfl⟩
    have HM1 := Hid.mk hm1
    have HM2 := Hid.mk hm2
    have HM3 := Hid.mk hm3
    have HR1 := Hid.mk (fun W => refmay_m a key s.size W ha _ hm1)
    have HR2 := Hid.mk (fun W => refmay_m a key n W ha _ hm2)
    have HR3 := Hid.mk (fun W => refmay_m a key 8 W ha _ hm3)
    have HU := Hid.mk ha
    clear hm1 hm2 hm3
    cases m1 <;> cases m2 <;> cases m3
    all_goals
      go_enter Try.func3, Try.ntmps3
      go_wp2_with (first
        | (go_at_call 9; refine (HAw.out _).mono ?_; rintro e w1 ⟨rfl, hk1⟩)
        | (go_at_call 10; refine (HN.out _).mono ?_; rintro e w2 ⟨p, R, C, RH, CH, rfl, hx, hnew, hk2⟩; have kk2 := hk1.trans hk2 (by simp); have kc := Keep.refl [] w2)
        | (go_at_call 11; refine (HRW.out (Buf.fresh 5 2 p R C RH CH) _ hx _ HM1.out).mono ?_; rintro e w3 ⟨P, rfl, hT, hF, hk3⟩; (first | (obtain ⟨r, va, nw, rfl, hr, hst⟩ := hT rfl) | (obtain rfl := hF rfl)); replace kc := kc.trans hk3 (by simp); have kw := Keep.refl [] w3)
        | (go_at_call 12; with_reducible refine (HNR.out _).mono ?_; rintro e w9 ⟨rfl, hk9⟩; replace kc := kc.trans hk9 (by simp))
        | (go_at_call 12; refine (HRR.out (Buf.fresh 5 2 p R C RH CH) _ (HX.out _ _ _ hx kc) _ HM2.out).mono ?_; rintro e w4 ⟨P, rfl, hT, hF, hk4⟩; (first | (obtain ⟨r', va', nw', rfl, hr', hst', hval⟩ := hT rfl) | (obtain rfl := hF rfl)); replace kc := kc.trans hk4 (by simp); replace kw := kw.trans hk4 (by simp); have kr := Keep.refl [] w4)
        | (go_at_call 13; refine (HRA.out (Buf.fresh 5 2 p R C RH CH) _ (HX.out _ _ _ hx kc) _ HM3.out).mono ?_; rintro e w5 ⟨P, rfl, hT, hF, hk5⟩; (first | (obtain ⟨p3, rfl⟩ := hT rfl) | (obtain rfl := hF rfl)); replace kc := kc.trans hk5 (by simp); replace kw := kw.trans hk5 (by simp); replace kr := kr.trans hk5 (by simp))
        | (go_at_call 14; (first | with_reducible refine (HR1.out _).mono ?_ | with_reducible refine (HR2.out _).mono ?_ | with_reducible refine (HR3.out _).mono ?_); rintro e w6 ⟨rfl, hd6⟩; replace kc := kc.trans (Drawn.keep hd6 []) (by simp); replace kw := kw.trans (Drawn.keep hd6 []) (by simp); replace kr := kr.trans (Drawn.keep hd6 []) (by simp); clear hd6)
        | (go_at_call 15; with_reducible refine (HWN.out _).mono ?_; rintro e w7 ⟨rfl, rfl⟩)
        | (go_at_call 15; refine (HWM.out p R C RH CH r va nw _ (HX.out _ _ _ hx kc) (hr.keep kw (by simp)) hst).mono ?_; rintro e w6 ⟨rfl, hd6⟩; replace kc := kc.trans (Drawn.keep hd6 []) (by simp); replace kw := kw.trans (Drawn.keep hd6 []) (by simp); replace kr := kr.trans (Drawn.keep hd6 []) (by simp); clear hd6)
        | (go_at_call 16; with_reducible refine (HHN.out _).mono ?_; rintro e w7 ⟨rfl, rfl⟩)
        | (go_at_call 16; refine (HHd.out p va nw r _ (hr.keep kw (by simp)) hst).mono ?_; rintro e w7 ⟨rfl, rfl⟩)
        | (go_at_call 17; with_reducible refine (HRN.out _).mono ?_; rintro e w7 ⟨rfl, rfl⟩)
        | (go_at_call 17; refine (HRMv.out p R C RH CH r' va' nw' _ (HX.out _ _ _ hx kc) (hr'.keep kr (by simp)) hst').mono ?_; rintro e w6 ⟨rfl, hd6⟩; replace kc := kc.trans (Drawn.keep hd6 []) (by simp); replace kw := kw.trans (Drawn.keep hd6 []) (by simp); replace kr := kr.trans (Drawn.keep hd6 []) (by simp); clear hd6)
        | (go_at_call 18; with_reducible refine (HVN.out _).mono ?_; rintro e w7 ⟨rfl, rfl⟩)
        | (go_at_call 18; refine (HVl.out p va' nw' r' _ (hr'.keep kr (by simp)) hval).mono ?_; rintro e w7 ⟨rfl, rfl⟩))
      go_ret
      exact ⟨rfl, kk2.trans kc (by simp)⟩
  · have hd : decide ((1000 : Int) < (s.size : Int)) = true := by simp; omega
    go_enter Try.func3, Try.ntmps3
    go_wp2_with ((go_at_call 9; refine (HAw.out _).mono ?_; rintro e w1 ⟨rfl, hk1⟩))
    go_ret
    exact ⟨rfl, hk1⟩

theorem may_row (a key : Int) (s : ByteArray) (n : Int) (w : World) (ha : U64 a) (_ : -9223372036854775808 ≤ key ∧ key ≤ 9223372036854775807) (_ : -9223372036854775808 ≤ n ∧ n ≤ 9223372036854775807) :
    Calls Try.prog 3 #[.int .u64 a, .int .i64 key, .string s, .int .i64 n] w fun e w' => e = .returned (.bool true) ∧ Keep [] w w' := may_walk a key s n w ha
end Go.Proofs.Ytlgebknbfchnlaa
