/- The walk of law18.InplaceMay. -/
import Derived.Test.YtlgebknbfchnlaaAwake
namespace Go.Proofs.Ytlgebknbfchnlaa
open Go Go.RowKit Go.Hay Go.Proofs.YtlgebknbfchnlaaW.PrintWords

set_option maxRecDepth 100000 in
theorem refsize_ok (key value : Int) (w : World) :
    Calls Try.prog 51 #[.int .i64 key, .int .i64 value] w fun e w' => e = .returned (.int .i64 (recSize key value)) ∧ w = w' := by
  unfold recSize
  by_cases h1 : key < 0
  · rw [if_neg (by omega)]
    go_enter Try.func51, Try.ntmps51
    go_wp2_with fail
    go_ret
    exact ⟨rfl, rfl⟩
  · by_cases h2 : value < 0
    · rw [if_neg (by omega)]
      go_enter Try.func51, Try.ntmps51
      go_wp2_with fail
      go_ret
      exact ⟨rfl, rfl⟩
    · by_cases h3 : 64 < key
      · rw [if_neg (by omega)]
        go_enter Try.func51, Try.ntmps51
        go_wp2_with fail
        go_ret
        exact ⟨rfl, rfl⟩
      · by_cases h4 : 128 < value
        · rw [if_neg (by omega)]
          go_enter Try.func51, Try.ntmps51
          go_wp2_with fail
          go_ret
          exact ⟨rfl, rfl⟩
        · rw [if_pos (by omega)]
          go_enter Try.func51, Try.ntmps51
          go_wp2_with fail
          go_ret
          exact ⟨ret_int (by omega), rfl⟩

set_option maxRecDepth 100000 in
theorem refmay_ok (a key value : Int) (w : World) (ha : U64 a) :
    Calls Try.prog 14 #[.int .i64 32, .int .u64 a, .int .i64 key, .int .i64 value] w fun e w' => e = .returned (.bool (mayB 5 a key value)) ∧ Drawn w w' := by
  have HS := Hid.mk (fun W => refsize_ok key value W)
  have HM := mayB_eq 5 a key value
  have hb := recSize_bd key value
  have hro : roomOf 5 a = if a ≤ 281474976710655 then 32 - a % 32 else 0 := by unfold roomOf offOf; simp
  rw [hro] at HM
  generalize recSize key value = s at *
  generalize mayB 5 a key value = m at *
  clear hro
  obtain ⟨a0, a1⟩ := ha
  obtain ⟨b0, b1⟩ := hb
  have hm : a % 32 < 32 := by omega
  have hm0 : 0 ≤ a % 32 := by omega
  have f1 : ∀ q : Prop, [Decidable q] → ¬ q → (m = decide (1 ≤ key ∧ s ≠ 0 ∧ s ≤ if a ≤ 281474976710655 then 32 - a % 32 else 0)) → ((1 ≤ key ∧ s ≠ 0 ∧ s ≤ if a ≤ 281474976710655 then 32 - a % 32 else 0) → q) → m = false := by
    intro q _ hq h1 h2
    rw [h1]
    exact decide_eq_false (fun h => hq (h2 h))
  by_cases h1 : key < 1
  · have : m = false := f1 (1 ≤ key) (by omega) HM.out (fun h => h.1)
    subst this
    clear f1 HM
    go_enter Try.func14, Try.ntmps14
    go_wp2_with ((go_at_call 51; refine (HS.out _).mono ?_; rintro e w1 ⟨rfl, rfl⟩))
    go_ret
    exact ⟨rfl, 0, rfl⟩
  · by_cases h2 : s = 0
    · have : m = false := f1 (s ≠ 0) (by omega) HM.out (fun h => h.2.1)
      subst this
      clear f1 HM
      subst h2
      go_enter Try.func14, Try.ntmps14
      go_wp2_with ((go_at_call 51; refine (HS.out _).mono ?_; rintro e w1 ⟨rfl, rfl⟩))
      go_ret
      exact ⟨rfl, 0, rfl⟩
    · by_cases h3 : a ≤ 281474976710655
      · have HM2 : Hid (m = decide (s ≤ 32 - a % 32)) := Hid.mk (by have := HM.out; rw [if_pos h3] at this; rw [this]; congr 1; simp; omega)
        clear f1 HM
        go_enter Try.func14, Try.ntmps14
        go_wp2_with ((go_at_call 51; refine (HS.out _).mono ?_; rintro e w1 ⟨rfl, rfl⟩))
        go_ret
        exact ⟨ret_bool HM2.out.symm, 0, rfl⟩
      · have : m = false := f1 False (by simp) HM.out (fun h => by have := h.2.2; rw [if_neg h3] at this; omega)
        subst this
        clear f1 HM
        go_enter Try.func14, Try.ntmps14
        go_wp2_with ((go_at_call 51; refine (HS.out _).mono ?_; rintro e w1 ⟨rfl, rfl⟩))
        go_ret
        exact ⟨rfl, 0, rfl⟩

theorem fresh_ain (b f p R C RH CH : Nat) (a : Int) : (Buf.fresh b f p R C RH CH).ain a = false := by
  unfold Buf.ain Buf.has Buf.fresh
  simp only [Bool.and_eq_false_iff, decide_eq_false_iff_not]
  right
  rintro ⟨h0, h1⟩
  rw [List.getD_eq_getElem?_getD, List.getElem?_replicate] at h1
  split at h1 <;> simp at h1 <;> omega

/-! the three that are new, told by one Bool each -/
theorem newW_any (x : Buf) (a key : Int) (s : ByteArray) (w : World) (hx : BufAt w x) (ha : U64 a) (hs : s.size ≤ 1000000) (m : Bool) (hm : mayB x.bits a key s.size = m) :
    Calls Try.prog 11 #[.pointer (some ⟨x.b, 0, none⟩), .int .u64 a, .int .i64 key, .string s] w fun e w' =>
      ∃ P, e = .returned (.tuple #[.pointer P, .int .i64 (if m then 0 else 1)]) ∧ (m = true → ∃ r va nw, P = some ⟨r.p, 0, none⟩ ∧ WrAt w' x.b (a + 1) va nw r ∧ r.state = 0) ∧ (m = false → P = none) ∧ Keep [] w w' := by
  cases m with
  | true => exact (newWriter_ok x a key s w hx ha.1 ha hs hm).mono fun e w' ⟨p, v, h1, h2, _, h4⟩ => ⟨_, h1, fun _ => ⟨_, _, _, rfl, h2, rfl⟩, by simp, h4⟩
  | false => exact (newWriter_no x a key s w hx ha.1 ha hs hm).mono fun e w' ⟨h1, h4⟩ => ⟨_, h1, by simp, by simp, h4⟩
theorem newA_any (x : Buf) (a key n : Int) (w : World) (hx : BufAt w x) (ha : U64 a) (hn : U64 n) (m : Bool) (hm : mayB x.bits a key 8 = m) :
    Calls Try.prog 13 #[.pointer (some ⟨x.b, 0, none⟩), .int .u64 a, .int .i64 key, .int .u64 n] w fun e w' =>
      ∃ P, e = .returned (.tuple #[.pointer P, .int .i64 (if m then 0 else 1)]) ∧ (m = true → ∃ p : Nat, P = some ⟨p, 0, none⟩) ∧ (m = false → P = none) ∧ Keep [] w w' := by
  cases m with
  | true => exact (newAdder_ok x a key n w hx ha.1 ha hn hm).mono fun e w' ⟨p, v, l, h1, _, _, _, h4⟩ => ⟨_, h1, fun _ => ⟨_, rfl⟩, by simp, h4⟩
  | false => exact (newAdder_no x a key n w hx ha.1 ha hm).mono fun e w' ⟨h1, h4⟩ => ⟨_, h1, by simp, by simp, h4⟩
theorem newR_any (x : Buf) (a key n : Int) (w : World) (hx : BufAt w x) (ha : U64 a) (m : Bool) (hm : mayB x.bits a key n = m) :
    Calls Try.prog 12 #[.pointer (some ⟨x.b, 0, none⟩), .int .u64 a, .int .i64 key, .int .i64 n] w fun e w' =>
      ∃ P, e = .returned (.tuple #[.pointer P, .int .i64 (if m then 0 else 1)]) ∧ (m = true → ∃ r va nw, P = some ⟨r.p, 0, none⟩ ∧ RdAt w' x.b (a + 1) va nw r ∧ r.state = 0 ∧ r.val = ⟨#[]⟩) ∧ (m = false → P = none) ∧ Keep [] w w' := by
  cases m with
  | true =>
    have hn : 0 ≤ n := by
      have := (mayB_eq x.bits a key n).out
      rw [hm] at this
      simp only [eq_comm (a := true), decide_eq_true_eq] at this
      have h2 := this.2.1
      unfold recSize at h2
      split at h2 <;> omega
    obtain ⟨n, rfl⟩ := Int.eq_ofNat_of_zero_le hn
    exact (newReader_ok x a key n w hx ha.1 ha hm).mono fun e w' ⟨p, h1, h2, _, h4⟩ => ⟨_, h1, fun _ => ⟨_, _, _, rfl, h2, rfl, rfl⟩, by simp, h4⟩
  | false => exact (newReader_no x a key n w hx ha.1 ha hm).mono fun e w' ⟨h1, h4⟩ => ⟨_, h1, by simp, by simp, h4⟩
end Go.Proofs.Ytlgebknbfchnlaa
