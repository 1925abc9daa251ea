/- Contracts of package field's readers of fields, and of package place. -/
import Derived.Test.YtlgebknbfchnlaaCell2
import Derived.Laws.BitsAllLaws
namespace Go.Proofs.Ytlgebknbfchnlaa
open Go Go.RowKit Go.Hay Go.Proofs.YtlgebknbfchnlaaW.PrintWords

theorem pow_lt64 {b : Nat} (h : b < 64) : (2 : Int) ^ b < 18446744073709551616 := by
  have : 2 ^ b < 2 ^ 64 := Nat.pow_lt_pow_right (by decide) h
  have h2 : ((2 ^ b : Nat) : Int) < ((2 ^ 64 : Nat) : Int) := Int.ofNat_lt.2 this
  simpa using h2
theorem pow_pos64 (b : Nat) : (1 : Int) ≤ 2 ^ b := by
  have : 1 ≤ 2 ^ b := Nat.one_le_two_pow
  have h2 : ((1 : Nat) : Int) ≤ ((2 ^ b : Nat) : Int) := Int.ofNat_le.2 this
  simpa using h2
theorem wrap_u64 {x : Int} (h : U64 x) : IntKind.u64.wrap x = x := by
  obtain ⟨h1, h2⟩ := h
  simp only [IntKind.wrap, IntKind.signed, IntKind.bits]
  simp; omega
theorem most_eq {b : Nat} (h : b < 64) : IntKind.u64.wrap (IntKind.u64.wrap (2 ^ b) - 1) = 2 ^ b - 1 := by
  have h1 := pow_lt64 h
  have h2 := pow_pos64 b
  rw [wrap_u64 ⟨by omega, h1⟩, wrap_u64 ⟨by omega, by omega⟩]
theorem and_most {x : Int} (h : U64 x) {b : Nat} (hb : b < 64) : bits .and .u64 x (2 ^ b - 1) = x % 2 ^ b := by
  obtain ⟨n, rfl⟩ := Int.eq_ofNat_of_zero_le h.1
  have h1 := pow_lt64 hb
  have h2 := pow_pos64 b
  have e : ((2 : Int) ^ b - 1) = ((2 ^ b - 1 : Nat) : Int) := by
    have : 1 ≤ 2 ^ b := Nat.one_le_two_pow
    rw [Int.natCast_sub this]; simp
  rw [e, u64_and_nat n (2 ^ b - 1) (by have := h.2; omega) (by omega), Nat.and_two_pow_sub_one_eq_mod]
  simp

set_option maxRecDepth 100000 in
theorem most_ok (b : Nat) (w : World) (h1 : 1 ≤ b) (h2 : b < 64) :
    Calls Try.prog 108 #[.int .i64 b] w fun e w' => e = .returned (.int .u64 (2 ^ b - 1)) ∧ w = w' := by
  go_enter Try.func108, Try.ntmps108
  go_wp2_with fail
  go_ret
  exact ⟨ret_int (most_eq h2), rfl⟩

set_option maxRecDepth 100000 in
theorem right_ok (t b : Int) (w : World) (h0 : 0 ≤ t) (h1 : 1 ≤ b) (h2 : t + b ≤ 64) :
    Calls Try.prog 139 #[.int .i64 t, .int .i64 b] w fun e w' => e = .returned (.bool true) ∧ w = w' := by
  go_enter Try.func139, Try.ntmps139
  go_wp2_with fail
  go_ret
  exact ⟨ret_bool (by simp; omega), rfl⟩

theorem shr_u64 {x : Int} (h : U64 x) (t : Nat) : U64 (x / 2 ^ t) := by
  have h2 := pow_pos64 t
  refine ⟨Int.ediv_nonneg h.1 (by omega), ?_⟩
  have : x / 2 ^ t ≤ x := Int.ediv_le_self _ h.1
  have := h.2
  omega

set_option maxRecDepth 100000 in
theorem get_ok (x : Int) (t b : Nat) (w : World) (hx : U64 x) (h1 : 1 ≤ b) (h2 : t + b ≤ 64) (h3 : b < 64) :
    Calls Try.prog 130 #[.int .u64 x, .int .i64 t, .int .i64 b] w fun e w' => e = .returned (.int .u64 (x / 2 ^ t % 2 ^ b)) ∧ Drawn w w' := by
  go_enter Try.func130, Try.ntmps130
  go_wp2_with (first | (go_at_call 139; refine (right_ok _ _ _ (by omega) (by omega) (by omega)).mono ?_; rintro e w' ⟨rfl, rfl⟩))
  go_quiet ((go_at_call 108; exact Calls.quiet_of_same ((most_ok _ _ h1 h3).mono fun e w' h => ⟨h.1, h.2.symm⟩)))
  go_wp2_with fail
  go_ret
  exact ⟨ret_int (and_most (shr_u64 hx t) h3), _, rfl⟩

set_option maxRecDepth 100000 in
theorem flag_ok (x : Int) (t : Nat) (w : World) (hx : U64 x) (h2 : t < 64) :
    Calls Try.prog 109 #[.int .u64 x, .int .i64 t] w fun e w' => e = .returned (.bool (x / 2 ^ t % 2 == 1)) ∧ Drawn w w' := by
  go_enter Try.func109, Try.ntmps109
  go_wp2_with (first | (go_at_call 130; refine (get_ok x t 1 _ hx (by omega) (by omega) (by omega)).mono ?_; rintro e w' ⟨rfl, ⟨n, rfl⟩⟩))
  go_ret
  exact ⟨rfl, _, rfl⟩

/-! ## place -/
set_option maxRecDepth 100000 in
theorem pmay_ok (b : Int) (w : World) (c : Bool) (hc : decide (5 ≤ b ∧ b ≤ 9) = c) :
    Calls Try.prog 45 #[.int .i64 b] w fun e w' => e = .returned (.bool c) ∧ w = w' := by
  subst hc
  by_cases h1 : 5 ≤ b
  all_goals by_cases h2 : b ≤ 9
  all_goals
    go_enter Try.func45, Try.ntmps45
    go_wp2_with fail
    go_ret
    exact ⟨ret_bool (by simp [h1, h2]), rfl⟩

set_option maxRecDepth 100000 in
theorem psize_ok (b : Nat) (w : World) (h1 : 5 ≤ b) (h2 : b ≤ 9) :
    Calls Try.prog 47 #[.int .i64 b] w fun e w' => e = .returned (.int .i64 ((2 ^ b : Nat) : Int)) ∧ w = w' := by
  have hb : b = 5 ∨ b = 6 ∨ b = 7 ∨ b = 8 ∨ b = 9 := by omega
  rcases hb with rfl | rfl | rfl | rfl | rfl
  all_goals
    go_enter Try.func47, Try.ntmps47
    go_wp2_with (first | (go_at_call 45; refine (pmay_ok _ _ true (by decide)).mono ?_; rintro e w' ⟨rfl, rfl⟩))
    go_ret
    exact ⟨rfl, rfl⟩

def MaxAddr : Int := 281474976710655
def pageOf (b : Nat) (a : Int) : Int := a / (2 ^ b : Nat)
def offOf (b : Nat) (a : Int) : Int := a % (2 ^ b : Nat)

theorem u64_addr {a : Int} (h0 : 0 ≤ a) (h1 : a ≤ 281474976710655) : U64 a := ⟨h0, by omega⟩

set_option maxRecDepth 100000 in
theorem ppart_ok (b : Nat) (a : Int) (t n : Nat) (w : World) (hb : 5 ≤ b ∧ b ≤ 9) (h0 : 0 ≤ a) (h1 : a ≤ 281474976710655) (hn : 1 ≤ n) (ht : t + n ≤ 48) :
    Calls Try.prog 110 #[.int .i64 b, .int .u64 a, .int .i64 t, .int .i64 n] w fun e w' => e = .returned (.int .i64 (a / 2 ^ t % 2 ^ n)) ∧ Drawn w w' := by
  have hx : 0 ≤ a / 2 ^ t % 2 ^ n ∧ a / 2 ^ t % 2 ^ n ≤ 281474976710655 := by
    have h2 := pow_pos64 t
    have h3 := pow_pos64 n
    have p3 := Int.emod_nonneg (a / 2 ^ t) (show (2 : Int) ^ n ≠ 0 by omega)
    have p4 := Int.emod_lt_of_pos (a / 2 ^ t) (show (0 : Int) < 2 ^ n by omega)
    have p5 : 2 ^ n ≤ 2 ^ 48 := Nat.pow_le_pow_right (by decide) (by omega)
    have p6 : ((2 ^ n : Nat) : Int) ≤ ((2 ^ 48 : Nat) : Int) := Int.ofNat_le.2 p5
    simp at p6
    omega
  obtain ⟨hx0, hx1⟩ := hx
  have hg := fun w' => get_ok a t n w' (u64_addr h0 h1) hn (by omega) (by omega)
  generalize a / 2 ^ t % 2 ^ n = x at hx0 hx1 hg ⊢
  have HG := Hid.mk hg
  clear hg
  go_enter Try.func110, Try.ntmps110
  go_wp2_with (first | (go_at_call 45; refine (pmay_ok _ _ true (by simp; omega)).mono ?_; rintro e w' ⟨rfl, rfl⟩) | (go_at_call 130; refine (HG.out _).mono ?_; rintro e w' ⟨rfl, ⟨m, rfl⟩⟩))
  go_ret
  exact ⟨rfl, _, rfl⟩

theorem pageOf_eq (b : Nat) (a : Int) (hb : 5 ≤ b ∧ b ≤ 9) (h0 : 0 ≤ a) (h1 : a ≤ 281474976710655) : a / 2 ^ b % 2 ^ (48 - b) = pageOf b a := by
  have hb : b = 5 ∨ b = 6 ∨ b = 7 ∨ b = 8 ∨ b = 9 := by omega
  unfold pageOf
  rcases hb with rfl | rfl | rfl | rfl | rfl <;> simp <;> omega
theorem offOf_eq (b : Nat) (a : Int) : a / 2 ^ 0 % 2 ^ b = offOf b a := by
  unfold offOf; simp
theorem pageOf_bd (b : Nat) (a : Int) (hb : 5 ≤ b ∧ b ≤ 9) (h0 : 0 ≤ a) (h1 : a ≤ 281474976710655) : 0 ≤ pageOf b a ∧ pageOf b a ≤ 8796093022207 := by
  have hb : b = 5 ∨ b = 6 ∨ b = 7 ∨ b = 8 ∨ b = 9 := by omega
  unfold pageOf
  rcases hb with rfl | rfl | rfl | rfl | rfl <;> simp <;> omega
theorem offOf_bd (b : Nat) (a : Int) : 0 ≤ offOf b a ∧ offOf b a < (2 ^ b : Nat) := by
  have h := Nat.pos_of_ne_zero (show 2 ^ b ≠ 0 from Nat.pos_iff_ne_zero.1 (Nat.two_pow_pos b))
  unfold offOf
  exact ⟨Int.emod_nonneg _ (by omega), Int.emod_lt_of_pos _ (by omega)⟩
theorem psz_bd (b : Nat) (hb : 5 ≤ b ∧ b ≤ 9) : 32 ≤ 2 ^ b ∧ 2 ^ b ≤ 512 := by
  have hb : b = 5 ∨ b = 6 ∨ b = 7 ∨ b = 8 ∨ b = 9 := by omega
  rcases hb with rfl | rfl | rfl | rfl | rfl <;> decide

set_option maxRecDepth 100000 in
theorem ppage_ok (b : Nat) (a : Int) (w : World) (hb : 5 ≤ b ∧ b ≤ 9) (h0 : 0 ≤ a) (h1 : a ≤ 281474976710655) :
    Calls Try.prog 87 #[.int .i64 b, .int .u64 a] w fun e w' => e = .returned (.int .i64 (pageOf b a)) ∧ Drawn w w' := by
  have hg := fun w' => ppart_ok b a b (48 - b) w' hb h0 h1 (by omega) (by omega)
  rw [pageOf_eq b a hb h0 h1, show ((48 - b : Nat) : Int) = 48 - (b : Int) from by omega] at hg
  have HG := Hid.mk hg
  clear hg
  obtain ⟨hb1, hb2⟩ := hb
  go_enter Try.func87, Try.ntmps87
  go_wp2_with (first | (go_at_call 110; refine (HG.out _).mono ?_; rintro e w' ⟨rfl, ⟨m, rfl⟩⟩))
  go_ret
  exact ⟨rfl, _, rfl⟩

set_option maxRecDepth 100000 in
theorem poff_ok (b : Nat) (a : Int) (w : World) (hb : 5 ≤ b ∧ b ≤ 9) (h0 : 0 ≤ a) (h1 : a ≤ 281474976710655) :
    Calls Try.prog 88 #[.int .i64 b, .int .u64 a] w fun e w' => e = .returned (.int .i64 (offOf b a)) ∧ Drawn w w' := by
  have hg := fun w' => ppart_ok b a 0 b w' hb h0 h1 (by omega) (by omega)
  rw [offOf_eq b a] at hg
  have HG := Hid.mk hg
  clear hg
  go_enter Try.func88, Try.ntmps88
  go_wp2_with (first | (go_at_call 110; refine (HG.out _).mono ?_; rintro e w' ⟨rfl, ⟨m, rfl⟩⟩))
  go_ret
  exact ⟨rfl, _, rfl⟩

def roomOf (b : Nat) (a : Int) : Int := if a ≤ 281474976710655 then (2 ^ b : Nat) - offOf b a else 0

set_option maxRecDepth 100000 in
theorem proom_ok (b : Nat) (a : Int) (w : World) (hb : 5 ≤ b ∧ b ≤ 9) (h0 : 0 ≤ a) :
    Calls Try.prog 104 #[.int .i64 b, .int .u64 a] w fun e w' => e = .returned (.int .i64 (roomOf b a)) ∧ Drawn w w' := by
  unfold roomOf
  by_cases h1 : a ≤ 281474976710655
  · rw [if_pos h1]
    have hsz := psz_bd b hb
    have hof := offOf_bd b a
    have HO := Hid.mk (fun w' => poff_ok b a w' hb h0 h1)
    have HS := Hid.mk (fun w' => psize_ok b w' hb.1 hb.2)
    generalize 2 ^ b = sz at hsz hof HS ⊢
    generalize offOf b a = o at hof HO ⊢
    obtain ⟨hs1, hs2⟩ := hsz
    obtain ⟨ho1, ho2⟩ := hof
    go_enter Try.func104, Try.ntmps104
    go_wp2_with (first | (go_at_call 45; refine (pmay_ok _ _ true (by simp; omega)).mono ?_; rintro e w' ⟨rfl, rfl⟩) | (go_at_call 47; refine (HS.out _).mono ?_; rintro e w' ⟨rfl, rfl⟩) | (go_at_call 88; refine (HO.out _).mono ?_; rintro e w' ⟨rfl, ⟨m, rfl⟩⟩))
    go_ret
    exact ⟨rfl, _, rfl⟩
  · rw [if_neg h1]
    go_enter Try.func104, Try.ntmps104
    go_wp2_with (first | (go_at_call 45; refine (pmay_ok _ _ true (by simp; omega)).mono ?_; rintro e w' ⟨rfl, rfl⟩))
    go_ret
    exact ⟨rfl, 0, rfl⟩

set_option maxRecDepth 100000 in
theorem pfits_ok (b : Nat) (a n : Int) (w : World) (hb : 5 ≤ b ∧ b ≤ 9) (h0 : 0 ≤ a) (c : Bool) (hc : decide (1 ≤ n ∧ n ≤ roomOf b a) = c) :
    Calls Try.prog 80 #[.int .i64 b, .int .u64 a, .int .i64 n] w fun e w' => e = .returned (.bool c) ∧ Drawn w w' := by
  subst hc
  have HR := Hid.mk (fun w' => proom_ok b a w' hb h0)
  generalize roomOf b a = r at HR ⊢
  by_cases h1 : 1 ≤ n
  all_goals
    go_enter Try.func80, Try.ntmps80
    go_wp2_with (first | (go_at_call 104; refine (HR.out _).mono ?_; rintro e w' ⟨rfl, ⟨m, rfl⟩⟩))
    go_ret
  · exact ⟨ret_bool (by simp [h1]), _, rfl⟩
  · exact ⟨ret_bool (by simp; omega), 0, rfl⟩
end Go.Proofs.Ytlgebknbfchnlaa
