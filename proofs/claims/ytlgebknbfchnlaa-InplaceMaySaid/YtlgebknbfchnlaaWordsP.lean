/- What field.Words and the reference's Words compute: one list, in closed form. -/
import Derived.Test.YtlgebknbfchnlaaPrA
import Derived.Test.YtlgebknbfchnlaaPInplacePlaysx4
import Derived.Test.YtlgebknbfchnlaaHeader
namespace Go.Proofs.Ytlgebknbfchnlaa
open Go Go.RowKit Go.Hay Go.Proofs.YtlgebknbfchnlaaW.PrintWords Go.Proofs.YtlgebknbfchnlaaW.PrintMore Go.Proofs.YtlgebknbfchnlaaW.PrintLast

/-- The first m bytes of word j of a text. -/
def wordLow (s : ByteArray) (j : Nat) : Nat → Int
  | 0 => 0
  | m + 1 => wordLow s j m + bt s ((8 * j + m : Nat) : Int) * 256 ^ m
def wordAt (s : ByteArray) (j : Nat) : Int := wordLow s j 8
def wordsN (s : ByteArray) : Nat := (s.size + 7) / 8
def wordsL (s : ByteArray) : List Int := (List.range (wordsN s)).map (wordAt s)

theorem wordsL_length (s : ByteArray) : (wordsL s).length = wordsN s := by simp [wordsL]
theorem wordLow_bd (s : ByteArray) (j m : Nat) : 0 ≤ wordLow s j m ∧ wordLow s j m < 256 ^ m := by
  induction m with
  | zero => simp [wordLow]
  | succ m ih =>
    have hb := bt_range s ((8 * j + m : Nat) : Int)
    have hp : (1 : Int) ≤ 256 ^ m := by have := Nat.one_le_pow m 256 (by decide); have h2 : ((1 : Nat) : Int) ≤ ((256 ^ m : Nat) : Int) := Int.ofNat_le.2 this; simpa using h2
    have h1 : (bt s ((8 * j + m : Nat) : Int) + 1) * 256 ^ m ≤ 256 * 256 ^ m := Int.mul_le_mul_of_nonneg_right (by omega) (by omega)
    have h2 : 0 ≤ bt s ((8 * j + m : Nat) : Int) * 256 ^ m := Int.mul_nonneg hb.1 (by omega)
    rw [Int.add_mul, Int.one_mul] at h1
    unfold wordLow
    rw [Int.pow_succ, Int.mul_comm (256 ^ m) 256]
    omega
theorem wordAt_u64 (s : ByteArray) (j : Nat) : U64 (wordAt s j) := by
  have := wordLow_bd s j 8
  exact ⟨this.1, by have h := this.2; unfold wordAt; simpa using h⟩
theorem bt_out (s : ByteArray) {i : Int} (h : s.size ≤ i.toNat) : bt s i = 0 := by
  unfold bt; rw [dif_neg (by omega)]
theorem wordLow_end (s : ByteArray) (j m : Nat) (h : s.size ≤ 8 * j + m) (d : Nat) : wordLow s j (m + d) = wordLow s j m := by
  induction d with
  | zero => rfl
  | succ d ih =>
    show wordLow s j (m + d) + bt s ((8 * j + (m + d) : Nat) : Int) * 256 ^ (m + d) = _
    rw [ih, bt_out s (by omega)]; omega

/-- What stands behind i bytes have been laid. -/
def wordsTo (s : ByteArray) (i : Nat) : List Int := (List.range (wordsN s)).map fun j => wordLow s j (min 8 (i - 8 * j))

theorem wordsTo_end (s : ByteArray) : wordsTo s s.size = wordsL s := by
  unfold wordsTo wordsL
  refine List.map_congr_left fun j hj => ?_
  unfold wordAt
  by_cases h : 8 ≤ s.size - 8 * j
  · rw [Nat.min_eq_left h]
  · rw [Nat.min_eq_right (by omega)]
    have := wordLow_end s j (s.size - 8 * j) (by omega) (8 - (s.size - 8 * j))
    rw [← this]; congr 1; omega
theorem wordsTo_zero (s : ByteArray) : wordsTo s 0 = List.replicate (wordsN s) 0 := by
  unfold wordsTo
  apply List.ext_getElem (by simp)
  intro j h1 h2
  simp [wordLow]

theorem bits_or_low {x v : Int} {t b : Nat} (hx0 : 0 ≤ x) (hx : x < 2 ^ t) (hv0 : 0 ≤ v) (hv : v < 2 ^ b) (ht : t + b ≤ 64) :
    bits .or .u64 x (IntKind.u64.wrap (v * 2 ^ t)) = x + v * 2 ^ t := by
  obtain ⟨X, rfl⟩ := Int.eq_ofNat_of_zero_le hx0
  obtain ⟨V, rfl⟩ := Int.eq_ofNat_of_zero_le hv0
  have h := put_u64 hx0 hx hv0 hv ht
  have hX : X < 2 ^ t := by have : ((X : Nat) : Int) < ((2 ^ t : Nat) : Int) := by simpa using hx
                            omega
  have e2 : (V : Int) * 2 ^ t = ((V * 2 ^ t : Nat) : Int) := by simp
  rw [e2] at h ⊢
  rw [wrap_u64 ⟨by omega, by omega⟩, u64_or_nat X _ (by omega) (by omega), nat_join_low hX V]
  simp

theorem wordsTo_step (s : ByteArray) (i : Nat) (hi : i < s.size) :
    (wordsTo s i).set (i / 8) (bits .or .u64 ((wordsTo s i).getD (i / 8) 0) (IntKind.u64.wrap (bt s i * 2 ^ (i % 8 * 8)))) = wordsTo s (i + 1) := by
  have hn : i / 8 < wordsN s := by unfold wordsN; omega
  have hg : (wordsTo s i).getD (i / 8) 0 = wordLow s (i / 8) (i % 8) := by
    unfold wordsTo
    rw [List.getD_eq_getElem?_getD, List.getElem?_map, List.getElem?_range hn]
    show wordLow s (i / 8) (min 8 (i - 8 * (i / 8))) = _
    congr 1; omega
  have hb := wordLow_bd s (i / 8) (i % 8)
  have hbt := bt_range s (i : Int)
  have e256 : (256 : Int) ^ (i % 8) = 2 ^ (i % 8 * 8) := by
    rw [show (256 : Int) = 2 ^ 8 from rfl, ← Int.pow_mul, Nat.mul_comm]
  rw [hg, bits_or_low hb.1 (by rw [← e256]; exact hb.2) hbt.1 (b := 8) (by simp; omega) (by omega)]
  apply List.ext_getElem?
  intro j
  rw [List.getElem?_set]
  unfold wordsTo
  simp only [List.getElem?_map, List.length_map, List.length_range]
  by_cases hj : i / 8 = j
  · subst hj
    rw [if_pos rfl, if_pos hn, List.getElem?_range hn]
    simp only [Option.map_some]
    congr 1
    rw [show min 8 (i + 1 - 8 * (i / 8)) = i % 8 + 1 by omega]
    show _ = wordLow s (i / 8) (i % 8) + bt s ((8 * (i / 8) + i % 8 : Nat) : Int) * 256 ^ (i % 8)
    rw [e256, show 8 * (i / 8) + i % 8 = i by omega]
  · rw [if_neg hj]
    by_cases hjn : j < wordsN s
    · rw [List.getElem?_range hjn]
      simp only [Option.map_some]
      congr 2
      omega
    · rw [List.getElem?_eq_none (by simpa using hjn)]; rfl

theorem w64 {n : Int} (h0 : -9223372036854775808 ≤ n) (h1 : n ≤ 9223372036854775807) : wrap64 n = n := by unfold wrap64; omega

theorem fwords_l0 (s : ByteArray) (hs : s.size ≤ 1000000) (d : Nat) : ∀ (k i : Nat), i ≤ s.size → s.size - i = d → d < k → PInplacePlays.field_Words.l0 k s (wordsTo s i) (s.size : Int) (i : Int) = some (wordsL s) := by
  induction d with
  | zero =>
    intro k i h1 h2 h3
    obtain ⟨k, rfl⟩ : ∃ m, k = m + 1 := ⟨k - 1, by omega⟩
    simp only [PInplacePlays.field_Words.l0]
    rw [if_neg (by omega), show i = s.size by omega, wordsTo_end]
  | succ d ih =>
    intro k i h1 h2 h3
    obtain ⟨k, rfl⟩ : ∃ m, k = m + 1 := ⟨k - 1, by omega⟩
    have hw : wrap64 (Int.tdiv (i : Int) 8) = ((i / 8 : Nat) : Int) := by
      rw [w64] <;> (rw [Int.tdiv_eq_ediv_of_nonneg (by omega)]; omega)
    have hr : wrap64 ((Int.tmod (i : Int) 8) * 8) = ((i % 8 * 8 : Nat) : Int) := by
      rw [w64] <;> (rw [Int.tmod_eq_emod_of_nonneg (by omega)]; omega)
    have hl : ((wordsTo s i).length : Int) = (wordsN s : Nat) := by simp [wordsTo]
    have hbt := bt_range s (i : Int)
    simp only [PInplacePlays.field_Words.l0]
    rw [if_pos (by omega), hw, hr, hl, if_pos (by omega), if_pos (by unfold wordsN; omega), if_pos (by omega), if_pos (by omega), if_pos (by omega)]
    have hst := wordsTo_step s i (by omega)
    unfold rd shl
    rw [wrap_u64 (x := bt s (i : Int)) ⟨hbt.1, by omega⟩]
    simp only [Int.toNat_natCast]
    rw [show min (i % 8 * 8) (IntKind.bits .u64) = i % 8 * 8 from by show min (i % 8 * 8) 64 = _; omega, hst, w64 (by omega) (by omega)]
    exact ih k (i + 1) (by omega) (by omega) (by omega)

theorem fwords_f (s : ByteArray) (hs : s.size ≤ 1000000) : PInplacePlays.field_Words.f (s.size + 1) s = some (wordsL s) := by
  unfold PInplacePlays.field_Words.f
  have e : wrap64 (Int.tdiv (wrap64 ((wrap64 ((s.size : Int) + 8)) - 1)) 8) = ((wordsN s : Nat) : Int) := by
    rw [w64 (n := (s.size : Int) + 8) (by omega) (by omega), w64 (n := (s.size : Int) + 8 - 1) (by omega) (by omega), Int.tdiv_eq_ediv_of_nonneg (by omega), w64 (by omega) (by omega)]
    unfold wordsN; omega
  rw [e, if_pos (by omega), if_pos (by unfold wordsN; omega), Int.toNat_natCast, ← wordsTo_zero]
  exact fwords_l0 s hs s.size (s.size + 1) 0 (by omega) (by omega) (by omega)

end Go.Proofs.Ytlgebknbfchnlaa
