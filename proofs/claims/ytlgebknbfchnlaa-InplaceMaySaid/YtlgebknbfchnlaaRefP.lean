/- What the references' pure functions compute, in closed form. -/
import Derived.Test.YtlgebknbfchnlaaWordsP
import Derived.Test.YtlgebknbfchnlaaBytes
import Derived.Test.YtlgebknbfchnlaaPInplacePlaysx5
namespace Go.Proofs.Ytlgebknbfchnlaa
open Go Go.RowKit Go.Hay Go.Proofs.YtlgebknbfchnlaaW.PrintWords Go.Proofs.YtlgebknbfchnlaaW.PrintMore Go.Proofs.YtlgebknbfchnlaaW.PrintLast

/-! ### Words -/
theorem pow256_pos (m : Nat) : (1 : Int) ≤ 256 ^ m := by
  have := Nat.one_le_pow m 256 (by decide)
  have h2 : ((1 : Nat) : Int) ≤ ((256 ^ m : Nat) : Int) := Int.ofNat_le.2 this
  simpa using h2

/-- The bytes from m on of word j. -/
def wordHigh (s : ByteArray) (j : Nat) : Nat → Int
  | 0 => 0
  | d + 1 => wordHigh s j d * 256 + bt s ((8 * j + (7 - d) : Nat) : Int)
theorem wordHigh_bd (s : ByteArray) (j d : Nat) : 0 ≤ wordHigh s j d ∧ wordHigh s j d < 256 ^ d := by
  induction d with
  | zero => simp [wordHigh]
  | succ d ih =>
    have hb := bt_range s ((8 * j + (7 - d) : Nat) : Int)
    unfold wordHigh
    rw [Int.pow_succ]
    omega
theorem wordHigh_split (s : ByteArray) (j d : Nat) (hd : d ≤ 8) : wordAt s j = wordLow s j (8 - d) + wordHigh s j d * 256 ^ (8 - d) := by
  induction d with
  | zero => simp [wordAt, wordHigh]
  | succ d ih =>
    rw [ih (by omega), show 8 - d = (8 - (d + 1)) + 1 by omega]
    show wordLow s j (8 - (d + 1)) + bt s ((8 * j + (8 - (d + 1)) : Nat) : Int) * 256 ^ (8 - (d + 1)) + _ = _
    have hd1 : wordHigh s j (d + 1) = wordHigh s j d * 256 + bt s ((8 * j + (7 - d) : Nat) : Int) := rfl
    rw [hd1, show 8 * j + (7 - d) = 8 * j + (8 - (d + 1)) by omega, Int.add_mul, Int.pow_succ, Int.mul_assoc, Int.mul_comm 256 (256 ^ (8 - (d + 1)))]
    omega
theorem wordHigh_all (s : ByteArray) (j : Nat) : wordHigh s j 8 = wordAt s j := by
  have := wordHigh_split s j 8 (by omega)
  simp [wordLow] at this
  exact this.symm

theorem wordsL_take (s : ByteArray) (j : Nat) (h : j < wordsN s) : (wordsL s).take j ++ [wordAt s j] = (wordsL s).take (j + 1) := by
  rw [List.take_add_one, show (wordsL s)[j]? = some (wordAt s j) by simp [wordsL, h]]; rfl

theorem refwords_l1 (s : ByteArray) (hs : s.size ≤ 1000000) (j : Nat) (acc : List Int) (ha : acc.length ≤ 1000000) (hj : 8 * j < s.size) (e : Nat) :
    ∀ (k d : Nat), d + e = 8 → e < k → PInplacePlays.haycroftref01_Words.l1 k s acc ((8 * j : Nat) : Int) (wordHigh s j d) (7 - (d : Int)) = PInplacePlays.haycroftref01_Words.l0 (k - (e + 1)) s (acc ++ [wordAt s j]) ((8 * (j + 1) : Nat) : Int) := by
  induction e with
  | zero =>
    intro k d h1 h2
    obtain ⟨k, rfl⟩ : ∃ m, k = m + 1 := ⟨k - 1, by omega⟩
    obtain rfl : d = 8 := by omega
    simp only [PInplacePlays.haycroftref01_Words.l1]
    rw [if_neg (by omega), if_pos (by omega), wordHigh_all, w64 (by omega) (by omega)]
    congr 1
  | succ e ih =>
    intro k d h1 h2
    obtain ⟨k, rfl⟩ : ∃ m, k = m + 1 := ⟨k - 1, by omega⟩
    have hb := wordHigh_bd s j d
    have hb1 := wordHigh_bd s j (d + 1)
    have hbt := bt_range s ((8 * j + (7 - d) : Nat) : Int)
    have hp : (256 : Int) ^ (d + 1) ≤ 256 ^ 8 := by
      have := Nat.pow_le_pow_right (n := 256) (by decide) (show d + 1 ≤ 8 by omega)
      have h2 : ((256 ^ (d + 1) : Nat) : Int) ≤ ((256 ^ 8 : Nat) : Int) := Int.ofNat_le.2 this
      simpa using h2
    simp at hp
    have hd1 : wordHigh s j (d + 1) = wordHigh s j d * 256 + bt s ((8 * j + (7 - d) : Nat) : Int) := rfl
    simp only [PInplacePlays.haycroftref01_Words.l1]
    rw [if_pos (by omega), w64 (n := ((8 * j : Nat) : Int) + (7 - (d : Int))) (by omega) (by omega), w64 (n := 7 - (d : Int) - 1) (by omega) (by omega), wrap_u64 (x := wordHigh s j d * 256) ⟨by omega, by omega⟩]
    rw [show ((8 * j : Nat) : Int) + (7 - (d : Int)) = ((8 * j + (7 - d) : Nat) : Int) by omega]
    have hih := ih k (d + 1) (by omega) (by omega)
    rw [show (7 : Int) - ((d + 1 : Nat) : Int) = 7 - (d : Int) - 1 by omega] at hih
    by_cases hlt : 8 * j + (7 - d) < s.size
    · rw [if_pos (by omega), if_pos (by omega), wrap_u64 (x := bt s _) ⟨hbt.1, by omega⟩, wrap_u64 ⟨by omega, by omega⟩, ← hd1, hih]
      congr 1; omega
    · rw [if_neg (by omega)]
      rw [bt_out s (by omega), Int.add_zero] at hd1
      rw [← hd1, hih]
      congr 1; omega

theorem refwords_l0 (s : ByteArray) (hs : s.size ≤ 1000000) (e : Nat) : ∀ (k j : Nat), j + e = wordsN s → 10 * e < k → PInplacePlays.haycroftref01_Words.l0 k s ((wordsL s).take j) ((8 * j : Nat) : Int) = some (wordsL s) := by
  induction e with
  | zero =>
    intro k j h1 h2
    obtain ⟨k, rfl⟩ : ∃ m, k = m + 1 := ⟨k - 1, by omega⟩
    simp only [PInplacePlays.haycroftref01_Words.l0]
    rw [if_neg (by unfold wordsN at h1; omega), List.take_of_length_le (by rw [wordsL_length]; omega)]
  | succ e ih =>
    intro k j h1 h2
    obtain ⟨k, rfl⟩ : ∃ m, k = m + 1 := ⟨k - 1, by omega⟩
    simp only [PInplacePlays.haycroftref01_Words.l0]
    have hn : wordsN s = (s.size + 7) / 8 := rfl
    rw [if_pos (by omega)]
    have h3 := refwords_l1 s hs j ((wordsL s).take j) (by have := List.length_take_le j (wordsL s); omega) (by omega) 8 k 0 (by omega) (by omega)
    simp only [wordHigh, Int.natCast_zero, Int.sub_zero] at h3
    rw [h3, wordsL_take s j (by omega)]
    exact ih _ (j + 1) (by omega) (by omega)

theorem refwords_f (s : ByteArray) (hs : s.size ≤ 1000000) (k : Nat) (hk : 10 * wordsN s < k) : PInplacePlays.haycroftref01_Words.f k s = some (wordsL s) :=
  refwords_l0 s hs (wordsN s) _ 0 (by omega) (by omega)

/-! ### Same -/
theorem refsame_l0 (a b : List Int) (hl : a.length = b.length) (hm : a.length ≤ 1000000) (e : Nat) : ∀ (k i : Nat), i + e = a.length → e < k → a.take i = b.take i → PInplacePlays.haycroftref01_Same.l0 k a b (i : Int) = some (decide (a = b)) := by
  induction e with
  | zero =>
    intro k i h1 h2 h3
    obtain ⟨k, rfl⟩ : ∃ m, k = m + 1 := ⟨k - 1, by omega⟩
    simp only [PInplacePlays.haycroftref01_Same.l0]
    rw [List.take_of_length_le (by omega), List.take_of_length_le (by omega)] at h3
    rw [if_neg (by omega), decide_eq_true h3]
  | succ e ih =>
    intro k i h1 h2 h3
    obtain ⟨k, rfl⟩ : ∃ m, k = m + 1 := ⟨k - 1, by omega⟩
    simp only [PInplacePlays.haycroftref01_Same.l0]
    rw [if_pos (by omega), if_pos (by omega), if_pos (by omega)]
    unfold rd
    simp only [Int.toNat_natCast]
    have ga := getD_get (xs := a) (i := i) (by omega)
    have gb := getD_get (xs := b) (i := i) (by omega)
    by_cases hx : a.getD i 0 = b.getD i 0
    · rw [if_pos hx, w64 (by omega) (by omega)]
      exact ih k (i + 1) (by omega) (by omega) (by rw [List.take_add_one, List.take_add_one, h3, ga, gb, hx])
    · rw [if_neg hx, decide_eq_false (fun h => hx (by rw [h]))]
theorem refsame_f (a b : List Int) (hm : a.length ≤ 1000000) : PInplacePlays.haycroftref01_Same.f (a.length + 1) a b = some (decide (a = b)) := by
  unfold PInplacePlays.haycroftref01_Same.f
  by_cases hl : a.length = b.length
  · rw [if_pos (by omega)]
    exact refsame_l0 a b hl hm a.length _ 0 (by omega) (by omega) rfl
  · rw [if_neg (by omega), decide_eq_false (fun h => hl (by rw [h]))]

/-! ### Text -/
theorem bytesL_w (l : List Int) (j m : Nat) (hm : m ≤ 8) : bytesL l (8 * j + m) = bytesL l (8 * j) ++ (List.range m).map (fun i => l.getD j 0 / 256 ^ i % 256) := by
  induction m with
  | zero => simp
  | succ m ih =>
    rw [show 8 * j + (m + 1) = (8 * j + m) + 1 by omega, bytesL_succ, ih (by omega), List.range_succ, List.map_append, List.append_assoc]
    congr 2
    unfold byteAt
    rw [show (8 * j + m) / 8 = j by omega, show (8 * j + m) % 8 = m by omega]
    simp only [List.map_cons, List.map_nil]
    rw [show (256 : Int) ^ m = 2 ^ (m * 8) from by rw [show (256 : Int) = 2 ^ 8 from rfl, ← Int.pow_mul, Nat.mul_comm]]

theorem div_pow_succ {x : Int} (m : Nat) : x / 256 ^ m / 256 = x / 256 ^ (m + 1) := by
  rw [Int.pow_succ, Int.ediv_ediv_of_nonneg (by have := pow256_pos m; omega)]
theorem div_pow_bd {x : Int} (h : U64 x) (m : Nat) : 0 ≤ x / 256 ^ m ∧ x / 256 ^ m < 18446744073709551616 := by
  have hp := pow256_pos m
  have h1 : x / 256 ^ m ≤ x := Int.ediv_le_self _ h.1
  exact ⟨Int.ediv_nonneg h.1 (by omega), by have := h.2; omega⟩

theorem reftext_l1 (l : List Int) (n : Int) (j : Nat) (hj : j < l.length) (hl : l.length ≤ 10000) (hR : ∀ x ∈ l, U64 x) (e : Nat) :
    ∀ (k m : Nat), m + e = 8 → e < k → PInplacePlays.haycroftref09_Text.l1 k l n (bytesL l (8 * j + m)) (j : Int) (l.getD j 0 / 256 ^ m) (m : Int) = PInplacePlays.haycroftref09_Text.l0 (k - (e + 1)) l n (bytesL l (8 * (j + 1))) ((j + 1 : Nat) : Int) := by
  have hx := hR _ (getD_mem hj)
  induction e with
  | zero =>
    intro k m h1 h2
    obtain ⟨k, rfl⟩ : ∃ m, k = m + 1 := ⟨k - 1, by omega⟩
    obtain rfl : m = 8 := by omega
    simp only [PInplacePlays.haycroftref09_Text.l1]
    rw [if_neg (by omega), w64 (by omega) (by omega)]
    congr 1
  | succ e ih =>
    intro k m h1 h2
    obtain ⟨k, rfl⟩ : ∃ m, k = m + 1 := ⟨k - 1, by omega⟩
    have hd := div_pow_bd hx m
    have hd1 := div_pow_bd hx (m + 1)
    simp only [PInplacePlays.haycroftref09_Text.l1]
    rw [if_pos (by omega), if_pos (by rw [bytesL_length]; omega), Int.tmod_eq_emod_of_nonneg hd.1, Int.tdiv_eq_ediv_of_nonneg hd.1, div_pow_succ, wrap_u64 hd1, w64 (by omega) (by omega)]
    have hih := ih k (m + 1) (by omega) (by omega)
    have hb : bytesL l (8 * j + m) ++ [l.getD j 0 / 256 ^ m % 256 % 256] = bytesL l (8 * j + (m + 1)) := by
      rw [bytesL_w l j m (by omega), bytesL_w l j (m + 1) (by omega), List.range_succ, List.map_append, List.append_assoc]
      congr 2
      simp
    rw [hb]
    rw [show ((m : Int) + 1) = ((m + 1 : Nat) : Int) by omega, hih]
    congr 1; omega

theorem reftext_l2 (l b : List Int) (n : Nat) (hb : b = bytesL l (8 * l.length)) (hl : l.length ≤ 10000) (hn : n ≤ 8 * l.length) (hz : ∀ i, n ≤ i → i < 8 * l.length → byteAt l i = 0) (e : Nat) :
    ∀ (k i : Nat), n ≤ i → i + e = 8 * l.length → e < k → PInplacePlays.haycroftref09_Text.l2 k (n : Int) b (i : Int) = some (strOfNums (bytesL l n), true) := by
  have hbl : b.length = 8 * l.length := by rw [hb, bytesL_length]
  induction e with
  | zero =>
    intro k i h0 h1 h2
    obtain ⟨k, rfl⟩ : ∃ m, k = m + 1 := ⟨k - 1, by omega⟩
    simp only [PInplacePlays.haycroftref09_Text.l2]
    rw [if_neg (by omega), if_pos (by omega), if_pos (by omega), Int.toNat_natCast, hb]
    have h3 : (bytesL l (8 * l.length)).take n = bytesL l n := by
      unfold bytesL; rw [← List.map_take, List.take_range, Nat.min_eq_left hn]
    rw [h3]
  | succ e ih =>
    intro k i h0 h1 h2
    obtain ⟨k, rfl⟩ : ∃ m, k = m + 1 := ⟨k - 1, by omega⟩
    simp only [PInplacePlays.haycroftref09_Text.l2]
    have hv : rd b (i : Int) = 0 := by
      unfold rd
      rw [Int.toNat_natCast, hb, List.getD_eq_getElem?_getD, bytesL_get l _ i (by omega), hz i h0 (by omega)]; rfl
    rw [if_pos (by omega), if_pos (by omega), if_pos hv, w64 (by omega) (by omega)]
    exact ih k (i + 1) (by omega) (by omega) (by omega)

theorem reftext_l0 (l : List Int) (n : Nat) (hl : l.length ≤ 10000) (hR : ∀ x ∈ l, U64 x) (hn : n ≤ 8 * l.length) (hz : ∀ i, n ≤ i → i < 8 * l.length → byteAt l i = 0) (e : Nat) :
    ∀ (k j : Nat), j + e = l.length → 10 * e + 8 * l.length + 10 < k → PInplacePlays.haycroftref09_Text.l0 k l (n : Int) (bytesL l (8 * j)) (j : Int) = some (strOfNums (bytesL l n), true) := by
  induction e with
  | zero =>
    intro k j h1 h2
    obtain ⟨k, rfl⟩ : ∃ m, k = m + 1 := ⟨k - 1, by omega⟩
    simp only [PInplacePlays.haycroftref09_Text.l0]
    obtain rfl : j = l.length := by omega
    rw [if_neg (by omega)]
    exact reftext_l2 l _ n rfl hl hn hz (8 * l.length - n) k n (Nat.le_refl _) (by omega) (by omega)
  | succ e ih =>
    intro k j h1 h2
    obtain ⟨k, rfl⟩ : ∃ m, k = m + 1 := ⟨k - 1, by omega⟩
    simp only [PInplacePlays.haycroftref09_Text.l0]
    rw [if_pos (by omega), if_pos (by omega)]
    have h3 := reftext_l1 l (n : Int) j (by omega) hl hR 8 k 0 (by omega) (by omega)
    simp only [Int.pow_zero, Int.ediv_one, Nat.add_zero, Int.natCast_zero] at h3
    unfold rd
    rw [Int.toNat_natCast, h3]
    exact ih _ (j + 1) (by omega) (by omega)
theorem reftext_f (l : List Int) (n : Nat) (hl : l.length ≤ 10000) (hR : ∀ x ∈ l, U64 x) (hn : n ≤ 8 * l.length) (hz : ∀ i, n ≤ i → i < 8 * l.length → byteAt l i = 0) :
    PInplacePlays.haycroftref09_Text.f (18 * l.length + 11) l (n : Int) = some (strOfNums (bytesL l n), true) :=
  reftext_l0 l n hl hR hn hz l.length _ 0 (by omega) (by omega)
theorem reftext18_f (l : List Int) (n : Nat) (hl : l.length ≤ 10000) (hR : ∀ x ∈ l, U64 x) (hn : n ≤ 8 * l.length) (hz : ∀ i, n ≤ i → i < 8 * l.length → byteAt l i = 0) :
    PInplacePlays.haycroftref18_Text.f (18 * l.length + 11) l (n : Int) = some (strOfNums (bytesL l n)) := by
  unfold PInplacePlays.haycroftref18_Text.f
  rw [reftext_f l n hl hR hn hz]; rfl

/-! ### Value, fit, Fresh -/
theorem refvalue_l0 (x : Int) (hx : U64 x) (e : Nat) : ∀ (k m : Nat), m + e = 8 → e < k → PInplacePlays.haycroftref09_Value.l0 k (x / 256 ^ m) (bytesL [x] m) (m : Int) = some (strOfNums (bytesL [x] 8)) := by
  induction e with
  | zero =>
    intro k m h1 h2
    obtain ⟨k, rfl⟩ : ∃ m, k = m + 1 := ⟨k - 1, by omega⟩
    obtain rfl : m = 8 := by omega
    simp only [PInplacePlays.haycroftref09_Value.l0]
    rw [if_neg (by omega)]
  | succ e ih =>
    intro k m h1 h2
    obtain ⟨k, rfl⟩ : ∃ m, k = m + 1 := ⟨k - 1, by omega⟩
    have hd := div_pow_bd hx m
    have hd1 := div_pow_bd hx (m + 1)
    simp only [PInplacePlays.haycroftref09_Value.l0]
    rw [if_pos (by omega), if_pos (by rw [bytesL_length]; omega), Int.tmod_eq_emod_of_nonneg hd.1, Int.tdiv_eq_ediv_of_nonneg hd.1, div_pow_succ, wrap_u64 hd1, w64 (by omega) (by omega)]
    have hb : bytesL [x] m ++ [x / 256 ^ m % 256 % 256] = bytesL [x] (m + 1) := by
      rw [bytesL_succ]
      congr 2
      unfold byteAt
      rw [show m / 8 = 0 by omega, show m % 8 = m by omega, show (256 : Int) ^ m = 2 ^ (m * 8) from by rw [show (256 : Int) = 2 ^ 8 from rfl, ← Int.pow_mul, Nat.mul_comm]]
      simp
    rw [hb]
    exact ih k (m + 1) (by omega) (by omega)
theorem refvalue_f (x : Int) (hx : U64 x) : PInplacePlays.haycroftref09_Value.f 9 x = some (strOfNums (bytesL [x] 8)) := by
  have := refvalue_l0 x hx 8 9 0 (by omega) (by omega)
  unfold PInplacePlays.haycroftref09_Value.f
  simpa [bytesL] using this

theorem reflens_f (a b : Nat) (ha : a ≤ 64) (hb : b ≤ 128) (k : Nat) : ∃ n, PInplacePlays.haycroftref08_Lengths.f (k + 1) (a : Int) (b : Int) = some (n, 0) ∧ U64 n := by
  unfold PInplacePlays.haycroftref08_Lengths.f
  rw [if_neg (by omega)]
  simp only [PInplacePlays.haycroftref08_Lengths.j0]
  rw [if_neg (by simp), if_neg (by omega), if_neg (by omega)]
  refine ⟨_, rfl, ?_⟩
  rw [wrap_u64 (x := (a : Int)) ⟨by omega, by omega⟩, wrap_u64 (x := (b : Int)) ⟨by omega, by omega⟩, wrap_u64 (x := (b : Int) * 65536) ⟨by omega, by omega⟩, wrap_u64 (x := (a : Int) + (b : Int) * 65536) ⟨by omega, by omega⟩, wrap_u64 (x := (a : Int) + (b : Int) * 65536 + 189850439385088) ⟨by omega, by omega⟩]
  exact ⟨by omega, by omega⟩
theorem refpack_f : PInplacePlays.haycroftref08_Pack.f 0 false false = some (0, 0) := by
  unfold PInplacePlays.haycroftref08_Pack.f
  rw [if_neg (by decide), if_neg (by decide), if_neg (by decide)]
theorem reffresh_f (key value : ByteArray) (hk : key.size ≤ 64) (hv : value.size ≤ 128) : ∃ n, PInplacePlays.haycroftref18_Fresh.f 1000 key value = some ([0, 0, n] ++ wordsL key ++ wordsL value) ∧ U64 n := by
  obtain ⟨n, hn, hu⟩ := reflens_f key.size value.size hk hv 999
  have n1 : wordsN key ≤ 8 := by unfold wordsN; omega
  have n2 : wordsN value ≤ 16 := by unfold wordsN; omega
  refine ⟨n, ?_, hu⟩
  unfold PInplacePlays.haycroftref18_Fresh.f PInplacePlays.haycroftref09_Words.f
  rw [refpack_f, hn]
  simp only [Option.bind_some]
  rw [refwords_f key (by omega) 1000 (by omega), refwords_f value (by omega) 1000 (by omega)]
  try simp only [Option.bind_some]
  rw [if_pos (by rw [wordsL_length]; simp; omega)]
  try simp only [Option.bind_some]
  rw [if_pos (by rw [List.length_append, wordsL_length, wordsL_length]; simp; omega)]
  rfl
theorem reffit_f (s : ByteArray) (n : Nat) (hn : n ≤ 128) : ∃ r, PInplacePlays.haycroftlaw18_fit.f s (n : Int) = some r ∧ r.size = n := by
  unfold PInplacePlays.haycroftlaw18_fit.f
  by_cases h : (s.size : Int) ≥ (n : Int)
  · rw [if_pos h, if_pos (by omega), if_pos (by omega)]
    exact ⟨_, rfl, by simp; omega⟩
  · rw [if_neg h, w64 (by omega) (by omega), if_pos (by omega), if_pos (by omega)]
    simp only [Option.bind_some]
    have hz : ∀ m : Nat, (strOfNums (List.replicate m 0)).size = m := by
      intro m
      unfold strOfNums
      simp [ByteArray.size]
    rw [hz, if_pos (by omega)]
    exact ⟨_, rfl, by rw [ByteArray.size_append, hz]; omega⟩

end Go.Proofs.Ytlgebknbfchnlaa
