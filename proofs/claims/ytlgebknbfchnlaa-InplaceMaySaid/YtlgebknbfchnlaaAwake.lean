/- law18's awake. -/
import Derived.Test.YtlgebknbfchnlaaSc
namespace Go.Proofs.Ytlgebknbfchnlaa
open Go Go.RowKit Go.Hay Go.Proofs.YtlgebknbfchnlaaW.PrintWords

/-- The adder of the example, when k moves are done. -/
def AwS (k : Nat) (x : Buf) (r : Wr) : Prop :=
  match k with
  | 0 => Sc x false 0 [5] ∧ r.state = 0 ∧ r.add = true ∧ r.n = 7 ∧ r.l.length = 1 ∧ r.at_ = 0
  | 1 => Sc x true 0 [5] ∧ r.state = 1 ∧ r.add = true ∧ r.n = 7 ∧ r.l.length = 1 ∧ r.at_ = 0 ∧ r.held = LK true 0
  | 2 => Sc x true 0 [5] ∧ r.state = 2 ∧ r.add = true ∧ r.l = [12] ∧ r.at_ = 0 ∧ r.held = LK true 0
  | 3 => Sc x true 0 [12] ∧ r.state = 3 ∧ r.add = true ∧ r.l = [12] ∧ r.at_ = 1 ∧ r.held = LK true 0
  | _ => Sc x false 1 [12]

theorem Sc.fit {x : Buf} {h : Bool} {c : Int} {V : List Int} (s : Sc x h c V) {r : Wr} (h1 : r.state = 1 → 1 ≤ V.length ∧ 1 ≤ r.l.length) (h2 : r.state = 2 → r.at_ < V.length ∧ r.at_ < r.l.length) (h3 : r.state = 3 → r.held = LK true c) :
    r.Fit x 2 5 V.length h c := by
  have hl := s.len
  exact ⟨s.at_lock, s.c0, s.c1, by omega, s.ain (by omega) (by omega), by omega, by omega, fun j hj => s.ain (by omega) (by omega), by omega, h1, h2, h3⟩

theorem awS_step (k : Nat) (hk : k ≤ 3) (x : Buf) (r : Wr) (h : AwS k x r) :
    ∃ b, r.Fit x 2 5 1 b 0 ∧ (r.step x 2 5 1 b 0).1 = (if k = 3 then 2 else 1) ∧ AwS (k + 1) (r.step x 2 5 1 b 0).2.1 (r.step x 2 5 1 b 0).2.2 ∧ (r.step x 2 5 1 b 0).2.2.v = r.v ∧ (r.step x 2 5 1 b 0).2.2.p = r.p := by
  match k, hk with
  | 0, _ =>
    obtain ⟨s, h1, h2, h3, h4, h5⟩ := h
    refine ⟨false, s.fit (by omega) (by omega) (by omega), ?_⟩
    unfold Wr.step
    rw [if_pos h1, if_neg (by decide)]
    refine ⟨rfl, ⟨s.put_lock true (by omega) (by omega), ?_, h2, h3, h4, h5, rfl⟩, rfl, rfl⟩
    simp [Wr.nextS, h2]
  | 1, _ =>
    obtain ⟨s, h1, h2, h3, h4, h5, h6⟩ := h
    refine ⟨true, s.fit (fun _ => by simp; omega) (by omega) (by omega), ?_⟩
    unfold Wr.step
    rw [if_neg (by omega), if_pos h1]
    have ha : x.at_ 5 = 5 := by have := s.at_val (j := 0) (by simp); simpa using this
    refine ⟨rfl, ⟨s, ?_, h2, ?_, h5, h6⟩, rfl, rfl⟩
    · simp [Wr.nextS, h5]
    · obtain ⟨a, ha2⟩ := List.length_eq_one_iff.1 h4
      rw [ha, h3, ha2]; rfl
  | 2, _ =>
    obtain ⟨s, h1, h2, h3, h4, h5⟩ := h
    refine ⟨true, s.fit (by omega) (fun _ => by rw [h3, h4]; simp) (by omega), ?_⟩
    unfold Wr.step
    rw [if_neg (by omega), if_neg (by omega), if_pos h1]
    have hp := s.put_val (j := 0) (u := 12) (by simp) (by unfold U64; omega)
    refine ⟨rfl, ⟨?_, ?_, h2, h3, ?_, h5⟩, rfl, rfl⟩
    · rw [h3, h4]; simpa using hp
    · simp [Wr.nextS, h4]
    · simp [h4]
  | 3, _ =>
    obtain ⟨s, h1, h2, h3, h4, h5⟩ := h
    refine ⟨true, s.fit (by omega) (by omega) (fun _ => h5), ?_⟩
    unfold Wr.step
    rw [if_neg (by omega), if_neg (by omega), if_neg (by omega), if_pos h1]
    exact ⟨rfl, s.put_lock false (c' := 1) (by omega) (by omega), rfl, rfl⟩

theorem bt_strOf (l : List Int) (i : Nat) (hi : i < l.length) (h0 : 0 ≤ l.getD i 0) (h1 : l.getD i 0 < 256) : bt (strOfNums l) (i : Int) = l.getD i 0 := by
  unfold bt
  rw [dif_pos (by rw [strOfNums_size]; simpa using hi)]
  have : ((strOfNums l)[i]'(by rw [strOfNums_size]; exact hi)) = (l.map (fun v => UInt8.ofNat v.toNat))[i]'(by simpa using hi) := by
    simp [strOfNums, ByteArray.getElem_eq_getElem_data]
  simp only [Int.toNat_natCast]
  rw [this]
  rw [List.getD_eq_getElem?_getD, List.getElem?_eq_getElem hi] at h0 h1 ⊢
  simp at h0 h1 ⊢
  omega

theorem wordLow_mod (s : ByteArray) (j : Nat) (x : Int) (h : ∀ m, m < 8 → bt s ((8 * j + m : Nat) : Int) = x / 256 ^ m % 256) (m : Nat) (hm : m ≤ 8) : wordLow s j m = x % 256 ^ m := by
  induction m with
  | zero => simp [wordLow]
  | succ m ih =>
    unfold wordLow
    rw [ih (by omega), h m (by omega)]
    have e : x % 256 ^ (m + 1) = x % 256 ^ m + 256 ^ m * (x / 256 ^ m % 256) := by
      rw [Int.emod_def x (256 ^ (m + 1)), ← div_pow_succ, Int.emod_def x (256 ^ m), Int.emod_def (x / 256 ^ m) 256, Int.mul_sub, Int.pow_succ, Int.mul_assoc]
      omega
    rw [e, Int.mul_comm]

theorem wordsL_value (x : Int) (hx : U64 x) : wordsL (strOfNums (bytesL [x] 8)) = [x] := by
  have hs : (strOfNums (bytesL [x] 8)).size = 8 := by rw [strOfNums_size, bytesL_len]
  have hn : wordsN (strOfNums (bytesL [x] 8)) = 1 := by unfold wordsN; rw [hs]
  unfold wordsL
  rw [hn]
  simp only [List.range_one, List.map_cons, List.map_nil, List.cons.injEq, and_true]
  unfold wordAt
  rw [wordLow_mod _ 0 x ?_ 8 (Nat.le_refl _)]
  · unfold U64 at hx; omega
  · intro m hm
    have hg : (bytesL [x] 8).getD m 0 = x / 256 ^ m % 256 := by
      rw [List.getD_eq_getElem?_getD, bytesL_get _ _ _ hm]
      unfold byteAt
      rw [show m / 8 = 0 by omega, show m % 8 = m by omega, show (256 : Int) = 2 ^ 8 by decide, ← Int.pow_mul, Nat.mul_comm 8 m]; rfl
    have := bt_strOf (bytesL [x] 8) m (by rw [bytesL_len]; exact hm) (by rw [hg]; omega) (by rw [hg]; omega)
    rw [show 8 * 0 + m = m by omega, this, hg]

set_option maxRecDepth 100000 in
set_option maxHeartbeats 400000 in
theorem awake_ok (w : World) : Calls Try.prog 9 #[] w fun e w' => e = .returned (.bool true) ∧ Keep [] w w' := by
  have h5 : U64 5 := by unfold U64; omega
  have HV := Hid.mk (PInplacePlays.haycroftref09_Value.calls 9 5 _ w (refvalue_f 5 h5))
  have hs : (strOfNums (bytesL [5] 8)).size = 8 := by rw [strOfNums_size, bytesL_len]
  have HB := Hid.mk (fun W => begin_ok (strOfNums (bytesL [5] 8)) W (by omega))
  rw [wordsL_value 5 h5] at HB
  generalize strOfNums (bytesL [5] 8) = s at *
  have HA := Hid.mk (fun x W (hW : BufAt W x) (hb : x.bits = 6) => newAdder_ok x 1 1 7 W hW (by omega) (by unfold U64; omega) (by unfold U64; omega) (by rw [hb]; decide))
  go_enter Try.func9, Try.ntmps9
  go_wp2_with (first
    | (go_at_call 20; refine HV.out.mono ?_; rintro e w1 ⟨rfl, hk1⟩)
    | (go_at_call 44; refine (HB.out _).mono ?_; rintro e w2 ⟨x, rfl, hx, hsc, hnew, hk2⟩)
    | (go_at_call 13; refine (HA.out x _ hx hsc.bits).mono ?_; rintro e w3 ⟨p, v, l, rfl, hl, hr, hp, hk3⟩))
  have k2 : Keep [] w w2 := (Keep.of_below hk1 []).trans hk2 (by simp)
  have k3 : Keep [] w w3 := k2.trans hk3 (by simp)
  have hx3 : BufAt w3 x := hx.keep hk3 (by simp)
  have hnew2 : ∀ g ∈ x.all, w.heap.size ≤ g := fun g hg => Nat.le_trans hk1.size (hnew g hg)
  have hp2 : ∀ g ∈ (Wr.adder p v l 7).fp, w.heap.size ≤ g ∧ g ∉ x.all := fun g hg => ⟨Nat.le_trans k2.size (hp g hg), fun hm => Nat.not_lt.2 (hp g hg) (hx.lt g hm)⟩
  obtain ⟨xb, hxb⟩ : ∃ xb, x.b = xb := ⟨_, rfl⟩
  rw [hxb]
  go_loopw [5] (fun n wr => ∃ (k : Nat) (y : Buf) (r : Wr), k ≤ 3 ∧ n = .int .i64 k ∧ AwS k y r ∧ BufAt wr y ∧ WrAt wr y.b 2 5 1 r ∧ y.b = xb ∧ r.p = p ∧ (∀ g ∈ y.all, w.heap.size ≤ g) ∧ (∀ g ∈ r.fp, w.heap.size ≤ g ∧ g ∉ y.all) ∧ Keep [] w wr) (fun n _ => 9 - (intOf n).toNat)
  case atStart => exact ⟨0, x, _, by omega, rfl, ⟨hsc, rfl, rfl, rfl, hl, rfl⟩, hx3, hr, hxb, rfl, hnew2, hp2, k3⟩
  case round =>
    obtain ⟨k, y, r, hk, rfl, hS, hy, hR, hyb, hrp, hn1, hn2, hkp⟩ := hrel
    clear hxb hp2 hp hr hx3 k3 hx hsc hnew hnew2 hl hk1 hk2 hk3 k2
    subst hyb hrp
    obtain ⟨b, hfit, hv, hS', hv', hp'⟩ := awS_step k hk y r hS
    have HM := wmove_ok y 2 5 1 r b 0 wr hy hR (fun g hg => (hn2 g hg).2) hfit
    have hbb : (r.step y 2 5 1 b 0).2.1.b = y.b ∧ (r.step y 2 5 1 b 0).2.1.all = y.all := by
      unfold Wr.step; split <;> (try split) <;> (try split) <;> (try split) <;> (try split) <;> exact ⟨rfl, rfl⟩
    have hfp : (r.step y 2 5 1 b 0).2.2.fp = r.fp := by unfold Wr.fp; rw [hv', hp']
    rw [hv] at HM
    generalize (r.step y 2 5 1 b 0).2.1 = y' at *
    generalize (r.step y 2 5 1 b 0).2.2 = r' at *
    have HM := Hid.mk HM
    obtain ⟨hb1, hb2⟩ := hbb
    have HK := Hid.mk (fun (w' : World) (hk' : Keep (r.fp ++ [y.R, y.C]) wr w') => hkp.trans hk' (fun g hg => by
      rcases List.mem_append.1 hg with h1 | h1
      · exact .inr (hn2 g h1).1
      · simp at h1
        rcases h1 with rfl | rfl
        · exact .inr (hn1 _ (by simp [Buf.all, Buf.fp]))
        · exact .inr (hn1 _ (by simp [Buf.all, Buf.fp]))))
    by_cases h3 : k = 3
    · subst h3
      rw [if_pos rfl] at HM
      have hS4 : Sc y' false 1 [12] := hS'
      have ha : y'.at_ 5 = 12 := by have := hS4.at_val (j := 0) (by simp); simpa using this
      have HL := Hid.mk (fun W (hW : BufAt W y') => bload_ok y' 5 W hW (by omega) (hS4.ain (by omega) (by omega)))
      rw [ha, hb1] at HL
      clear ha hS hS' hfit hS4 hv
      go_wp2_with (first
        | (go_at_call 15; refine HM.out.mono ?_; rintro e w4 ⟨rfl, hy4, hr4, hk4⟩)
        | (go_at_call 27; refine (HL.out _ hy4).mono ?_; rintro e w5 ⟨rfl, m, rfl⟩))
      go_ret
      exact ⟨rfl, (HK.out _ hk4).drewN m⟩
    · rw [if_neg h3] at HM
      clear hS hfit hv
      go_wp2_with ((go_at_call 15; refine HM.out.mono ?_; rintro e w4 ⟨rfl, hy4, hr4, hk4⟩))
      go_roundw
      case rel => exact ⟨k + 1, y', r', by omega, by go_num, hS', hy4, hb1 ▸ hr4, hb1, hp', by rw [hb2]; exact hn1, by rw [hb2, hfp]; exact hn2, HK.out _ hk4⟩
      case measure => simp [intOf]; omega
end Go.Proofs.Ytlgebknbfchnlaa
