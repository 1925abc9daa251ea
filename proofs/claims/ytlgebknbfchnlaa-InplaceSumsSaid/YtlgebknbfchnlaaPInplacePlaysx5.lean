-- PRINTED BY print.sh 35421559b90ae4d0a3588c463048766b98c2df88dd9212a6774a882060cdf62d: not written by this session
import Derived.Test.YtlgebknbfchnlaaPInplacePlaysx0
namespace Go.Proofs.Ytlgebknbfchnlaa.PInplacePlays
open Go.RowKit Go.Proofs.YtlgebknbfchnlaaW.PrintWords Go.Proofs.YtlgebknbfchnlaaW.PrintLast Go.Proofs.YtlgebknbfchnlaaW.PrintMore
attribute [local go_sem] max2_int min2_int max_two min_two max_three min_three max_four min_four   -- for this text's walks alone
set_option linter.unusedVariables false
set_option linter.unusedSimpArgs false

/-! ### haycroftref09_Text: function 63 -/
mutual
def haycroftref09_Text.l0 : Nat → List Int → Int → List Int → Int → Option (ByteArray × Bool)
  | 0, _, _, _, _ => none
  | k + 1, x0, x1, x6, x7 => if x7 < (x0.length : Int) then (if 0 ≤ x7 then (haycroftref09_Text.l1 k x0 x1 x6 x7 (rd x0 x7) 0) else (none)) else (haycroftref09_Text.l2 k x1 x6 x1)
def haycroftref09_Text.l1 : Nat → List Int → Int → List Int → Int → Int → Int → Option (ByteArray × Bool)
  | 0, _, _, _, _, _, _ => none
  | k + 1, x0, x1, x6, x7, x8, x9 => if x9 < 8 then (if x6.length < 140737488355328 then (haycroftref09_Text.l1 k x0 x1 (x6 ++ [(Int.tmod x8 256) % 256]) x7 (IntKind.u64.wrap (Int.tdiv x8 256)) (wrap64 (x9 + 1))) else (none)) else (haycroftref09_Text.l0 k x0 x1 x6 (wrap64 (x7 + 1)))
def haycroftref09_Text.l2 : Nat → Int → List Int → Int → Option (ByteArray × Bool)
  | 0, _, _, _ => none
  | k + 1, x1, x6, x10 => if x10 < (x6.length : Int) then (if 0 ≤ x10 then (if (rd x6 x10) = 0 then (haycroftref09_Text.l2 k x1 x6 (wrap64 (x10 + 1))) else (some ((⟨#[]⟩ : ByteArray), false))) else (none)) else (if 0 ≤ x1 then (if x1 ≤ (x6.length : Int) then (some (strOfNums (x6.take (x1 : Int).toNat), true)) else (none)) else (none))
end
def haycroftref09_Text.f (k : Nat) (l0 : List Int) (a1 : Int) : Option (ByteArray × Bool) := haycroftref09_Text.l0 k l0 a1 (([] : List Int)) 0
theorem haycroftref09_Text.mono_l : ∀ k, (∀ y0 y1 y2 y3, LeO (haycroftref09_Text.l0 k y0 y1 y2 y3) (haycroftref09_Text.l0 (k + 1) y0 y1 y2 y3)) ∧ (∀ y0 y1 y2 y3 y4 y5, LeO (haycroftref09_Text.l1 k y0 y1 y2 y3 y4 y5) (haycroftref09_Text.l1 (k + 1) y0 y1 y2 y3 y4 y5)) ∧ (∀ y0 y1 y2, LeO (haycroftref09_Text.l2 k y0 y1 y2) (haycroftref09_Text.l2 (k + 1) y0 y1 y2))
  | 0 => ⟨fun _ _ _ _ r h => by simp [haycroftref09_Text.l0] at h, fun _ _ _ _ _ _ r h => by simp [haycroftref09_Text.l1] at h, fun _ _ _ r h => by simp [haycroftref09_Text.l2] at h⟩
  | k + 1 => by
    obtain ⟨ih0, ih1, ih2⟩ := haycroftref09_Text.mono_l k
    refine ⟨?_, ?_, ?_⟩
    · intro y0 y1 y2 y3
      unfold haycroftref09_Text.l0
      repeat' first
      | (with_reducible exact ih0 _ _ _ _)
      | (with_reducible exact ih1 _ _ _ _ _ _)
      | (with_reducible exact ih2 _ _ _)
      | (with_reducible exact LeO.refl _)
      | (with_reducible exact LeO.none _)
      | (with_reducible refine LeO.ite ?_ ?_)
      | (with_reducible refine LeO.bind ?_ (fun _ => ?_))
      | exact ih0 _ _ _ _
      | exact ih1 _ _ _ _ _ _
      | exact ih2 _ _ _
      | exact LeO.none _
      | refine LeO.ite ?_ ?_
      | refine LeO.bind ?_ (fun _ => ?_)
    · intro y0 y1 y2 y3 y4 y5
      unfold haycroftref09_Text.l1
      repeat' first
      | (with_reducible exact ih0 _ _ _ _)
      | (with_reducible exact ih1 _ _ _ _ _ _)
      | (with_reducible exact ih2 _ _ _)
      | (with_reducible exact LeO.refl _)
      | (with_reducible exact LeO.none _)
      | (with_reducible refine LeO.ite ?_ ?_)
      | (with_reducible refine LeO.bind ?_ (fun _ => ?_))
      | exact ih0 _ _ _ _
      | exact ih1 _ _ _ _ _ _
      | exact ih2 _ _ _
      | exact LeO.none _
      | refine LeO.ite ?_ ?_
      | refine LeO.bind ?_ (fun _ => ?_)
    · intro y0 y1 y2
      unfold haycroftref09_Text.l2
      repeat' first
      | (with_reducible exact ih0 _ _ _ _)
      | (with_reducible exact ih1 _ _ _ _ _ _)
      | (with_reducible exact ih2 _ _ _)
      | (with_reducible exact LeO.refl _)
      | (with_reducible exact LeO.none _)
      | (with_reducible refine LeO.ite ?_ ?_)
      | (with_reducible refine LeO.bind ?_ (fun _ => ?_))
      | exact ih0 _ _ _ _
      | exact ih1 _ _ _ _ _ _
      | exact ih2 _ _ _
      | exact LeO.none _
      | refine LeO.ite ?_ ?_
      | refine LeO.bind ?_ (fun _ => ?_)
theorem haycroftref09_Text.mono : ∀ a0 a1 k, LeO (haycroftref09_Text.f k a0 a1) (haycroftref09_Text.f (k + 1) a0 a1) := by
  intro a0 a1 k
  obtain ⟨ih0, ih1, ih2⟩ := haycroftref09_Text.mono_l k
  unfold haycroftref09_Text.f
  repeat' first
      | (with_reducible exact ih0 _ _ _ _)
      | (with_reducible exact ih1 _ _ _ _ _ _)
      | (with_reducible exact ih2 _ _ _)
      | (with_reducible exact LeO.refl _)
      | (with_reducible exact LeO.none _)
      | (with_reducible refine LeO.ite ?_ ?_)
      | (with_reducible refine LeO.bind ?_ (fun _ => ?_))
      | exact ih0 _ _ _ _
      | exact ih1 _ _ _ _ _ _
      | exact ih2 _ _ _
      | exact LeO.none _
      | refine LeO.ite ?_ ?_
      | refine LeO.bind ?_ (fun _ => ?_)
set_option maxHeartbeats 8000000 in
set_option maxRecDepth 100000 in
theorem haycroftref09_Text.calls (k : Nat) (A0 : Option Addr) (c0 : Nat) (l0 : List Int) (a1 : Int) (r1 : ByteArray) (r2 : Bool) (w : World) (hr0 : Kd.C (Kd.int .u64) w A0 l0.length l0) (hc0 : l0.length ≤ c0) (h : haycroftref09_Text.f k l0 a1 = some (r1, r2)) :
    Calls Try.prog 63 #[.slice A0 l0.length c0, .int .i64 a1] w fun e w' => e = .returned (.tuple #[.string r1, .bool r2]) ∧ Below w.heap.size w w' := by
  have HR0 := Aside0.mk hr0
  have HC0 := Aside0.mk hc0
  clear hr0 hc0
  have HB := Aside0.mk (Below.refl w.heap.size w)
  have H : (haycroftref09_Text.l0 k l0 a1 (([] : List Int)) 0) = some (r1, r2) := h
  clear h
  obtain ⟨y221, hy221⟩ : ∃ y_ : List Int, y_ = (([] : List Int)) := ⟨_, rfl⟩
  replace H : (haycroftref09_Text.l0 k l0 a1 y221 0) = some (r1, r2) := by first | (rw [hy221]; with_reducible exact H) | (have H2_ := (Option.bind_some _ _).symm.trans H; rw [hy221]; with_reducible exact H2_) | (have H2_ := (Option.bind_some _ _).symm.trans H; with_reducible exact H2_) | with_reducible exact H | (rw [hy221]; exact H) | exact H
  have Ny221 := Aside0.mk hy221
  clear hy221
  have H' := Aside0.mk H
  clear H
  go_enter Try.func63, Try.ntmps63
  go_wp2_with (first | ((with_reducible refine gate_dst (N := 11) rfl ?_); refine Kd.R_lit (Kd.int .u8) _ 5 ?hg (N := 11) ?hd (xs := ([] : List Int)) (inner := []) (ok := fun _ => True) (okp := fun _ => True) ?hr ?hp (fun _ hk => hk) trivial (Below.refl _ _) (Nat.le_refl _) (by simp) ?_; (case hd => rfl); (case hg => rfl); (case hr => first | (go_simp; done) | (go_simp; rfl)); (case hp => exact (Reps.none _ _)); intro v222 w3 ho4 hb hg_ hnew_; clear hg_ hnew_; (first | rw [← Ny221.out] at ho4 | (simp only [Int.reduceToNat] at ho4; rw [← Ny221.out] at ho4)); have n0_ := Aside0.mk (Kd.R_lower ho4 (below_size (by repeat (first | (with_reducible first | exact HB.out | apply below_alloc | apply pw_below_drewN | apply below_drew1) | exact HB.out)))); have n1_ := Aside0.mk (below_step (by repeat (first | (with_reducible first | exact HB.out | apply below_alloc | apply pw_below_drewN | apply below_drew1) | exact HB.out)) hb); clear HB; have HO223 := n0_; have HB := n1_; clear n0_ n1_; clear hb ho4))
  go_loopg [6, 7] k (fun kq v6 v7 w' => ∃ (x6_1 : List Int) (x7_1 : Int), v7 = .int .i64 x7_1 ∧ Aside0 (haycroftref09_Text.l0 kq l0 a1 x6_1 x7_1 = some (r1, r2)) ∧ Aside0 (kq ≤ k) ∧ Aside0 (Kd.R (Kd.int .u8) 5 w' w.heap.size (fun _ => True) v6 x6_1) ∧ Aside0 (Below w.heap.size w w'))
  case atStart => exact ⟨(y221), (0), (by first | rfl | (simp; done) | (simp [*]; done)), H', ⟨Nat.le_refl _⟩, ⟨by (with_reducible repeat (first | apply Kd.R_alloc | apply Kd.R_drewN | apply Kd.R_drew)); exact HO223.out⟩, ⟨by repeat (first | (with_reducible first | exact HB.out | apply below_alloc | apply pw_below_drewN | apply below_drew1) | exact HB.out)⟩⟩
  case round =>
    clear H'
    try clear p2
    obtain ⟨x6_1, x7_1, rfl, HA, HK1, HO_6, HB⟩ := hrel
    cases gk with
    | zero => exact absurd HA.out (by simp [haycroftref09_Text.l0])
    | succ k1 =>
      have H := HA.out
      clear HA
      simp only [haycroftref09_Text.l0] at H
      by_cases c5 : x7_1 < (l0.length : Int)
      · rw [if_pos c5] at H
        have c5b0 : decide (x7_1 < (l0.length : Int)) = true := decide_eq_true c5
        clear c5
        by_cases c6 : 0 ≤ x7_1
        · rw [if_pos c6] at H
          have c6b0 : decide (0 ≤ x7_1) = true := decide_eq_true c6
          clear c6
          have H' := Aside0.mk H
          clear H
          have p224 : 0 ≤ (x7_1 : Int) := of_decide_eq_true (by first | (with_reducible assumption) | assumption)
          have q224 : x7_1 < (l0.length : Int) := of_decide_eq_true (by first | (with_reducible assumption) | assumption)
          obtain ⟨ad224, e224, hx224_0⟩ := Kd.at_int HR0.out x7_1 p224 q224
          cases e224
          replace hx224_0 := (HB.out.cell (World.block_lt_of_cell? w _ hx224_0)).trans hx224_0
          replace p224 := eq_true p224
          replace q224 := eq_true q224
          go_wp2
          go_loopg [6, 8, 9] k1 (fun kq v6 v8 v9 w' => ∃ (x6_2 : List Int) (x8_2 : Int) (x9_2 : Int), v8 = .int .u64 x8_2 ∧ v9 = .int .i64 x9_2 ∧ Aside0 (haycroftref09_Text.l1 kq l0 a1 x6_2 x7_1 x8_2 x9_2 = some (r1, r2)) ∧ Aside0 (kq ≤ k1) ∧ Aside0 (Kd.R (Kd.int .u8) 5 w' w.heap.size (fun _ => True) v6 x6_2) ∧ Aside0 (Below w.heap.size w w'))
          case atStart => exact ⟨(x6_1), (rd l0 x7_1), (0), (by first | rfl | (simp; done) | (simp [*]; done)), (by first | rfl | (simp; done) | (simp [*]; done)), H', ⟨Nat.le_refl _⟩, ⟨by (with_reducible repeat (first | apply Kd.R_alloc | apply Kd.R_drewN | apply Kd.R_drew)); exact HO_6.out⟩, ⟨by repeat (first | (with_reducible first | exact HB.out | apply below_alloc | apply pw_below_drewN | apply below_drew1) | exact HB.out)⟩⟩
          case round =>
            clear H'
            try clear p2
            try clear q2
            try clear hx2
            try clear c5
            try clear c5b0
            try clear c6
            try clear c6b0
            try clear hx224_0
            try clear p2
            try clear p224
            try clear q224
            obtain ⟨x6_2, x8_2, x9_2, rfl, rfl, HA, HK2, HO_6, HB⟩ := hrel
            cases gk with
            | zero => exact absurd HA.out (by simp [haycroftref09_Text.l1])
            | succ k2 =>
              have H := HA.out
              clear HA
              simp only [haycroftref09_Text.l1] at H
              by_cases c7 : x9_2 < 8
              · rw [if_pos c7] at H
                have c7b0 : decide (x9_2 < 8) = true := decide_eq_true c7
                clear c7
                by_cases c8 : x6_2.length < 140737488355328
                · rw [if_pos c8] at H
                  have LMc8 := Aside0.mk c8
                  clear c8
                  obtain ⟨y225, hy225⟩ : ∃ y_ : List Int, y_ = (x6_2 ++ [(Int.tmod x8_2 256) % 256]) := ⟨_, rfl⟩
                  replace H : (haycroftref09_Text.l1 k2 l0 a1 y225 x7_1 (IntKind.u64.wrap (Int.tdiv x8_2 256)) (wrap64 (x9_2 + 1))) = some (r1, r2) := by first | (rw [hy225]; with_reducible exact H) | (have H2_ := (Option.bind_some _ _).symm.trans H; rw [hy225]; with_reducible exact H2_) | (have H2_ := (Option.bind_some _ _).symm.trans H; with_reducible exact H2_) | with_reducible exact H | (rw [hy225]; exact H) | exact H
                  have Ny225 := Aside0.mk hy225
                  clear hy225
                  have H' := Aside0.mk H
                  clear H
                  go_wp2_with (first | ((with_reducible refine gate_builtin (b := .append) (xs := #[.tmp 26, .tmp 30]) rfl ?_); at_builtin; refine Kd.R_append (Kd.int .u8) (w0 := w) w.heap.size rfl (.tmp 26) (.tmp 30) 41 5 (.int .u8 0) 1 rfl Try.underlying41 info5 rfl (by decide) (by omega) u6 x6_2 ((Int.tmod x8_2 256) % 256) [.int .u8 ((Int.tmod x8_2 256) % 256)] (fun _ => True) (fun _ => False) rfl rfl ?aP (fun _ hk => hk.elim) ?aF ?aO ?aB ?aS ?aL ?_; (case aP => exact rfl); (case aB => exact (by repeat (first | (with_reducible first | exact HB.out | apply below_alloc | apply pw_below_drewN | apply below_drew1) | exact HB.out))); (case aF => exact (fun _ _ => trivial)); (case aO => exact (by (with_reducible repeat (first | apply Kd.R_alloc | apply Kd.R_drewN | apply Kd.R_drew)); exact HO_6.out)); (case aS => exact (below_size (by repeat (first | (with_reducible first | exact HB.out | apply below_alloc | apply pw_below_drewN | apply below_drew1) | exact HB.out)))); (case aL => have := LMc8.out; omega); intro v226 w9 ho hb hg hat; rw [← Ny225.out] at ho; have n0_ := Aside0.mk (hb); have n1_ := Aside0.mk (ho); clear HB; clear HO_6; have HB := n0_; have HO227 := n1_; clear n0_ n1_; clear ho hb hg hat))
                  go_roundg k2
                  case measure => have := HK1.out; have := HK2.out; omega
                  case rel => exact ⟨(y225), (IntKind.u64.wrap (Int.tdiv x8_2 256)), (wrap64 (x9_2 + 1)), (by first | rfl | (simp; done) | (simp [*]; done)), (by first | rfl | (simp; done) | (simp [*]; done)), H', ⟨by have := HK1.out; have := HK2.out; omega⟩, ⟨by (with_reducible repeat (first | apply Kd.R_alloc | apply Kd.R_drewN | apply Kd.R_drew)); exact HO227.out⟩, ⟨by repeat (first | (with_reducible first | exact HB.out | apply below_alloc | apply pw_below_drewN | apply below_drew1) | exact HB.out)⟩⟩
                · rw [if_neg c8] at H
                  exact absurd H (by simp)
              · rw [if_neg c7] at H
                have c7b0 : decide (x9_2 < 8) = false := decide_eq_false c7
                clear c7
                have H' := Aside0.mk H
                clear H
                go_wp2
                go_roundg k2
                case measure => have := HK1.out; have := HK2.out; omega
                case rel => exact ⟨(x6_2), (wrap64 (x7_1 + 1)), (by first | rfl | (simp; done) | (simp [*]; done)), H', ⟨by have := HK1.out; have := HK2.out; omega⟩, ⟨by (with_reducible repeat (first | apply Kd.R_alloc | apply Kd.R_drewN | apply Kd.R_drew)); exact HO_6.out⟩, ⟨by repeat (first | (with_reducible first | exact HB.out | apply below_alloc | apply pw_below_drewN | apply below_drew1) | exact HB.out)⟩⟩
        · rw [if_neg c6] at H
          exact absurd H (by simp)
      · rw [if_neg c5] at H
        have c5b0 : decide (x7_1 < (l0.length : Int)) = false := decide_eq_false c5
        clear c5
        have H' := Aside0.mk H
        clear H
        go_wp2
        go_loopg [10] k1 (fun kq v10 w' => ∃ (x10_2 : Int), v10 = .int .i64 x10_2 ∧ Aside0 (haycroftref09_Text.l2 kq a1 x6_1 x10_2 = some (r1, r2)) ∧ Aside0 (kq ≤ k1) ∧ Aside0 (Kd.R (Kd.int .u8) 5 w' w.heap.size (fun _ => True) u6 x6_1) ∧ Aside0 (Below w.heap.size w w'))
        case atStart => exact ⟨(a1), (by first | rfl | (simp; done) | (simp [*]; done)), H', ⟨Nat.le_refl _⟩, ⟨by (with_reducible repeat (first | apply Kd.R_alloc | apply Kd.R_drewN | apply Kd.R_drew)); exact HO_6.out⟩, ⟨by repeat (first | (with_reducible first | exact HB.out | apply below_alloc | apply pw_below_drewN | apply below_drew1) | exact HB.out)⟩⟩
        case round =>
          clear H'
          try clear p2
          try clear q2
          try clear hx2
          try clear c5
          try clear c5b0
          try clear c6
          try clear c6b0
          try clear p6
          try clear c7
          try clear c7b0
          try clear c8
          try clear hx224_0
          try clear p2
          try clear p224
          try clear q2
          try clear q224
          obtain ⟨x10_2, rfl, HA, HK2, HO_6, HB⟩ := hrel
          cases gk with
          | zero => exact absurd HA.out (by simp [haycroftref09_Text.l2])
          | succ k2 =>
            have H := HA.out
            clear HA
            simp only [haycroftref09_Text.l2] at H
            by_cases c10 : x10_2 < (x6_1.length : Int)
            · rw [if_pos c10] at H
              have c10b0 : decide (x10_2 < (x6_1.length : Int)) = true := decide_eq_true c10
              clear c10
              by_cases c11 : 0 ≤ x10_2
              · rw [if_pos c11] at H
                have c11b0 : decide (0 ≤ x10_2) = true := decide_eq_true c11
                clear c11
                by_cases c12 : (rd x6_1 x10_2) = 0
                · rw [if_pos c12] at H
                  have c12b0 : ((rd x6_1 x10_2) == 0) = true := beq_iff_eq.mpr c12
                  have c12b1 : ((rd x6_1 x10_2) != 0) = false := bne_eq_false_iff_eq.mpr c12
                  clear c12
                  have H' := Aside0.mk H
                  clear H
                  obtain ⟨Ao13, co13, eo13⟩ := Kd.R_slice HO_6.out
                  subst eo13
                  have p228 : 0 ≤ (x10_2 : Int) := of_decide_eq_true (by first | (with_reducible assumption) | assumption)
                  have q228 : x10_2 < (x6_1.length : Int) := of_decide_eq_true (by first | (with_reducible assumption) | assumption)
                  obtain ⟨ad228, e228, hx228_0⟩ := Kd.at_int (Kd.R_reads' HO_6.out).2.2 x10_2 p228 q228
                  cases e228
                  replace p228 := eq_true p228
                  replace q228 := eq_true q228
                  go_wp2
                  go_roundg k2
                  case measure => have := HK1.out; have := HK2.out; omega
                  case rel => exact ⟨(wrap64 (x10_2 + 1)), (by first | rfl | (simp; done) | (simp [*]; done)), H', ⟨by have := HK1.out; have := HK2.out; omega⟩, ⟨by (with_reducible repeat (first | apply Kd.R_alloc | apply Kd.R_drewN | apply Kd.R_drew)); exact HO_6.out⟩, ⟨by repeat (first | (with_reducible first | exact HB.out | apply below_alloc | apply pw_below_drewN | apply below_drew1) | exact HB.out)⟩⟩
                · rw [if_neg c12] at H
                  have c12b0 : ((rd x6_1 x10_2) == 0) = false := beq_eq_false_iff_ne.mpr c12
                  have c12b1 : ((rd x6_1 x10_2) != 0) = true := bne_iff_ne.mpr c12
                  simp only [Option.some.injEq, Prod.mk.injEq] at H
                  obtain ⟨rfl, rfl⟩ := H
                  obtain ⟨Ao14, co14, eo14⟩ := Kd.R_slice HO_6.out
                  subst eo14
                  have p228 : 0 ≤ (x10_2 : Int) := of_decide_eq_true (by first | (with_reducible assumption) | assumption)
                  have q228 : x10_2 < (x6_1.length : Int) := of_decide_eq_true (by first | (with_reducible assumption) | assumption)
                  obtain ⟨ad228, e228, hx228_0⟩ := Kd.at_int (Kd.R_reads' HO_6.out).2.2 x10_2 p228 q228
                  cases e228
                  replace p228 := eq_true p228
                  replace q228 := eq_true q228
                  go_wp2
                  go_ret2
                  exact ⟨by first | rfl | (simp [errW_none, errW_some] <;> rfl) | (simp [*, errW_none, errW_some] <;> rfl), by repeat (first | (with_reducible first | exact HB.out | apply below_alloc | apply pw_below_drewN | apply below_drew1) | exact HB.out)⟩
              · rw [if_neg c11] at H
                exact absurd H (by simp)
            · rw [if_neg c10] at H
              have c10b0 : decide (x10_2 < (x6_1.length : Int)) = false := decide_eq_false c10
              clear c10
              by_cases c15 : 0 ≤ a1
              · rw [if_pos c15] at H
                have c15b0 := eq_true c15
                have c15b1 : decide (0 ≤ a1) = true := decide_eq_true c15
                clear c15
                by_cases c16 : a1 ≤ (x6_1.length : Int)
                · rw [if_pos c16] at H
                  have c16b0 := eq_true c16
                  have c16b1 : decide (a1 ≤ (x6_1.length : Int)) = true := decide_eq_true c16
                  clear c16
                  obtain ⟨y229, hy229⟩ : ∃ y_ : List Int, y_ = (x6_1.take (a1 : Int).toNat) := ⟨_, rfl⟩
                  replace H : (some (strOfNums y229, true)) = some (r1, r2) := by first | (rw [hy229]; with_reducible exact H) | (have H2_ := (Option.bind_some _ _).symm.trans H; rw [hy229]; with_reducible exact H2_) | (have H2_ := (Option.bind_some _ _).symm.trans H; with_reducible exact H2_) | with_reducible exact H | (rw [hy229]; exact H) | exact H
                  have Ny229 := Aside0.mk hy229
                  clear hy229
                  simp only [Option.some.injEq, Prod.mk.injEq] at H
                  obtain ⟨rfl, rfl⟩ := H
                  obtain ⟨Ao17, co17, eo17⟩ := Kd.R_slice HO_6.out
                  subst eo17
                  have q18 : (a1 : Int) ≤ ((x6_1.length : Int) : Int) := of_decide_eq_true (by first | (with_reducible assumption) | assumption)
                  obtain ⟨i018, hi018, _, hsz18, _⟩ := info_parts info5
                  have hroom18 : x6_1.length ≤ co17 := (Kd.R_reads' HO_6.out).2.1
                  have hC18 : Kd.C (Kd.int .u8) _ Ao17 x6_1.length x6_1 := (Kd.R_reads' HO_6.out).2.2
                  have hcut18 := cut_to (P := Try.prog) 41 5 .i64 Try.underlying41 hi018 Ao17 x6_1.length co17 a1 (of_decide_eq_true (by first | (with_reducible assumption) | assumption)) q18 hroom18
                  have hr18 := Kd.C_take (m := (a1 : Int).toNat) hC18 (by omega)
                  have hy18 : y229.length = (a1 : Int).toNat := (by rw [Ny229.out, List.length_take]; omega)
                  rw [← Ny229.out] at hr18
                  rw [← hy18] at hcut18
                  have HR232 := Aside0.mk hr18
                  have HC232 := Aside0.mk (show y229.length ≤ co17 from by omega)
                  clear hr18 hC18 hroom18 hi018 hsz18
                  have KY18 := Aside0.mk hy18
                  clear hy18
                  have KL18 := Aside0.mk (show (a1 : Int).toNat ≤ x6_1.length from by omega)
                  replace q18 := eq_true q18
                  have hcv19 := Kd.C_string (P := Try.prog) (A := Ao17) (c := co17) Try.underlying41 Try.underlying5 Try.underlying9 (by repeat (first | (with_reducible exact HR232.out) | (with_reducible refine Kd.C_alloc ?_ _) | (with_reducible refine Kd.C_drewN ?_ _) | (with_reducible refine Kd.C_drew ?_) | exact HR232.out))
                  go_wp2
                  go_ret2
                  exact ⟨by first | rfl | (simp [errW_none, errW_some] <;> rfl) | (simp [*, errW_none, errW_some] <;> rfl), by repeat (first | (with_reducible first | exact HB.out | apply below_alloc | apply pw_below_drewN | apply below_drew1) | exact HB.out)⟩
                · rw [if_neg c16] at H
                  exact absurd H (by simp)
              · rw [if_neg c15] at H
                exact absurd H (by simp)

/-! ### haycroftref18_Text: function 25 -/
def haycroftref18_Text.f (k : Nat) (l0 : List Int) (a1 : Int) : Option (ByteArray) := (haycroftref09_Text.f k l0 a1).bind fun bt233 => (some bt233.1)
theorem haycroftref18_Text.mono : ∀ a0 a1 k, LeO (haycroftref18_Text.f k a0 a1) (haycroftref18_Text.f (k + 1) a0 a1) := by
  intro a0 a1 k
  unfold haycroftref18_Text.f
  repeat' first
      | (with_reducible exact haycroftref09_Text.mono _ _ _)
      | (with_reducible exact LeO.refl _)
      | (with_reducible exact LeO.none _)
      | (with_reducible refine LeO.ite ?_ ?_)
      | (with_reducible refine LeO.bind ?_ (fun _ => ?_))
      | exact haycroftref09_Text.mono _ _ _
      | exact LeO.none _
      | refine LeO.ite ?_ ?_
      | refine LeO.bind ?_ (fun _ => ?_)
set_option maxHeartbeats 8000000 in
set_option maxRecDepth 100000 in
theorem haycroftref18_Text.calls (k : Nat) (A0 : Option Addr) (c0 : Nat) (l0 : List Int) (a1 : Int) (r : ByteArray) (w : World) (hr0 : Kd.C (Kd.int .u64) w A0 l0.length l0) (hc0 : l0.length ≤ c0) (h : haycroftref18_Text.f k l0 a1 = some r) :
    Calls Try.prog 25 #[.slice A0 l0.length c0, .int .i64 a1] w fun e w' => e = .returned (.string r) ∧ Below w.heap.size w w' := by
  have HR0 := Aside0.mk hr0
  have HC0 := Aside0.mk hc0
  clear hr0 hc0
  have HB := Aside0.mk (Below.refl w.heap.size w)
  have H : ((haycroftref09_Text.f k l0 a1).bind fun bt233 => (some bt233.1)) = some r := h
  clear h
  replace H := Option.bind_eq_some_iff.mp H
  obtain ⟨⟨t233, t234⟩, A30, H⟩ := H
  replace H : (some t233) = some r := H
  have A3 := Aside0.mk A30
  clear A30
  obtain rfl := Option.some.inj H
  go_enter Try.func25, Try.ntmps25
  go_wp2_with (first | ((with_reducible refine gate_callee (f := 63) rfl ?_); refine goesL_ (some 10) rfl rfl Try.func63 (by kernel_rfl) rfl #[.slice A0 l0.length c0, .int .i64 a1] rfl (by (try simp only [List.map_toArray, List.map_cons, List.map_nil]); first | done | rfl | (simp only [List.length_drop, List.length_take]; rfl)) ?_; (with_reducible refine (haycroftref09_Text.calls k _ _ l0 a1 t233 t234 _ ?side1 ?side2 A3.out).mono ?_); (case side1 => repeat (first | exact HR0.out | (with_reducible refine Kd.C_alloc ?_ _) | (with_reducible refine Kd.C_drewN ?_ _) | (with_reducible refine Kd.C_drew ?_))); (case side2 => exact HC0.out); rintro e w4 ⟨rfl, hb⟩; refine ⟨_, rfl, ?_⟩; have n0_ := Aside0.mk (below_step (by repeat (first | (with_reducible first | exact HB.out | apply below_alloc | apply pw_below_drewN | apply below_drew1) | exact HB.out)) hb); clear HB; have HB := n0_; clear n0_; (try clear hb); (try clear hb2); (try clear hk); (try clear hi)))
  go_ret
  exact ⟨by first | rfl | (simp [errW_none, errW_some] <;> rfl) | (simp [*, errW_none, errW_some] <;> rfl), by repeat (first | (with_reducible first | exact HB.out | apply below_alloc | apply pw_below_drewN | apply below_drew1) | exact HB.out)⟩

/-- A state of type 58 at block g of W; what its slices lead to came in by w0. -/
def IsS58 (w0 W : World) (g : Nat) (f0 : Bool) (f1 : Bool) (f2 : Int) (f3 : List Int) (f4 : Int) (f5 : Bool) (f6 : Int) (f7 : List Int) : Prop := ∃ A3 c3, ∃ A7 c7, W.heap[g]? = some (.cells #[.bool f0, .bool f1, .int .u64 f2, .slice A3 f3.length c3, .int .i64 f4, .bool f5, .int .u64 f6, .slice A7 f7.length c7] 58 (0, 0)) ∧ w0.heap.size ≤ g ∧ Kd.C (Kd.int .u64) w0 A3 f3.length f3 ∧ Kd.C (Kd.int .u64) w0 A7 f7.length f7
theorem IsS58.grown {w0 W : World} {g : Nat} {f0 : Bool} {f1 : Bool} {f2 : Int} {f3 : List Int} {f4 : Int} {f5 : Bool} {f6 : Int} {f7 : List Int} {W1 : World} {row : Option Nat} (h : IsS58 w0 W g f0 f1 f2 f3 f4 f5 f6 f7) (hw : W.grownBy W1 row) (hne : some g ≠ row) : IsS58 w0 W1 g f0 f1 f2 f3 f4 f5 f6 f7 := by
  obtain ⟨A3, c3, A7, c7, hb, hg, hr3, hr7⟩ := h
  exact ⟨A3, c3, A7, c7, blk_grown hb hw hne, hg, hr3, hr7⟩
theorem IsS58.own_neN {w0 W : World} {g : Nat} {f0 : Bool} {f1 : Bool} {f2 : Int} {f3 : List Int} {f4 : Int} {f5 : Bool} {f6 : Int} {f7 : List Int} {α : Type} {d : Kd α} {e : Nat} {base : Nat} {ok : Nat → Prop} {v : Value} {xs : List α} (h : IsS58 w0 W g f0 f1 f2 f3 f4 f5 f6 f7) (ho : Kd.N d e W base ok v xs) (ht : e ≠ 58) : some g ≠ v.ownBlock := by
  obtain ⟨A3, c3, A7, c7, hb, hg, hr3, hr7⟩ := h
  exact Kd.N_ne ho hb ht
theorem IsS58.fresh {w0 W : World} {g : Nat} {f0 : Bool} {f1 : Bool} {f2 : Int} {f3 : List Int} {f4 : Int} {f5 : Bool} {f6 : Int} {f7 : List Int} (h : IsS58 w0 W g f0 f1 f2 f3 f4 f5 f6 f7) : ∀ k, W.heap.size ≤ k → k ≠ g := by
  obtain ⟨A3, c3, A7, c7, hb, hg, hr3, hr7⟩ := h
  exact Kd.freshB hb
theorem IsS58.kept {w0 W : World} {g : Nat} {f0 : Bool} {f1 : Bool} {f2 : Int} {f3 : List Int} {f4 : Int} {f5 : Bool} {f6 : Int} {f7 : List Int} {W1 : World} {S : Nat → Prop} (h : IsS58 w0 W g f0 f1 f2 f3 f4 f5 f6 f7) (hk : Kept W W1 S) (hne : ¬ S g) : IsS58 w0 W1 g f0 f1 f2 f3 f4 f5 f6 f7 := by
  obtain ⟨A3, c3, A7, c7, hb, hg, hr3, hr7⟩ := h
  exact ⟨A3, c3, A7, c7, blk_kept hb hk hne, hg, hr3, hr7⟩
theorem IsS58.below {w0 W : World} {g : Nat} {f0 : Bool} {f1 : Bool} {f2 : Int} {f3 : List Int} {f4 : Int} {f5 : Bool} {f6 : Int} {f7 : List Int} {W1 : World} (h : IsS58 w0 W g f0 f1 f2 f3 f4 f5 f6 f7) (hw : Below W.heap.size W W1) : IsS58 w0 W1 g f0 f1 f2 f3 f4 f5 f6 f7 := h.grown (grown_of_below hw none) (by simp)
theorem IsS58.alloc {w0 W : World} {g : Nat} {f0 : Bool} {f1 : Bool} {f2 : Int} {f3 : List Int} {f4 : Int} {f5 : Bool} {f6 : Int} {f7 : List Int} (h : IsS58 w0 W g f0 f1 f2 f3 f4 f5 f6 f7) (o : Obj) : IsS58 w0 (W.alloc o) g f0 f1 f2 f3 f4 f5 f6 f7 := h.below (below_alloc (Below.refl _ _) o)
theorem IsS58.drewN {w0 W : World} {g : Nat} {f0 : Bool} {f1 : Bool} {f2 : Int} {f3 : List Int} {f4 : Int} {f5 : Bool} {f6 : Int} {f7 : List Int} (h : IsS58 w0 W g f0 f1 f2 f3 f4 f5 f6 f7) (m : Nat) : IsS58 w0 (W.drewN m) g f0 f1 f2 f3 f4 f5 f6 f7 := h
theorem IsS58.drew {w0 W : World} {g : Nat} {f0 : Bool} {f1 : Bool} {f2 : Int} {f3 : List Int} {f4 : Int} {f5 : Bool} {f6 : Int} {f7 : List Int} (h : IsS58 w0 W g f0 f1 f2 f3 f4 f5 f6 f7) : IsS58 w0 W.drew g f0 f1 f2 f3 f4 f5 f6 f7 := h
theorem IsS58.at_ {w0 W : World} {g : Nat} {f0 : Bool} {f1 : Bool} {f2 : Int} {f3 : List Int} {f4 : Int} {f5 : Bool} {f6 : Int} {f7 : List Int} {w' : World} {m : Nat} (hq : W.drewN m = w') (h : IsS58 w0 W g f0 f1 f2 f3 f4 f5 f6 f7) : IsS58 w0 w' g f0 f1 f2 f3 f4 f5 f6 f7 := by subst hq; exact IsS58.drewN h m
theorem IsS58.apart {w0 W : World} {g : Nat} {f0 : Bool} {f1 : Bool} {f2 : Int} {f3 : List Int} {f4 : Int} {f5 : Bool} {f6 : Int} {f7 : List Int} {α : Type} {d : Kd α} {e : Nat} {base : Nat} {ok : Nat → Prop} {v : Value} {xs : List α} (h : IsS58 w0 W g f0 f1 f2 f3 f4 f5 f6 f7) (ho : d.R e W base ok v xs) (ht : ∀ q, q ∈ e :: d.E → q ≠ 58) : d.R e W base (fun k => ok k ∧ k ≠ g) v xs := by
  obtain ⟨A3, c3, A7, c7, hb, hg, hr3, hr7⟩ := h
  exact Kd.R_types ho hb ht
theorem IsS58.own_ne {w0 W : World} {g : Nat} {f0 : Bool} {f1 : Bool} {f2 : Int} {f3 : List Int} {f4 : Int} {f5 : Bool} {f6 : Int} {f7 : List Int} {α : Type} {d : Kd α} {e : Nat} {base : Nat} {ok : Nat → Prop} {v : Value} {xs : List α} (h : IsS58 w0 W g f0 f1 f2 f3 f4 f5 f6 f7) (ho : d.R e W base ok v xs) (ht : e ≠ 58) : some g ≠ v.ownBlock := by
  obtain ⟨A3, c3, A7, c7, hb, hg, hr3, hr7⟩ := h
  exact Kd.R_ne ho hb ht
theorem IsS58.apartQ {w0 W : World} {g : Nat} {f0 : Bool} {f1 : Bool} {f2 : Int} {f3 : List Int} {f4 : Int} {f5 : Bool} {f6 : Int} {f7 : List Int} {α : Type} {d : Kd α} {e : Nat} {base : Nat} {ok : Nat → Prop} {v : Value} {xs : List α} (h : IsS58 w0 W g f0 f1 f2 f3 f4 f5 f6 f7) (ho : d.Q e W base ok v xs) (ht : ∀ q, q ∈ e :: d.E → q ≠ 58) : d.Q e W base (fun k => ok k ∧ k ≠ g) v xs := by
  obtain ⟨A3, c3, A7, c7, hb, hg, hr3, hr7⟩ := h
  exact Kd.Q_types ho hb ht
theorem IsS58.own_neQ {w0 W : World} {g : Nat} {f0 : Bool} {f1 : Bool} {f2 : Int} {f3 : List Int} {f4 : Int} {f5 : Bool} {f6 : Int} {f7 : List Int} {α : Type} {d : Kd α} {e : Nat} {base : Nat} {ok : Nat → Prop} {v : Value} {xs : List α} (h : IsS58 w0 W g f0 f1 f2 f3 f4 f5 f6 f7) (ho : d.Q e W base ok v xs) (ht : e ≠ 58) : some g ≠ v.ownBlock := by
  obtain ⟨A3, c3, A7, c7, hb, hg, hr3, hr7⟩ := h
  exact Kd.Q_ne ho hb ht
theorem IsS58.apartS {w0 W : World} {g : Nat} {f0 : Bool} {f1 : Bool} {f2 : Int} {f3 : List Int} {f4 : Int} {f5 : Bool} {f6 : Int} {f7 : List Int} {α : Type} {d : Kd α} {e : Nat} {base : Nat} {ok : Nat → Prop} {v : Value} {xs : List α} (h : IsS58 w0 W g f0 f1 f2 f3 f4 f5 f6 f7) (ho : d.S e W base ok v xs) (ht : ∀ q, q ∈ e :: d.E → q ≠ 58) : d.S e W base (fun k => ok k ∧ k ≠ g) v xs := by
  obtain ⟨A3, c3, A7, c7, hb, hg, hr3, hr7⟩ := h
  exact Kd.S_types ho hb ht
theorem IsS58.own_neS {w0 W : World} {g : Nat} {f0 : Bool} {f1 : Bool} {f2 : Int} {f3 : List Int} {f4 : Int} {f5 : Bool} {f6 : Int} {f7 : List Int} {α : Type} {d : Kd α} {e : Nat} {base : Nat} {ok : Nat → Prop} {v : Value} {xs : List α} (h : IsS58 w0 W g f0 f1 f2 f3 f4 f5 f6 f7) (ho : d.S e W base ok v xs) (ht : e ≠ 58) : some g ≠ v.ownBlock := by
  obtain ⟨A3, c3, A7, c7, hb, hg, hr3, hr7⟩ := h
  exact Kd.S_ne ho hb ht
theorem IsS58.lt {w0 W : World} {g : Nat} {f0 : Bool} {f1 : Bool} {f2 : Int} {f3 : List Int} {f4 : Int} {f5 : Bool} {f6 : Int} {f7 : List Int} (h : IsS58 w0 W g f0 f1 f2 f3 f4 f5 f6 f7) : g < W.heap.size := by
  obtain ⟨A3, c3, A7, c7, hb, hg, hr3, hr7⟩ := h
  exact blk_lt hb
theorem IsS58.ge {w0 W : World} {g : Nat} {f0 : Bool} {f1 : Bool} {f2 : Int} {f3 : List Int} {f4 : Int} {f5 : Bool} {f6 : Int} {f7 : List Int} (h : IsS58 w0 W g f0 f1 f2 f3 f4 f5 f6 f7) : w0.heap.size ≤ g := by
  obtain ⟨A3, c3, A7, c7, hb, hg, hr3, hr7⟩ := h
  exact hg
theorem IsS58.ne_blk {w0 W : World} {g : Nat} {f0 : Bool} {f1 : Bool} {f2 : Int} {f3 : List Int} {f4 : Int} {f5 : Bool} {f6 : Int} {f7 : List Int} {a : Nat} {cs : Array Value} {t : TypeId} {fr : Nat × Nat} (h : IsS58 w0 W g f0 f1 f2 f3 f4 f5 f6 f7) (hb2 : W.heap[a]? = some (.cells cs t fr)) (ht : t ≠ 58) : g ≠ a := by
  obtain ⟨A3, c3, A7, c7, hb, hg, hr3, hr7⟩ := h
  rintro rfl
  rw [hb] at hb2
  injection hb2 with hb2
  injection hb2 with _ ht2
  exact ht ht2.symm
theorem IsS58.far {w0 W : World} {g : Nat} {f0 : Bool} {f1 : Bool} {f2 : Int} {f3 : List Int} {f4 : Int} {f5 : Bool} {f6 : Int} {f7 : List Int} {p : Addr} (h : IsS58 w0 W g f0 f1 f2 f3 f4 f5 f6 f7) (hne : g ≠ p.block) (u : Value) : IsS58 w0 (W.setCell p u) g f0 f1 f2 f3 f4 f5 f6 f7 := by
  obtain ⟨A3, c3, A7, c7, hb, hg, hr3, hr7⟩ := h
  exact ⟨A3, c3, A7, c7, blk_far hb hne u, hg, hr3, hr7⟩
theorem cellS58_0 {W : World} {g : Nat} {A3 : Option Addr} {c3 : Nat} {A7 : Option Addr} {c7 : Nat} {f0 : Bool} {f1 : Bool} {f2 : Int} {f3 : List Int} {f4 : Int} {f5 : Bool} {f6 : Int} {f7 : List Int} (h : W.heap[g]? = some (.cells #[.bool f0, .bool f1, .int .u64 f2, .slice A3 f3.length c3, .int .i64 f4, .bool f5, .int .u64 f6, .slice A7 f7.length c7] 58 (0, 0))) : W.cell? ⟨g, 0, none⟩ = some (.bool f0) := (blk_cell h 0).trans rfl
theorem IsS58.set_0 {w0 W : World} {g : Nat} {f0 : Bool} {f1 : Bool} {f2 : Int} {f3 : List Int} {f4 : Int} {f5 : Bool} {f6 : Int} {f7 : List Int} (h : IsS58 w0 W g f0 f1 f2 f3 f4 f5 f6 f7) (x : Bool) : IsS58 w0 (W.setCell ⟨g, 0, none⟩ (.bool x)) g x f1 f2 f3 f4 f5 f6 f7 := by
  obtain ⟨A3, c3, A7, c7, hb, hg, hr3, hr7⟩ := h
  exact ⟨A3, c3, A7, c7, by simpa using blk_set hb 0 (.bool x), hg, hr3, hr7⟩
theorem cellS58_1 {W : World} {g : Nat} {A3 : Option Addr} {c3 : Nat} {A7 : Option Addr} {c7 : Nat} {f0 : Bool} {f1 : Bool} {f2 : Int} {f3 : List Int} {f4 : Int} {f5 : Bool} {f6 : Int} {f7 : List Int} (h : W.heap[g]? = some (.cells #[.bool f0, .bool f1, .int .u64 f2, .slice A3 f3.length c3, .int .i64 f4, .bool f5, .int .u64 f6, .slice A7 f7.length c7] 58 (0, 0))) : W.cell? ⟨g, 1, none⟩ = some (.bool f1) := (blk_cell h 1).trans rfl
theorem IsS58.set_1 {w0 W : World} {g : Nat} {f0 : Bool} {f1 : Bool} {f2 : Int} {f3 : List Int} {f4 : Int} {f5 : Bool} {f6 : Int} {f7 : List Int} (h : IsS58 w0 W g f0 f1 f2 f3 f4 f5 f6 f7) (x : Bool) : IsS58 w0 (W.setCell ⟨g, 1, none⟩ (.bool x)) g f0 x f2 f3 f4 f5 f6 f7 := by
  obtain ⟨A3, c3, A7, c7, hb, hg, hr3, hr7⟩ := h
  exact ⟨A3, c3, A7, c7, by simpa using blk_set hb 1 (.bool x), hg, hr3, hr7⟩
theorem cellS58_2 {W : World} {g : Nat} {A3 : Option Addr} {c3 : Nat} {A7 : Option Addr} {c7 : Nat} {f0 : Bool} {f1 : Bool} {f2 : Int} {f3 : List Int} {f4 : Int} {f5 : Bool} {f6 : Int} {f7 : List Int} (h : W.heap[g]? = some (.cells #[.bool f0, .bool f1, .int .u64 f2, .slice A3 f3.length c3, .int .i64 f4, .bool f5, .int .u64 f6, .slice A7 f7.length c7] 58 (0, 0))) : W.cell? ⟨g, 2, none⟩ = some (.int .u64 f2) := (blk_cell h 2).trans rfl
theorem IsS58.set_2 {w0 W : World} {g : Nat} {f0 : Bool} {f1 : Bool} {f2 : Int} {f3 : List Int} {f4 : Int} {f5 : Bool} {f6 : Int} {f7 : List Int} (h : IsS58 w0 W g f0 f1 f2 f3 f4 f5 f6 f7) (x : Int) : IsS58 w0 (W.setCell ⟨g, 2, none⟩ (.int .u64 x)) g f0 f1 x f3 f4 f5 f6 f7 := by
  obtain ⟨A3, c3, A7, c7, hb, hg, hr3, hr7⟩ := h
  exact ⟨A3, c3, A7, c7, by simpa using blk_set hb 2 (.int .u64 x), hg, hr3, hr7⟩
theorem cellS58_3 {W : World} {g : Nat} {A3 : Option Addr} {c3 : Nat} {A7 : Option Addr} {c7 : Nat} {f0 : Bool} {f1 : Bool} {f2 : Int} {f3 : List Int} {f4 : Int} {f5 : Bool} {f6 : Int} {f7 : List Int} (h : W.heap[g]? = some (.cells #[.bool f0, .bool f1, .int .u64 f2, .slice A3 f3.length c3, .int .i64 f4, .bool f5, .int .u64 f6, .slice A7 f7.length c7] 58 (0, 0))) : W.cell? ⟨g, 3, none⟩ = some (.slice A3 f3.length c3) := (blk_cell h 3).trans rfl
theorem cellS58_4 {W : World} {g : Nat} {A3 : Option Addr} {c3 : Nat} {A7 : Option Addr} {c7 : Nat} {f0 : Bool} {f1 : Bool} {f2 : Int} {f3 : List Int} {f4 : Int} {f5 : Bool} {f6 : Int} {f7 : List Int} (h : W.heap[g]? = some (.cells #[.bool f0, .bool f1, .int .u64 f2, .slice A3 f3.length c3, .int .i64 f4, .bool f5, .int .u64 f6, .slice A7 f7.length c7] 58 (0, 0))) : W.cell? ⟨g, 4, none⟩ = some (.int .i64 f4) := (blk_cell h 4).trans rfl
theorem IsS58.set_4 {w0 W : World} {g : Nat} {f0 : Bool} {f1 : Bool} {f2 : Int} {f3 : List Int} {f4 : Int} {f5 : Bool} {f6 : Int} {f7 : List Int} (h : IsS58 w0 W g f0 f1 f2 f3 f4 f5 f6 f7) (x : Int) : IsS58 w0 (W.setCell ⟨g, 4, none⟩ (.int .i64 x)) g f0 f1 f2 f3 x f5 f6 f7 := by
  obtain ⟨A3, c3, A7, c7, hb, hg, hr3, hr7⟩ := h
  exact ⟨A3, c3, A7, c7, by simpa using blk_set hb 4 (.int .i64 x), hg, hr3, hr7⟩
theorem cellS58_5 {W : World} {g : Nat} {A3 : Option Addr} {c3 : Nat} {A7 : Option Addr} {c7 : Nat} {f0 : Bool} {f1 : Bool} {f2 : Int} {f3 : List Int} {f4 : Int} {f5 : Bool} {f6 : Int} {f7 : List Int} (h : W.heap[g]? = some (.cells #[.bool f0, .bool f1, .int .u64 f2, .slice A3 f3.length c3, .int .i64 f4, .bool f5, .int .u64 f6, .slice A7 f7.length c7] 58 (0, 0))) : W.cell? ⟨g, 5, none⟩ = some (.bool f5) := (blk_cell h 5).trans rfl
theorem IsS58.set_5 {w0 W : World} {g : Nat} {f0 : Bool} {f1 : Bool} {f2 : Int} {f3 : List Int} {f4 : Int} {f5 : Bool} {f6 : Int} {f7 : List Int} (h : IsS58 w0 W g f0 f1 f2 f3 f4 f5 f6 f7) (x : Bool) : IsS58 w0 (W.setCell ⟨g, 5, none⟩ (.bool x)) g f0 f1 f2 f3 f4 x f6 f7 := by
  obtain ⟨A3, c3, A7, c7, hb, hg, hr3, hr7⟩ := h
  exact ⟨A3, c3, A7, c7, by simpa using blk_set hb 5 (.bool x), hg, hr3, hr7⟩
theorem cellS58_6 {W : World} {g : Nat} {A3 : Option Addr} {c3 : Nat} {A7 : Option Addr} {c7 : Nat} {f0 : Bool} {f1 : Bool} {f2 : Int} {f3 : List Int} {f4 : Int} {f5 : Bool} {f6 : Int} {f7 : List Int} (h : W.heap[g]? = some (.cells #[.bool f0, .bool f1, .int .u64 f2, .slice A3 f3.length c3, .int .i64 f4, .bool f5, .int .u64 f6, .slice A7 f7.length c7] 58 (0, 0))) : W.cell? ⟨g, 6, none⟩ = some (.int .u64 f6) := (blk_cell h 6).trans rfl
theorem IsS58.set_6 {w0 W : World} {g : Nat} {f0 : Bool} {f1 : Bool} {f2 : Int} {f3 : List Int} {f4 : Int} {f5 : Bool} {f6 : Int} {f7 : List Int} (h : IsS58 w0 W g f0 f1 f2 f3 f4 f5 f6 f7) (x : Int) : IsS58 w0 (W.setCell ⟨g, 6, none⟩ (.int .u64 x)) g f0 f1 f2 f3 f4 f5 x f7 := by
  obtain ⟨A3, c3, A7, c7, hb, hg, hr3, hr7⟩ := h
  exact ⟨A3, c3, A7, c7, by simpa using blk_set hb 6 (.int .u64 x), hg, hr3, hr7⟩
theorem cellS58_7 {W : World} {g : Nat} {A3 : Option Addr} {c3 : Nat} {A7 : Option Addr} {c7 : Nat} {f0 : Bool} {f1 : Bool} {f2 : Int} {f3 : List Int} {f4 : Int} {f5 : Bool} {f6 : Int} {f7 : List Int} (h : W.heap[g]? = some (.cells #[.bool f0, .bool f1, .int .u64 f2, .slice A3 f3.length c3, .int .i64 f4, .bool f5, .int .u64 f6, .slice A7 f7.length c7] 58 (0, 0))) : W.cell? ⟨g, 7, none⟩ = some (.slice A7 f7.length c7) := (blk_cell h 7).trans rfl
theorem IsS58.new (w0 W : World) (A3 : Option Addr) (c3 : Nat) (A7 : Option Addr) (c7 : Nat) (f0 : Bool) (f1 : Bool) (f2 : Int) (f3 : List Int) (f4 : Int) (f5 : Bool) (f6 : Int) (f7 : List Int) (hB : Below w0.heap.size w0 W) (hr3 : Kd.C (Kd.int .u64) w0 A3 f3.length f3) (hr7 : Kd.C (Kd.int .u64) w0 A7 f7.length f7) : IsS58 w0 (W.alloc (.cells #[.bool f0, .bool f1, .int .u64 f2, .slice A3 f3.length c3, .int .i64 f4, .bool f5, .int .u64 f6, .slice A7 f7.length c7] 58)) W.heap.size f0 f1 f2 f3 f4 f5 f6 f7 := ⟨A3, c3, A7, c7, by simpa using heap_alloc_new W _, hB.size, hr3, hr7⟩

/-! ### haycroftref18_Work_Holds: function 26 -/
def haycroftref18_Work_Holds.f (s0_0 : Bool) (s0_1 : Bool) (s0_2 : Int) (s0_3 : List Int) (s0_4 : Int) (s0_5 : Bool) (s0_6 : Int) (s0_7 : List Int) : Option (Bool × Bool × Bool × Int × Int × Bool × Int) := if s0_0 = true then (some (false, s0_0, s0_1, s0_2, s0_4, s0_5, s0_6)) else (if s0_4 > 0 then (some (!s0_5, s0_0, s0_1, s0_2, s0_4, s0_5, s0_6)) else (some (false, s0_0, s0_1, s0_2, s0_4, s0_5, s0_6)))
set_option maxHeartbeats 8000000 in
set_option maxRecDepth 100000 in
theorem haycroftref18_Work_Holds.calls (g : Nat) (s0_0 : Bool) (s0_1 : Bool) (s0_2 : Int) (s0_3 : List Int) (s0_4 : Int) (s0_5 : Bool) (s0_6 : Int) (s0_7 : List Int) (r1 : Bool) (r2 : Bool) (r3 : Bool) (r4 : Int) (r5 : Int) (r6 : Bool) (r7 : Int) (w0 w : World) (hI : IsS58 w0 w g s0_0 s0_1 s0_2 s0_3 s0_4 s0_5 s0_6 s0_7) (hB : Below w0.heap.size w0 w) (h : haycroftref18_Work_Holds.f s0_0 s0_1 s0_2 s0_3 s0_4 s0_5 s0_6 s0_7 = some (r1, r2, r3, r4, r5, r6, r7)) :
    Calls Try.prog 26 #[.pointer (some ⟨g, 0, none⟩)] w fun e w' => e = .returned (.bool r1) ∧ IsS58 w0 w' g r2 r3 r4 s0_3 r5 r6 r7 s0_7 ∧ Below w0.heap.size w0 w' ∧ KeepBut w w' g none := by
  have HI0 := Aside0.mk hI
  have HK := Aside0.mk (KeepBut.refl w g none)
  have HL := Aside0.mk hB.size
  clear hI
  have HW0 := Aside0.mk hB.size
  have HB := Aside0.mk hB
  clear hB
  have H : (if s0_0 = true then (some (false, s0_0, s0_1, s0_2, s0_4, s0_5, s0_6)) else (if s0_4 > 0 then (some (!s0_5, s0_0, s0_1, s0_2, s0_4, s0_5, s0_6)) else (some (false, s0_0, s0_1, s0_2, s0_4, s0_5, s0_6)))) = some (r1, r2, r3, r4, r5, r6, r7) := h
  clear h
  by_cases c2 : s0_0 = true
  · subst c2
    have H1 : (some (false, true, s0_1, s0_2, s0_4, s0_5, s0_6)) = some (r1, r2, r3, r4, r5, r6, r7) := by rw [if_pos rfl] at H; exact H
    clear H
    have H := H1
    clear H1
    simp only [Option.some.injEq, Prod.mk.injEq] at H
    obtain ⟨rfl, rfl, rfl, rfl, rfl, rfl, rfl⟩ := H
    obtain ⟨ASz3_3, cSz3_3, ASz3_7, cSz3_7, HGz3, hgz3, HSz3_3, HSz3_7⟩ := HI0.out
    have hcz3_0 := cellS58_0 HGz3
    have hcz3_1 := cellS58_1 HGz3
    have hcz3_2 := cellS58_2 HGz3
    have hcz3_3 := cellS58_3 HGz3
    have hcz3_4 := cellS58_4 HGz3
    have hcz3_5 := cellS58_5 HGz3
    have hcz3_6 := cellS58_6 HGz3
    have hcz3_7 := cellS58_7 HGz3
    have hfz3_0 := blk_frozen HGz3 0
    have hfz3_1 := blk_frozen HGz3 1
    have hfz3_2 := blk_frozen HGz3 2
    have hfz3_4 := blk_frozen HGz3 4
    have hfz3_5 := blk_frozen HGz3 5
    have hfz3_6 := blk_frozen HGz3 6
    clear HGz3 hgz3
    go_enter Try.func26, Try.ntmps26
    go_wp2
    go_ret
    exact ⟨by first | rfl | (simp [errW_none, errW_some] <;> rfl) | (simp [*, errW_none, errW_some] <;> rfl), by repeat (first | (with_reducible first | exact HI0.out | apply IsS58.alloc | apply IsS58.drewN | apply IsS58.drew | apply IsS58.set_0 | apply IsS58.set_1 | apply IsS58.set_2 | apply IsS58.set_4 | apply IsS58.set_5 | apply IsS58.set_6) | exact HI0.out), by repeat (first | (with_reducible first | exact HB.out | apply below_alloc | apply pw_below_drewN | apply below_drew1 | refine below_set ?_ (IsS58.ge HI0.out)) | exact HB.out), by repeat (first | (with_reducible first | exact HK.out | apply KeepBut.set_ | apply keep_drewN | apply keep_drew | apply keep_alloc) | exact HK.out)⟩
  · replace c2 := Bool.eq_false_iff.mpr c2
    subst c2
    have H1 : (if s0_4 > 0 then (some (!s0_5, false, s0_1, s0_2, s0_4, s0_5, s0_6)) else (some (false, false, s0_1, s0_2, s0_4, s0_5, s0_6))) = some (r1, r2, r3, r4, r5, r6, r7) := by rw [if_neg (show ¬ (false = true) by decide)] at H; exact H
    clear H
    have H := H1
    clear H1
    by_cases c4 : s0_4 > 0
    · rw [if_pos c4] at H
      have c4b0 : decide (0 < s0_4) = true := decide_eq_true c4
      clear c4
      simp only [Option.some.injEq, Prod.mk.injEq] at H
      obtain ⟨rfl, rfl, rfl, rfl, rfl, rfl, rfl⟩ := H
      obtain ⟨ASz5_3, cSz5_3, ASz5_7, cSz5_7, HGz5, hgz5, HSz5_3, HSz5_7⟩ := HI0.out
      have hcz5_0 := cellS58_0 HGz5
      have hcz5_1 := cellS58_1 HGz5
      have hcz5_2 := cellS58_2 HGz5
      have hcz5_3 := cellS58_3 HGz5
      have hcz5_4 := cellS58_4 HGz5
      have hcz5_5 := cellS58_5 HGz5
      have hcz5_6 := cellS58_6 HGz5
      have hcz5_7 := cellS58_7 HGz5
      have hfz5_0 := blk_frozen HGz5 0
      have hfz5_1 := blk_frozen HGz5 1
      have hfz5_2 := blk_frozen HGz5 2
      have hfz5_4 := blk_frozen HGz5 4
      have hfz5_5 := blk_frozen HGz5 5
      have hfz5_6 := blk_frozen HGz5 6
      clear HGz5 hgz5
      go_enter Try.func26, Try.ntmps26
      go_wp2
      go_ret
      exact ⟨by first | rfl | (simp [errW_none, errW_some] <;> rfl) | (simp [*, errW_none, errW_some] <;> rfl), by repeat (first | (with_reducible first | exact HI0.out | apply IsS58.alloc | apply IsS58.drewN | apply IsS58.drew | apply IsS58.set_0 | apply IsS58.set_1 | apply IsS58.set_2 | apply IsS58.set_4 | apply IsS58.set_5 | apply IsS58.set_6) | exact HI0.out), by repeat (first | (with_reducible first | exact HB.out | apply below_alloc | apply pw_below_drewN | apply below_drew1 | refine below_set ?_ (IsS58.ge HI0.out)) | exact HB.out), by repeat (first | (with_reducible first | exact HK.out | apply KeepBut.set_ | apply keep_drewN | apply keep_drew | apply keep_alloc) | exact HK.out)⟩
    · rw [if_neg c4] at H
      have c4b0 : decide (0 < s0_4) = false := decide_eq_false c4
      clear c4
      simp only [Option.some.injEq, Prod.mk.injEq] at H
      obtain ⟨rfl, rfl, rfl, rfl, rfl, rfl, rfl⟩ := H
      obtain ⟨ASz6_3, cSz6_3, ASz6_7, cSz6_7, HGz6, hgz6, HSz6_3, HSz6_7⟩ := HI0.out
      have hcz6_0 := cellS58_0 HGz6
      have hcz6_1 := cellS58_1 HGz6
      have hcz6_2 := cellS58_2 HGz6
      have hcz6_3 := cellS58_3 HGz6
      have hcz6_4 := cellS58_4 HGz6
      have hcz6_5 := cellS58_5 HGz6
      have hcz6_6 := cellS58_6 HGz6
      have hcz6_7 := cellS58_7 HGz6
      have hfz6_0 := blk_frozen HGz6 0
      have hfz6_1 := blk_frozen HGz6 1
      have hfz6_2 := blk_frozen HGz6 2
      have hfz6_4 := blk_frozen HGz6 4
      have hfz6_5 := blk_frozen HGz6 5
      have hfz6_6 := blk_frozen HGz6 6
      clear HGz6 hgz6
      go_enter Try.func26, Try.ntmps26
      go_wp2
      go_ret
      exact ⟨by first | rfl | (simp [errW_none, errW_some] <;> rfl) | (simp [*, errW_none, errW_some] <;> rfl), by repeat (first | (with_reducible first | exact HI0.out | apply IsS58.alloc | apply IsS58.drewN | apply IsS58.drew | apply IsS58.set_0 | apply IsS58.set_1 | apply IsS58.set_2 | apply IsS58.set_4 | apply IsS58.set_5 | apply IsS58.set_6) | exact HI0.out), by repeat (first | (with_reducible first | exact HB.out | apply below_alloc | apply pw_below_drewN | apply below_drew1 | refine below_set ?_ (IsS58.ge HI0.out)) | exact HB.out), by repeat (first | (with_reducible first | exact HK.out | apply KeepBut.set_ | apply keep_drewN | apply keep_drew | apply keep_alloc) | exact HK.out)⟩

-- NOT PRINTED: function 5 (haycroftlaw18_InplacePlays)

end Go.Proofs.Ytlgebknbfchnlaa.PInplacePlays
