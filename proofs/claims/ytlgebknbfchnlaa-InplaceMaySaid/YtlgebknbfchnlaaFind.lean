/- Contracts of inplace.find. -/
import Derived.Test.YtlgebknbfchnlaaReader2
import Derived.Test.YtlgebknbfchnlaaWordsP
namespace Go.Proofs.Ytlgebknbfchnlaa
open Go Go.RowKit Go.Hay Go.Proofs.YtlgebknbfchnlaaW.PrintWords

/-- May a record of such lengths stand at such a place? -/
def mayB (bits : Nat) (a key value : Int) : Bool := decide (1 ≤ key ∧ recSize key value ≠ 0 ∧ recSize key value ≤ roomOf bits a)
theorem mayB_eq (bits : Nat) (a key value : Int) : Hid (mayB bits a key value = decide (1 ≤ key ∧ recSize key value ≠ 0 ∧ recSize key value ≤ roomOf bits a)) := rfl
theorem recSize_bd (key value : Int) : 0 ≤ recSize key value ∧ recSize key value ≤ 100 := by unfold recSize; split <;> omega

/-- A spot's cells. -/
def spotC (x : Buf) (a key value : Int) : Array Value := #[.pointer (some ⟨x.b, 0, none⟩), .int .u64 (a + 1), .int .u64 (a + (3 + (key + 7) / 8)), .int .i64 (recSize key value - (3 + (key + 7) / 8))]
def spotZ : Array Value := #[.pointer none, .int .u64 0, .int .u64 0, .int .i64 0]

set_option maxRecDepth 100000 in
set_option maxHeartbeats 1000000 in
theorem find_no (x : Buf) (a key value : Int) (w : World) (hx : BufAt w x) (h0 : 0 ≤ a) (ha : U64 a) (hm : mayB x.bits a key value = false) :
    Calls Try.prog 48 #[.pointer (some ⟨x.b, 0, none⟩), .int .u64 a, .int .i64 key, .int .i64 value] w fun e w' => e = .returned (.tuple #[.agg spotZ, .int .i64 1]) ∧ Keep [] w w' := by
  have HS := Hid.mk (fun W => rsize_ok key value W)
  have hb := recSize_bd key value
  have HB := Hid.mk (fun W (hW : BufAt W x) => Calls.of_eq (bbits_ok x W hW))
  have HF := Hid.mk (fun W => Calls.of_drawn (pfits_ok x.bits a (recSize key value) W hx.bits h0 _ rfl))
  have HM := mayB_eq x.bits a key value
  rw [hm] at HM
  generalize recSize key value = s at *
  have hxb : x.b < w.heap.size := hx.buf.lt
  have HX := Hid.mk (fun (W : World) (k : Keep [] w W) => hx.keep k (by simp))
  have k0 : Keep [] w (w.alloc (.cells spotZ 106 (0, 0))) := (Keep.refl _ _).alloc _
  have b0 := Blk.new w 106 spotZ
  have HE : ∀ (W : World), Keep [] w W → Blk W w.heap.size 106 spotZ → Keep [] w ((((W.setCell ⟨w.heap.size, 0, none⟩ (.pointer none)).setCell ⟨w.heap.size, 1, none⟩ (.int .u64 0)).setCell ⟨w.heap.size, 2, none⟩ (.int .u64 0)).setCell ⟨w.heap.size, 3, none⟩ (.int .i64 0)) ∧ Blk ((((W.setCell ⟨w.heap.size, 0, none⟩ (.pointer none)).setCell ⟨w.heap.size, 1, none⟩ (.int .u64 0)).setCell ⟨w.heap.size, 2, none⟩ (.int .u64 0)).setCell ⟨w.heap.size, 3, none⟩ (.int .i64 0)) w.heap.size 106 spotZ := by
    intro W k b
    refine ⟨(((k.set (.inr (Nat.le_refl _)) _ _).set (.inr (Nat.le_refl _)) _ _).set (.inr (Nat.le_refl _)) _ _).set (.inr (Nat.le_refl _)) _ _, ?_⟩
    simpa [spotZ] using (((b.set 0 (.pointer none)).set 1 (.int .u64 0)).set 2 (.int .u64 0)).set 3 (.int .i64 0)
  have HE := Hid.mk HE
  have k0 := Hid.mk k0
  have b0 := Hid.mk b0
  by_cases h1 : key < 1
  · go_enter Try.func48, Try.ntmps48
    go_wp2_with ((go_at_call 79; refine (HS.out _).mono ?_; rintro e w1 ⟨rfl, k1⟩; have k2 := k0.out.trans k1 (by simp); have b2 := b0.out.keep k1 (by simp); have c2 := b2.cell; have f2 := b2.froz; unfold spotZ at c2))
    refine bodyPost_ret (results_ct rfl _ _ w.heap.size 106 spotZ (0, 0) _ (by rfl) (HE.out _ k2 b2).2 Try.underlying106 rfl (by rfl)) rfl ?_
    exact ⟨rfl, (HE.out _ k2 b2).1⟩
  · by_cases h2 : s = 0
    · subst h2
      go_enter Try.func48, Try.ntmps48
      go_wp2_with ((go_at_call 79; refine (HS.out _).mono ?_; rintro e w1 ⟨rfl, k1⟩; have k2 := k0.out.trans k1 (by simp); have b2 := b0.out.keep k1 (by simp); have c2 := b2.cell; have f2 := b2.froz; unfold spotZ at c2))
      refine bodyPost_ret (results_ct rfl _ _ w.heap.size 106 spotZ (0, 0) _ (by rfl) (HE.out _ k2 b2).2 Try.underlying106 rfl (by rfl)) rfl ?_
      exact ⟨rfl, (HE.out _ k2 b2).1⟩
    · have hd : decide (1 ≤ s ∧ s ≤ roomOf x.bits a) = false := by
        have := HM.out
        simp at this ⊢
        intro h3
        exact this (by omega) h2
      rw [hd] at HF
      have hd3 : (s == 0) = false := by simpa using h2
      go_enter Try.func48, Try.ntmps48
      go_wp2_with (first
        | (go_at_call 79; refine (HS.out _).mono ?_; rintro e w1 ⟨rfl, k1⟩; have k2 := k0.out.trans k1 (by simp); have b2 := b0.out.keep k1 (by simp); have c2 := b2.cell; have f2 := b2.froz; unfold spotZ at c2)
        | (go_at_call 38; refine (HB.out _ (HX.out _ k2)).mono ?_; rintro e w' ⟨rfl, rfl⟩)
        | (go_at_call 80; refine (HF.out _).mono ?_; rintro e w' ⟨rfl, m, rfl⟩))
      refine bodyPost_ret (results_ct rfl _ _ w.heap.size 106 spotZ (0, 0) _ (by rfl) (HE.out _ (k2.drewN m) (b2.drewN m)).2 Try.underlying106 rfl (by rfl)) rfl ?_
      exact ⟨rfl, (HE.out _ (k2.drewN m) (b2.drewN m)).1⟩

set_option maxRecDepth 100000 in
set_option maxHeartbeats 1000000 in
theorem find_ok (x : Buf) (a key value : Int) (w : World) (hx : BufAt w x) (h0 : 0 ≤ a) (ha : U64 a) (hm : mayB x.bits a key value = true) :
    Calls Try.prog 48 #[.pointer (some ⟨x.b, 0, none⟩), .int .u64 a, .int .i64 key, .int .i64 value] w fun e w' => e = .returned (.tuple #[.agg (spotC x a key value), .int .i64 0]) ∧ Keep [] w w' := by
  have HS := Hid.mk (fun W => rsize_ok key value W)
  have hb := recSize_bd key value
  have HB := Hid.mk (fun W (hW : BufAt W x) => Calls.of_eq (bbits_ok x W hW))
  have HF := Hid.mk (fun W => Calls.of_drawn (pfits_ok x.bits a (recSize key value) W hx.bits h0 _ rfl))
  have hm2 : 1 ≤ key ∧ recSize key value ≠ 0 ∧ recSize key value ≤ roomOf x.bits a := by have := (mayB_eq x.bits a key value).out; rw [hm] at this; simpa using this
  have ha9 : a ≤ 281474976710655 := by
    have h5 := hm2.2.2
    unfold roomOf at h5
    split at h5
    · assumption
    · omega
  have hk64 : key ≤ 64 ∧ 3 + (key + 7) / 8 ≤ recSize key value := by
    have := hm2.2.1
    unfold recSize at this ⊢
    split at this
    · rename_i hq; rw [if_pos hq]; omega
    · omega
  have HV := Hid.mk (fun W => rvalueAt_ok key W (by omega))
  have HC : Hid (spotC x a key value = #[.pointer (some ⟨x.b, 0, none⟩), .int .u64 (a + 1), .int .u64 (a + (3 + (key + 7) / 8)), .int .i64 (recSize key value - (3 + (key + 7) / 8))]) := rfl
  generalize spotC x a key value = sc at *
  obtain ⟨g1, g2, g3⟩ := hm2
  obtain ⟨q1, q2⟩ := hk64
  have hd : decide (1 ≤ recSize key value ∧ recSize key value ≤ roomOf x.bits a) = true := by simp; omega
  rw [hd] at HF
  clear hd g3 hm
  have hv : 0 ≤ (key + 7) / 8 ∧ (key + 7) / 8 ≤ 10 := by omega
  generalize (key + 7) / 8 = v at *
  generalize recSize key value = s at *
  have HX := Hid.mk (fun (W : World) (k : Keep [] w W) => hx.keep k (by simp))
  have k0 : Keep [] w (w.alloc (.cells spotZ 106 (0, 0))) := (Keep.refl _ _).alloc _
  have b0 := Blk.new w 106 spotZ
  have HE : ∀ (W : World), Keep [] w W → Blk W w.heap.size 106 spotZ → Keep [] w ((((W.setCell ⟨w.heap.size, 0, none⟩ (.pointer (some ⟨x.b, 0, none⟩))).setCell ⟨w.heap.size, 1, none⟩ (.int .u64 (a + 1))).setCell ⟨w.heap.size, 2, none⟩ (.int .u64 (a + (3 + v)))).setCell ⟨w.heap.size, 3, none⟩ (.int .i64 (s - (3 + v)))) ∧ Blk ((((W.setCell ⟨w.heap.size, 0, none⟩ (.pointer (some ⟨x.b, 0, none⟩))).setCell ⟨w.heap.size, 1, none⟩ (.int .u64 (a + 1))).setCell ⟨w.heap.size, 2, none⟩ (.int .u64 (a + (3 + v)))).setCell ⟨w.heap.size, 3, none⟩ (.int .i64 (s - (3 + v)))) w.heap.size 106 sc := by
    intro W k b
    rw [HC.out]
    refine ⟨(((k.set (.inr (Nat.le_refl _)) _ _).set (.inr (Nat.le_refl _)) _ _).set (.inr (Nat.le_refl _)) _ _).set (.inr (Nat.le_refl _)) _ _, ?_⟩
    simpa [spotZ] using (((b.set 0 (.pointer (some ⟨x.b, 0, none⟩))).set 1 (.int .u64 (a + 1))).set 2 (.int .u64 (a + (3 + v)))).set 3 (.int .i64 (s - (3 + v)))
  have HE := Hid.mk HE
  have k0 := Hid.mk k0
  have b0 := Hid.mk b0
  obtain ⟨hv0, hv1⟩ := hv
  obtain ⟨hb0, hb1⟩ := hb
  have hd3 : (s == 0) = false := by simpa using g2
  have w1' : IntKind.u64.wrap (a + 1) = a + 1 := wrap_u64 ⟨by omega, by omega⟩
  have w2' : IntKind.u64.wrap (3 + v) = 3 + v := wrap_u64 ⟨by omega, by omega⟩
  go_enter Try.func48, Try.ntmps48
  go_wp2_with (first
        | (go_at_call 79; refine (HS.out _).mono ?_; rintro e w1 ⟨rfl, k1⟩; have k2 := k0.out.trans k1 (by simp); have b2 := b0.out.keep k1 (by simp))
        | (go_at_call 38; refine (HB.out _ (HX.out _ k2)).mono ?_; rintro e w' ⟨rfl, rfl⟩)
        | (go_at_call 80; refine (HF.out _).mono ?_; rintro e w' ⟨rfl, m, rfl⟩)
        | (go_at_call 81; refine (HV.out _).mono ?_; rintro e w3 ⟨rfl, k3⟩; have k4 := (k2.drewN m).trans k3 (by simp); have b4 := (b2.drewN m).keep k3 (by simp); have c4 := b4.cell; have f4 := b4.froz; unfold spotZ at c4))
  refine bodyPost_ret (results_ct rfl _ _ w.heap.size 106 sc (0, 0) _ (by rfl) (HE.out _ k4 b4).2 Try.underlying106 rfl (by rw [HC.out]; rfl)) rfl ?_
  exact ⟨rfl, (HE.out _ k4 b4).1⟩
end Go.Proofs.Ytlgebknbfchnlaa
