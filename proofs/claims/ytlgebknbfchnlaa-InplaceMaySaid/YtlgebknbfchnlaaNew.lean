/- Contracts of inplace.NewWriter, NewAdder, NewReader, record.Value. -/
import Derived.Test.YtlgebknbfchnlaaFind
namespace Go.Proofs.Ytlgebknbfchnlaa
open Go Go.RowKit Go.Hay Go.Proofs.YtlgebknbfchnlaaW.PrintWords

theorem fwords_ok (s : ByteArray) (w : World) (hs : s.size ≤ 1000000) :
    Calls Try.prog 49 #[.string s] w fun e w' => ∃ v, e = .returned v ∧ Own .u64 22 w' w.heap.size v (wordsL s) ∧ Keep [] w w' :=
  (PInplacePlays.field_Words.calls _ s _ w (fwords_f s hs)).mono fun _ _ ⟨v, h1, h2, h3⟩ => ⟨v, h1, h2, Keep.of_below h3 []⟩

theorem spot_nw (a key value : Int) (bits : Nat) (hm : mayB bits a key value = true) (hv : 0 ≤ value) : recSize key value - (3 + (key + 7) / 8) = ((value.toNat + 7) / 8 : Nat) ∧ (1 ≤ key ∧ key ≤ 64) ∧ value ≤ 128 ∧ a ≤ 281474976710655 := by
  have := (mayB_eq bits a key value).out
  rw [hm] at this
  simp only [eq_comm (a := true), decide_eq_true_eq] at this
  obtain ⟨h1, h2, h3⟩ := this
  unfold roomOf at h3
  unfold recSize at *
  split at h2
  · rw [if_pos (by assumption)] at h3 ⊢
    split at h3
    · refine ⟨by omega, by omega, by omega, by omega⟩
    · omega
  · omega

/-- The writer that is new. -/
def Wr.fresh (p : Nat) (v : Value) (l : List Int) : Wr := ⟨p, 0, false, 0, v, l, 0, 0⟩

theorem wordsL_u64 (s : ByteArray) : ∀ x ∈ wordsL s, U64 x := by
  intro x hx
  simp [wordsL] at hx
  obtain ⟨j, _, rfl⟩ := hx
  exact wordAt_u64 s j

set_option maxRecDepth 100000 in
theorem newWriter_no (x : Buf) (a key : Int) (s : ByteArray) (w : World) (hx : BufAt w x) (h0 : 0 ≤ a) (ha : U64 a) (hs : s.size ≤ 1000000) (hm : mayB x.bits a key s.size = false) :
    Calls Try.prog 11 #[.pointer (some ⟨x.b, 0, none⟩), .int .u64 a, .int .i64 key, .string s] w fun e w' => e = .returned (.tuple #[.pointer none, .int .i64 1]) ∧ Keep [] w w' := by
  have HF := Hid.mk (find_no x a key s.size w hx h0 ha hm)
  unfold spotZ at HF
  go_enter Try.func11, Try.ntmps11
  go_wp2_with ((go_at_call 48; refine HF.out.mono ?_; rintro e w' ⟨rfl, hk⟩))
  go_ret2
  exact ⟨rfl, hk.alloc _⟩

set_option maxRecDepth 100000 in
set_option maxHeartbeats 1000000 in
theorem newWriter_ok (x : Buf) (a key : Int) (s : ByteArray) (w : World) (hx : BufAt w x) (h0 : 0 ≤ a) (ha : U64 a) (hs : s.size ≤ 1000000) (hm : mayB x.bits a key s.size = true) :
    Calls Try.prog 11 #[.pointer (some ⟨x.b, 0, none⟩), .int .u64 a, .int .i64 key, .string s] w fun e w' =>
      ∃ p v, e = .returned (.tuple #[.pointer (some ⟨p, 0, none⟩), .int .i64 0]) ∧ WrAt w' x.b (a + 1) (a + (3 + (key + 7) / 8)) (wordsN s) (Wr.fresh p v (wordsL s)) ∧ (∀ g ∈ (Wr.fresh p v (wordsL s)).fp, w.heap.size ≤ g) ∧ Keep [] w w' := by
  have HF := find_ok x a key s.size w hx h0 ha hm
  obtain ⟨hn, hk2, hv2, ha2⟩ := spot_nw a key s.size x.bits hm (by omega)
  unfold spotC at HF
  rw [hn] at HF
  have e : (((s.size : Nat) : Int).toNat + 7) / 8 = wordsN s := by simp [wordsN]
  rw [e] at HF
  replace HF := Hid.mk HF
  have HW := Hid.mk (fun W => fwords_ok s W hs)
  have HU := Hid.mk (wordsL_u64 s)
  generalize wordsN s = nw at *
  generalize a + (3 + (key + 7) / 8) = va at *
  generalize a + 1 = lk at *
  clear hm hn e
  go_enter Try.func11, Try.ntmps11
  go_wp2_with ((go_at_call 48; refine HF.out.mono ?_; rintro e w1 ⟨rfl, hk⟩))
  have hb := Blk.new w1 106 #[.pointer (some ⟨x.b, 0, none⟩), .int .u64 lk, .int .u64 va, .int .i64 nw]
  have hk3 : Keep [] w (w1.alloc (.cells #[.pointer (some ⟨x.b, 0, none⟩), .int .u64 lk, .int .u64 va, .int .i64 nw] 106 (0, 0))) := hk.alloc _
  generalize w1.alloc (.cells #[.pointer (some ⟨x.b, 0, none⟩), .int .u64 lk, .int .u64 va, .int .i64 nw] 106 (0, 0)) = W at hb hk3 ⊢
  generalize w1.heap.size = g at *
  have hc := hb.cell
  have hb1 := hb.drewN 1
  go_region_held3 (fun w' => (w'.cell? ⟨g, 0, none⟩ = some (.pointer (some ⟨x.b, 0, none⟩)) ∧ w'.cell? ⟨g, 1, none⟩ = some (.int .u64 lk)) ∧ w'.cell? ⟨g, 2, none⟩ = some (.int .u64 va) ∧ w'.cell? ⟨g, 3, none⟩ = some (.int .i64 nw)) (first | exact ⟨⟨hc 0, hc 1⟩, hc 2, hc 3⟩ | exact ⟨⟨hc2 0, hc2 1⟩, hc2 2, hc2 3⟩ | go_keep) ((go_at_call 49; refine (HW.out W.drew).mono ?_; rintro e w' ⟨v, rfl, hv, hk2⟩; obtain ⟨A, c, rfl, _⟩ := hv.reads; have hc2 := (hb1.keep hk2 (by simp)).cell))
  all_goals
    have hk4 := hk3.drew.trans hk2 (by simp)
    go_wp2_with fail
    go_ret2
    have hvk : Keep [] w' (w'.alloc (.cells #[.pointer (some ⟨x.b, 0, none⟩), .int .u64 lk, .int .u64 va, .int .i64 nw, .int .i64 0, .bool false, .int .u64 0, .slice A (wordsL s).length c, .int .i64 0, .int .u64 0] 111 (0, 0))) := (Keep.refl _ _).alloc _
    refine ⟨w'.heap.size, _, rfl, ⟨?_, (hv.base0).keepB hvk (by simp), HU.out, (by unfold U64; simp [Wr.fresh]), by simp [Wr.fresh], by simp [Wr.fresh]⟩, ?_, hk4.alloc _⟩
    · exact Blk.new w' 111 #[.pointer (some ⟨x.b, 0, none⟩), .int .u64 lk, .int .u64 va, .int .i64 nw, .int .i64 0, .bool false, .int .u64 0, .slice A (wordsL s).length c, .int .i64 0, .int .u64 0]
    · intro b hb
      simp only [Wr.fp, Wr.fresh, List.mem_cons, Option.mem_toList] at hb
      rcases hb with rfl | hb
      · exact hk4.size
      · exact Nat.le_trans hk3.size (hv.lt hb).1

/-! ### NewReader -/
def Rd.fresh (p n : Nat) : Rd := ⟨p, 0, n, .slice none 0 0, [], 0, ⟨#[]⟩⟩

set_option maxRecDepth 100000 in
theorem newReader_no (x : Buf) (a key n : Int) (w : World) (hx : BufAt w x) (h0 : 0 ≤ a) (ha : U64 a) (hm : mayB x.bits a key n = false) :
    Calls Try.prog 12 #[.pointer (some ⟨x.b, 0, none⟩), .int .u64 a, .int .i64 key, .int .i64 n] w fun e w' => e = .returned (.tuple #[.pointer none, .int .i64 1]) ∧ Keep [] w w' := by
  have HF := Hid.mk (find_no x a key n w hx h0 ha hm)
  unfold spotZ at HF
  go_enter Try.func12, Try.ntmps12
  go_wp2_with ((go_at_call 48; refine HF.out.mono ?_; rintro e w' ⟨rfl, hk⟩))
  go_ret2
  exact ⟨rfl, hk.alloc _⟩

set_option maxRecDepth 100000 in
theorem newReader_ok (x : Buf) (a key : Int) (n : Nat) (w : World) (hx : BufAt w x) (h0 : 0 ≤ a) (ha : U64 a) (hm : mayB x.bits a key n = true) :
    Calls Try.prog 12 #[.pointer (some ⟨x.b, 0, none⟩), .int .u64 a, .int .i64 key, .int .i64 n] w fun e w' =>
      ∃ p, e = .returned (.tuple #[.pointer (some ⟨p, 0, none⟩), .int .i64 0]) ∧ RdAt w' x.b (a + 1) (a + (3 + (key + 7) / 8)) ((n + 7) / 8) (Rd.fresh p n) ∧ w.heap.size ≤ p ∧ Keep [] w w' := by
  have HF := find_ok x a key n w hx h0 ha hm
  obtain ⟨hn, hk2, hv2, ha2⟩ := spot_nw a key n x.bits hm (by omega)
  unfold spotC at HF
  rw [hn] at HF
  rw [show (((n : Nat) : Int).toNat + 7) / 8 = (n + 7) / 8 by omega] at HF
  replace HF := Hid.mk HF
  generalize (n + 7) / 8 = nw at *
  generalize a + (3 + (key + 7) / 8) = va at *
  generalize a + 1 = lk at *
  clear hm hn
  go_enter Try.func12, Try.ntmps12
  go_wp2_with ((go_at_call 48; refine HF.out.mono ?_; rintro e w1 ⟨rfl, hk⟩))
  go_ret2
  refine ⟨_, rfl, ⟨by simpa [Rd.fresh] using Blk.new (w1.alloc (.cells #[.pointer (some ⟨x.b, 0, none⟩), .int .u64 lk, .int .u64 va, .int .i64 nw] 106 (0, 0))) 113 #[.pointer (some ⟨x.b, 0, none⟩), .int .u64 lk, .int .u64 va, .int .i64 nw, .int .i64 0, .int .i64 n, .slice none 0 0, .int .u64 0, .string ⟨#[]⟩], Own.nil _ _ _ _, by simp [Rd.fresh], by simp [Rd.fresh], by simp [Rd.fresh]; omega, by simp [Rd.fresh]⟩, ?_, (hk.alloc _).alloc _⟩
  have := hk.size
  simp; omega

set_option maxRecDepth 100000 in
theorem find_nil (a key value : Int) (w : World) :
    Calls Try.prog 48 #[.pointer none, .int .u64 a, .int .i64 key, .int .i64 value] w fun e w' => e = .returned (.tuple #[.agg spotZ, .int .i64 2]) ∧ Keep [] w w' := by
  have HS := Hid.mk (fun W => rsize_ok key value W)
  generalize recSize key value = s at *
  have k0 : Keep [] w (w.alloc (.cells spotZ 106 (0, 0))) := (Keep.refl _ _).alloc _
  have b0 := Blk.new w 106 spotZ
  have HE : ∀ (W : World), Keep [] w W → Blk W w.heap.size 106 spotZ → Keep [] w ((((W.setCell ⟨w.heap.size, 0, none⟩ (.pointer none)).setCell ⟨w.heap.size, 1, none⟩ (.int .u64 0)).setCell ⟨w.heap.size, 2, none⟩ (.int .u64 0)).setCell ⟨w.heap.size, 3, none⟩ (.int .i64 0)) ∧ Blk ((((W.setCell ⟨w.heap.size, 0, none⟩ (.pointer none)).setCell ⟨w.heap.size, 1, none⟩ (.int .u64 0)).setCell ⟨w.heap.size, 2, none⟩ (.int .u64 0)).setCell ⟨w.heap.size, 3, none⟩ (.int .i64 0)) w.heap.size 106 spotZ := by
    intro W k b
    refine ⟨(((k.set (.inr (Nat.le_refl _)) _ _).set (.inr (Nat.le_refl _)) _ _).set (.inr (Nat.le_refl _)) _ _).set (.inr (Nat.le_refl _)) _ _, ?_⟩
    simpa [spotZ] using (((b.set 0 (.pointer none)).set 1 (.int .u64 0)).set 2 (.int .u64 0)).set 3 (.int .i64 0)
  have HE := Hid.mk HE
  have k0 := Hid.mk k0
  have b0 := Hid.mk b0
  go_enter Try.func48, Try.ntmps48
  go_wp2_with ((go_at_call 79; refine (HS.out _).mono ?_; rintro e w1 ⟨rfl, k1⟩; have k2 := k0.out.trans k1 (by simp); have b2 := b0.out.keep k1 (by simp); have c2 := b2.cell; have f2 := b2.froz; unfold spotZ at c2))
  refine bodyPost_ret (results_ct rfl _ _ w.heap.size 106 spotZ (0, 0) _ (by rfl) (HE.out _ k2 b2).2 Try.underlying106 rfl (by rfl)) rfl ?_
  exact ⟨rfl, (HE.out _ k2 b2).1⟩

set_option maxRecDepth 100000 in
theorem newReader_nil (a key n : Int) (w : World) :
    Calls Try.prog 12 #[.pointer none, .int .u64 a, .int .i64 key, .int .i64 n] w fun e w' => e = .returned (.tuple #[.pointer none, .int .i64 2]) ∧ Keep [] w w' := by
  have HF := Hid.mk (find_nil a key n w)
  unfold spotZ at HF
  go_enter Try.func12, Try.ntmps12
  go_wp2_with ((go_at_call 48; refine HF.out.mono ?_; rintro e w' ⟨rfl, hk⟩))
  go_ret2
  exact ⟨rfl, hk.alloc _⟩

/-! ### record.Value, NewAdder -/
theorem bytesL_len (l : List Int) (n : Nat) : (bytesL l n).length = n := by simp [bytesL]

set_option maxRecDepth 100000 in
theorem rval_ok (n : Int) (w : World) (hn : U64 n) :
    Calls Try.prog 50 #[.int .u64 n] w fun e w' => e = .returned (.string (strOfNums (bytesL [n] 8))) ∧ Keep [] w w' := by
  have hC := C_of_blk (xs := [n]) (Blk.new w 22 #[.int .u64 n]) (by simp)
  have HB := Hid.mk (fbytes_ok (some ⟨w.heap.size, 0, none⟩) 1 8 [n] _ hC (by simp) (by simp) (by intro i h1 h2; simp at h2; omega) (by simpa using hn))
  simp only [List.length_singleton] at HB
  generalize strOfNums (bytesL [n] 8) = s at *
  clear hC
  go_enter Try.func50, Try.ntmps50
  go_wp2_with ((go_at_call 82; refine HB.out.mono ?_; rintro e w' ⟨rfl, hk⟩))
  go_ret
  exact ⟨rfl, ((Keep.refl _ _).alloc _).trans hk (by simp)⟩

/-- The adder that is new. -/
def Wr.adder (p : Nat) (v : Value) (l : List Int) (n : Int) : Wr := ⟨p, 0, true, n, v, l, 0, 0⟩
theorem WrAt.adder {w : World} {b : Nat} {lk va : Int} {nw p : Nat} {v : Value} {l : List Int} (h : WrAt w b lk va nw (Wr.fresh p v l)) {n : Int} (hn : U64 n) :
    WrAt ((w.setCell ⟨p, 5, none⟩ (.bool true)).setCell ⟨p, 6, none⟩ (.int .u64 n)) b lk va nw (Wr.adder p v l n) ∧ Keep [p] w ((w.setCell ⟨p, 5, none⟩ (.bool true)).setCell ⟨p, 6, none⟩ (.int .u64 n)) := by
  have hk : Keep [p] w ((w.setCell ⟨p, 5, none⟩ (.bool true)).setCell ⟨p, 6, none⟩ (.int .u64 n)) := ((Keep.refl _ _).set (by simp) _ _).set (by simp) _ _
  refine ⟨⟨?_, h.row.keepB hk (fun g hg => by have := h.ne hg; simp [Wr.fresh] at this; simpa using fun e => this e.symm), h.range, hn, by simp [Wr.adder], by simp [Wr.adder]⟩, hk⟩
  simpa [Wr.fresh, Wr.adder] using (h.blk.set 5 (.bool true)).set 6 (.int .u64 n)

theorem strOfNums_size (l : List Int) : (strOfNums l).size = l.length := by
  simp [strOfNums, ByteArray.size]

set_option maxRecDepth 100000 in
theorem newAdder_no (x : Buf) (a key n : Int) (w : World) (hx : BufAt w x) (h0 : 0 ≤ a) (ha : U64 a) (hm : mayB x.bits a key 8 = false) :
    Calls Try.prog 13 #[.pointer (some ⟨x.b, 0, none⟩), .int .u64 a, .int .i64 key, .int .u64 n] w fun e w' => e = .returned (.tuple #[.pointer none, .int .i64 1]) ∧ Keep [] w w' := by
  have HV := Hid.mk (rval_ok 0 w (by unfold U64; omega))
  have hs : (strOfNums (bytesL [0] 8)).size = 8 := by rw [strOfNums_size, bytesL_len]
  have HW := Hid.mk (fun W (hW : BufAt W x) => newWriter_no x a key (strOfNums (bytesL [0] 8)) W hW h0 ha (by omega) (by rw [hs]; exact hm))
  generalize strOfNums (bytesL [0] 8) = s at *
  have HX := Hid.mk (fun (W : World) (k : Keep [] w W) => hx.keep k (by simp))
  clear hm
  go_enter Try.func13, Try.ntmps13
  go_wp2_with (first | (go_at_call 50; refine HV.out.mono ?_; rintro e w1 ⟨rfl, hk⟩) | (go_at_call 11; refine (HW.out _ (HX.out _ hk)).mono ?_; rintro e w' ⟨rfl, hk2⟩))
  go_ret2
  exact ⟨rfl, hk.trans hk2 (by simp)⟩

set_option maxRecDepth 100000 in
theorem newAdder_ok (x : Buf) (a key n : Int) (w : World) (hx : BufAt w x) (h0 : 0 ≤ a) (ha : U64 a) (hn : U64 n) (hm : mayB x.bits a key 8 = true) :
    Calls Try.prog 13 #[.pointer (some ⟨x.b, 0, none⟩), .int .u64 a, .int .i64 key, .int .u64 n] w fun e w' =>
      ∃ p v l, e = .returned (.tuple #[.pointer (some ⟨p, 0, none⟩), .int .i64 0]) ∧ l.length = 1 ∧ WrAt w' x.b (a + 1) (a + (3 + (key + 7) / 8)) 1 (Wr.adder p v l n) ∧ (∀ g ∈ (Wr.adder p v l n).fp, w.heap.size ≤ g) ∧ Keep [] w w' := by
  have HV := Hid.mk (rval_ok 0 w (by unfold U64; omega))
  have hs : (strOfNums (bytesL [0] 8)).size = 8 := by rw [strOfNums_size, bytesL_len]
  have hw1 : wordsN (strOfNums (bytesL [0] 8)) = 1 := by unfold wordsN; rw [hs]
  have hl1 : (wordsL (strOfNums (bytesL [0] 8))).length = 1 := by rw [wordsL_length, hw1]
  have HW := Hid.mk (fun W (hW : BufAt W x) => hw1 ▸ newWriter_ok x a key (strOfNums (bytesL [0] 8)) W hW h0 ha (by omega) (by rw [hs]; exact hm))
  generalize wordsL (strOfNums (bytesL [0] 8)) = l at *
  generalize strOfNums (bytesL [0] 8) = s at *
  have HX := Hid.mk (fun (W : World) (k : Keep [] w W) => hx.keep k (by simp))
  clear hm hw1
  have HL := Hid.mk hl1
  clear hl1
  generalize a + (3 + (key + 7) / 8) = va at *
  generalize a + 1 = lk at *
  go_enter Try.func13, Try.ntmps13
  go_wp2_with (first | (go_at_call 50; refine HV.out.mono ?_; rintro e w1 ⟨rfl, hk⟩) | (go_at_call 11; refine (HW.out _ (HX.out _ hk)).mono ?_; rintro e w' ⟨p, v, rfl, hw, hp, hk2⟩; have hc := hw.blk.cell; have hf := hw.blk.froz; unfold Wr.fresh at hc hf))
  go_ret2
  have h3 := hw.adder hn
  refine ⟨p, v, l, rfl, HL.out, h3.1, fun g hg => Nat.le_trans hk.size (hp g hg), (hk.trans hk2 (by simp)).trans h3.2 (by have := hp p (by simp [Wr.fp, Wr.fresh]); have := hk.size; simp; omega)⟩
end Go.Proofs.Ytlgebknbfchnlaa
