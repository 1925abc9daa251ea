/- A page with a record: plain law of a buffer of a page, and law18's begin. -/
import Derived.Test.YtlgebknbfchnlaaNew
import Derived.Test.YtlgebknbfchnlaaRefP
namespace Go.Proofs.Ytlgebknbfchnlaa
open Go Go.RowKit Go.Hay Go.Proofs.YtlgebknbfchnlaaW.PrintWords

/-- A buffer of pages of 64 words whose page 0 is in, with a lock at 2 and words of a value from 5 on. -/
structure Sc (x : Buf) (h : Bool) (c : Int) (V : List Int) : Prop where
  bits : x.bits = 6
  hold : x.holder = [1, 0]
  wlen : x.words.length = 128
  range : ∀ y ∈ x.words, U64 y
  lock : x.words.getD 2 0 = LK h c
  c0 : 0 ≤ c
  c1 : c < 4294967296
  vals : ∀ j, j < V.length → x.words.getD (5 + j) 0 = V.getD j 0
  len : V.length ≤ 16

theorem Sc.page {x : Buf} {h : Bool} {c : Int} {V : List Int} (s : Sc x h c V) {a : Int} (h0 : 0 ≤ a) (h1 : a < 64) : pageOf x.bits a = 0 ∧ offOf x.bits a = a ∧ x.fr 0 = 0 := by
  rw [s.bits]
  unfold pageOf offOf Buf.fr
  refine ⟨by simp; omega, by simp; omega, by simp⟩
theorem Sc.ain {x : Buf} {h : Bool} {c : Int} {V : List Int} (s : Sc x h c V) {a : Int} (h0 : 0 ≤ a) (h1 : a < 64) : x.ain a = true := by
  obtain ⟨p1, p2, p3⟩ := s.page h0 h1
  unfold Buf.ain Buf.has
  rw [p1, p3, s.hold]
  simp; omega
theorem Sc.idx {x : Buf} {h : Bool} {c : Int} {V : List Int} (s : Sc x h c V) {a : Int} (h0 : 0 ≤ a) (h1 : a < 64) : x.idx a = a := by
  obtain ⟨p1, p2, p3⟩ := s.page h0 h1
  unfold Buf.idx
  rw [p1, p3, p2]; simp
theorem Sc.at_ {x : Buf} {h : Bool} {c : Int} {V : List Int} (s : Sc x h c V) {a : Int} (h0 : 0 ≤ a) (h1 : a < 64) : x.at_ a = x.words.getD a.toNat 0 := by
  unfold Buf.at_; rw [s.idx h0 h1]
theorem Sc.at_lock {x : Buf} {h : Bool} {c : Int} {V : List Int} (s : Sc x h c V) : x.at_ 2 = LK h c := by rw [s.at_ (by omega) (by omega)]; exact s.lock
theorem Sc.at_val {x : Buf} {h : Bool} {c : Int} {V : List Int} (s : Sc x h c V) {j : Nat} (hj : j < V.length) : x.at_ (5 + j) = V.getD j 0 := by
  have := s.len
  rw [s.at_ (by omega) (by omega), show (5 + (j : Int)).toNat = 5 + j by omega]; exact s.vals j hj
theorem Sc.u64 {x : Buf} {h : Bool} {c : Int} {V : List Int} (s : Sc x h c V) (a : Int) : U64 (x.at_ a) := by
  unfold Buf.at_
  by_cases hi : (x.idx a).toNat < x.words.length
  · exact s.range _ (getD_mem hi)
  · rw [List.getD_eq_getElem?_getD, List.getElem?_eq_none (by omega)]; unfold U64; simp
theorem Sc.put_range {x : Buf} {h : Bool} {c : Int} {V : List Int} (s : Sc x h c V) (a v : Int) (hv : U64 v) : ∀ y ∈ (x.put a v).words, U64 y := by
  intro y hy
  rcases List.mem_or_eq_of_mem_set hy with h1 | rfl
  · exact s.range y h1
  · exact hv
theorem Sc.put_lock {x : Buf} {h : Bool} {c : Int} {V : List Int} (s : Sc x h c V) (h' : Bool) {c' : Int} (h0 : 0 ≤ c') (h1 : c' < 4294967296) : Sc (x.put 2 (LK h' c')) h' c' V := by
  have hi := s.idx (a := 2) (by omega) (by omega)
  have hp : (x.put 2 (LK h' c')).words = x.words.set 2 (LK h' c') := by simp [Buf.put, Buf.withWords, hi]
  refine ⟨s.bits, s.hold, by rw [hp]; simpa using s.wlen, s.put_range _ _ (lk_u64 h0 h1), ?_, h0, h1, ?_, s.len⟩
  · rw [hp, getD_set, if_pos ⟨rfl, by have := s.wlen; omega⟩]
  · intro j hj
    rw [hp, getD_set, if_neg (by omega)]; exact s.vals j hj
theorem Sc.put_val {x : Buf} {h : Bool} {c : Int} {V : List Int} (s : Sc x h c V) {j : Nat} (hj : j < V.length) {u : Int} (hu : U64 u) : Sc (x.put (5 + j) u) h c (V.set j u) := by
  have hl := s.len
  have hi := s.idx (a := 5 + j) (by omega) (by omega)
  have hp : (x.put (5 + j) u).words = x.words.set (5 + j) u := by simp [Buf.put, Buf.withWords, hi, show (5 + (j : Int)).toNat = 5 + j by omega]
  refine ⟨s.bits, s.hold, by rw [hp]; simpa using s.wlen, s.put_range _ _ hu, ?_, s.c0, s.c1, ?_, by simpa using s.len⟩
  · rw [hp, getD_set, if_neg (by omega)]; exact s.lock
  · intro i hi2
    rw [List.length_set] at hi2
    rw [hp, getD_set, getD_set]
    by_cases hij : j = i
    · subst hij
      rw [if_pos ⟨rfl, by have := s.wlen; omega⟩, if_pos ⟨rfl, hj⟩]
    · rw [if_neg (by omega), if_neg (by omega)]; exact s.vals i hi2

/-- What begin lays. -/
theorem sc_begin (b : Nat) (R C RH CH : Nat) (n : Int) (hn : U64 n) (l : List Int) (hl : l.length ≤ 16) (hR : ∀ y ∈ l, U64 y) (kw : Int) (hk : U64 kw) :
    ((Buf.fresh 6 2 b R C RH CH).opened 0).runE 1 ((4 + l.length : Nat) : Int) = 0 ∧ Sc (((Buf.fresh 6 2 b R C RH CH).opened 0).putRun 1 ([0, 0, n] ++ [kw] ++ l)) false 0 l := by
  have hb : ((Buf.fresh 6 2 b R C RH CH).opened 0).bits = 6 := rfl
  have hh : ((Buf.fresh 6 2 b R C RH CH).opened 0).holder = [1, 0] := by simp [Buf.opened, Buf.fresh, Buf.fr, Buf.nf]
  have hw : ((Buf.fresh 6 2 b R C RH CH).opened 0).words = List.replicate 128 0 := by
    simp only [Buf.opened, Buf.fresh, Buf.fr, Buf.nf]
    decide
  generalize (Buf.fresh 6 2 b R C RH CH).opened 0 = x at *
  have hi : ∀ a : Int, 0 ≤ a → a < 64 → x.idx a = a := by
    intro a h0 h1
    unfold Buf.idx pageOf offOf Buf.fr Buf.nf
    rw [hb, hh]; simp; omega
  have hain : x.ain 1 = true := by unfold Buf.ain Buf.has pageOf Buf.fr Buf.nf; rw [hb, hh]; simp
  have hro : roomOf x.bits 1 = 63 := by unfold roomOf offOf; rw [hb]; simp
  have hp : (x.putRun 1 ([0, 0, n] ++ [kw] ++ l)).words = putAt (List.replicate 128 0) 1 ([0, 0, n] ++ [kw] ++ l) := by
    simp [Buf.putRun, Buf.withWords, hi 1 (by omega) (by omega), hw]
  have hp2 : putAt (List.replicate 128 (0 : Int)) 1 ([0, 0, n] ++ [kw] ++ l) = 0 :: 0 :: 0 :: n :: kw :: (l ++ List.replicate (123 - l.length) 0) := by
    unfold putAt
    rw [show 1 + ([0, 0, n] ++ [kw] ++ l).length = 5 + l.length by simp; omega, List.drop_replicate, show 128 - (5 + l.length) = 123 - l.length by omega]
    rfl
  refine ⟨?_, hb, hh, ?_, ?_, ?_, by omega, by omega, ?_, hl⟩
  · unfold Buf.runE
    rw [if_pos hain, hro, if_pos (by omega)]
  · rw [hp, hp2]; simp; omega
  · intro y hy
    rw [hp, hp2] at hy
    simp only [List.mem_cons, List.mem_append, List.mem_replicate] at hy
    rcases hy with rfl | rfl | rfl | rfl | rfl | hy | ⟨_, rfl⟩
    · unfold U64; omega
    · unfold U64; omega
    · unfold U64; omega
    · exact hn
    · exact hk
    · exact hR y hy
    · unfold U64; omega
  · rw [hp, hp2]; rfl
  · intro j hj
    rw [hp, hp2, show 5 + j = j + 5 by omega]
    simp only [List.getD_eq_getElem?_getD, List.getElem?_cons_succ]
    rw [List.getElem?_append_left hj]

set_option maxRecDepth 100000 in
set_option maxHeartbeats 400000 in
theorem begin_ok (s : ByteArray) (w : World) (hs : s.size ≤ 128) :
    Calls Try.prog 44 #[.string s] w fun e w' => ∃ x : Buf, e = .returned (.tuple #[.pointer (some ⟨x.b, 0, none⟩), .bool true]) ∧ BufAt w' x ∧ Sc x false 0 (wordsL s) ∧ (∀ g ∈ x.all, w.heap.size ≤ g) ∧ Keep [] w w' := by
  obtain ⟨n, hF, hn⟩ := reffresh_f ⟨#[107]⟩ s (by decide) hs
  have HF := Hid.mk (fun W => PInplacePlays.haycroftref18_Fresh.calls _ ⟨#[107]⟩ s _ W hF)
  have HN := Hid.mk (fun W => bnew_ok 6 2 W (by omega) (by omega))
  have hk1 : ∃ kw, wordsL ⟨#[107]⟩ = [kw] ∧ U64 kw := ⟨wordAt ⟨#[107]⟩ 0, by rfl, wordAt_u64 _ _⟩
  obtain ⟨kw, hkw, hku⟩ := hk1
  rw [hkw] at HF
  have hl : (wordsL s).length ≤ 16 := by rw [wordsL_length]; unfold wordsN; omega
  have hR := wordsL_u64 s
  clear hF
  generalize wordsL s = l at *
  have HB := Hid.mk (fun b R C RH CH => sc_begin b R C RH CH n hn l hl hR kw hku)
  have HO := Hid.mk (fun p R C RH CH W (hW : BufAt W (Buf.fresh 6 2 p R C RH CH)) => bopen_ok (Buf.fresh 6 2 p R C RH CH) 0 W hW (by omega) (by simp [Buf.openE, Buf.has, Buf.hold, Buf.fresh, Buf.fr, Buf.nf]))
  have HRL := Hid.mk (show ∀ y ∈ [0, 0, n] ++ [kw] ++ l, U64 y by
    intro y hy
    simp at hy
    rcases hy with rfl | rfl | rfl | hy
    · unfold U64; omega
    · exact hn
    · exact hku
    · exact hR y hy)
  have HLen := Hid.mk (show ([0, 0, n] ++ [kw] ++ l).length = 4 + l.length by simp; omega)
  generalize [0, 0, n] ++ [kw] ++ l = L at *
  clear hR hl
  go_enter Try.func44, Try.ntmps44
  go_wp2_with (first
    | (go_at_call 10; refine (HN.out _).mono ?_; rintro e w1 ⟨p, R, C, RH, CH, rfl, hx, hnew, hk⟩)
    | (go_at_call 32; refine (HO.out p R C RH CH _ hx).mono ?_; rintro e w2 ⟨rfl, hx2, hk2⟩)
    | (go_at_call 78; refine (HF.out _).mono ?_; rintro e w3 ⟨v, rfl, hv, hk3⟩; obtain ⟨A, cc, rfl, hcc, hC, hAb⟩ := Own.reads hv)
    | (go_at_call 43; have hx3 := hx2.keep (Keep.of_below hk3 []) (by simp); refine (bfill_ok _ 1 A L.length cc L w3 hx3 (by omega) hC (fun ad hA => by have := hAb ad hA; have := hx2.lt C (by simp [Buf.all, Buf.fp, Buf.opened, Buf.fresh]); simp [Buf.opened, Buf.fresh]; omega) HRL.out (by rw [HLen.out]; exact (HB.out p R C RH CH).1)).mono ?_; rintro e w4 ⟨rfl, hx4, hk4⟩))
  go_ret2
  have hn2 : ∀ k ∈ [p, R, C, RH, CH], w.heap.size ≤ k := hnew
  refine ⟨_, rfl, hx4, (HB.out p R C RH CH).2, hnew, ?_⟩
  have k1 : Keep [] w w2 := hk.trans hk2 (fun b hb => .inr (hnew b (by simp [Buf.all]; exact .inr hb)))
  exact (k1.trans (Keep.of_below hk3 []) (by simp)).trans hk4 (by simp; exact hn2 C (by simp))
end Go.Proofs.Ytlgebknbfchnlaa
