/- InplaceSums holds: each number is added once, and whoever moves alone is done soon; no conditions. (part 2 of 4 of its proof.) -/
import Derived.Test.YtlgebknbfchnlaaKSu1
import Derived.Deep.RegionWith
import Derived.Test.YtlgebknbfchnlaaPInplacePlaysx0
import Derived.Test.YtlgebknbfchnlaaPInplacePlaysx4
import Derived.Test.YtlgebknbfchnlaaPInplacePlaysx5

/- Contract of field.Bytes, where the words are as many as the bytes want and nothing stands behind them. -/
namespace Go.Proofs.Ytlgebknbfchnlaa
set_option linter.unusedVariables false
set_option linter.unusedSimpArgs false
open Go Go.RowKit Go.Hay Go.Proofs.YtlgebknbfchnlaaW.PrintWords

/-- Byte i of words. -/
def byteAt (l : List Int) (i : Nat) : Int := l.getD (i / 8) 0 / 2 ^ (i % 8 * 8) % 256
def bytesL (l : List Int) (n : Nat) : List Int := (List.range n).map (byteAt l)
theorem bytesL_length (l : List Int) (n : Nat) : (bytesL l n).length = n := by simp [bytesL]
theorem bytesL_get (l : List Int) (n i : Nat) (h : i < n) : (bytesL l n)[i]? = some (byteAt l i) := by simp [bytesL, h]
theorem bytesL_succ (l : List Int) (k : Nat) : bytesL l (k + 1) = bytesL l k ++ [byteAt l k] := by simp [bytesL, List.range_succ]

theorem info_u8 : (Try.prog.info? 5).map (fun i => (i.zero, i.size, i.bytes)) = some (some (.int .u8 0), 1, 1) := by kernel_rfl
theorem make_u8 (w : World) (n : Nat) (hn : n ≤ 1000000) : (Instr.makeSlice 41 (.int .i64 n) (.int .i64 n)).run Try.prog w = .ok (.slice (some ⟨w.heap.size, 0, none⟩) n n) (w.alloc (.cells ((List.replicate n (0 : Int)).map (Value.int .u8)).toArray 5)) := by
  obtain ⟨ii, hi, hz0, hz1, hz2⟩ := info_parts info_u8
  have hmk := run_make (P := Try.prog) w 41 5 ii (.int .u8 0) Try.underlying41 hi hz0 .i64 .i64 n n (by omega) (by omega) (by rw [hz2]; omega) (by omega)
  rw [show (Value.int .u8 0).cells = #[.int .u8 0] from rfl, hz1, made_rep] at hmk
  simp only [Int.toNat_natCast, Nat.mul_one] at hmk
  rw [hmk]; simp

theorem byte_step (l : List Int) (m k : Nat) (hk : k < m) :
    ((bytesL l k ++ List.replicate (m - k) 0).map (Value.int .u8)).toArray.setIfInBounds k (.int .u8 (byteAt l k)) = ((bytesL l (k + 1) ++ List.replicate (m - (k + 1)) 0).map (Value.int .u8)).toArray := by
  rw [List.setIfInBounds_toArray]
  congr 1
  rw [← List.map_set (f := Value.int .u8)]
  congr 1
  rw [bytesL_succ, List.set_append_right _ _ (by rw [bytesL_length]; omega), bytesL_length, Nat.sub_self, show m - k = (m - (k + 1)) + 1 by omega, List.replicate_succ]
  simp

set_option maxRecDepth 100000 in
set_option maxHeartbeats 800000 in
theorem fbytes_ok (A : Option Addr) (c n : Nat) (l : List Int) (w : World) (hl : (Kd.int .u64).C w A l.length l) (hn : l.length = (n + 7) / 8) (hs : l.length ≤ 10000) (hz : ∀ i, n ≤ i → i < 8 * l.length → byteAt l i = 0) (hR : ∀ x ∈ l, U64 x) :
    Calls Try.prog 82 #[.slice A l.length c, .int .i64 n] w fun e w' => e = .returned (.tuple #[.string (strOfNums (bytesL l n)), .int .i64 0]) ∧ Keep [] w w' := by
  have hm := make_u8 w (8 * l.length) (by omega)
  rw [show ((8 * l.length : Nat) : Int) = 8 * (l.length : Int) by omega] at hm
  have HN := Hid.mk hn
  have hn1 : n ≤ 8 * l.length := by omega
  clear hn
  go_enter Try.func82, Try.ntmps82
  go_wp2_with fail
  go_loopw [25] (fun v wr => ∃ k : Nat, k ≤ 8 * l.length ∧ v = .int .i64 k ∧ Keep [] w wr ∧ w.heap.size < wr.heap.size ∧ Blk wr w.heap.size 5 ((bytesL l k ++ List.replicate (8 * l.length - k) 0).map (Value.int .u8)).toArray) (fun v _ => 8 * l.length - (intOf v).toNat)
  case atStart => exact ⟨0, Nat.zero_le _, rfl, (Keep.refl _ _).alloc _, by simp, by simpa [bytesL] using Blk.new w _ _⟩
  case round =>
    obtain ⟨k, hk, rfl, hkeep, hsz, hb⟩ := hrel
    by_cases hlt : k < 8 * l.length
    · obtain ⟨ad, rfl, hcl⟩ := C_at (C_keep hl hkeep (by simp)) (j := k / 8) (by omega)
      have hx := hR _ (getD_mem (xs := l) (i := k / 8) (by omega))
      have hset := hb.set k (.int .u8 (byteAt l k))
      have hbc : wr.cell? ⟨w.heap.size, k, none⟩ = some (.int .u8 0) := by
        rw [hb.cell]; simp only [List.getElem?_toArray, List.getElem?_map, List.getElem?_append, bytesL_length]; rw [if_neg (by omega)]; simp [List.getElem?_replicate]; omega
      have hbf := hb.froz k
      have HB : Hid (l.getD (k / 8) 0 / 2 ^ (k % 8 * 8) % 256 = byteAt l k) := rfl
      have HS := byte_step l (8 * l.length) k hlt
      rw [HS] at hset
      clear HS
      generalize byteAt l k = y at *
      generalize l.getD (k / 8) 0 = x at *
      go_wp2_with fail
      refine ⟨⟨k + 1, by omega, by go_num, hkeep.set (.inr (Nat.le_refl _)) _ _, by simpa using hsz, ?_⟩, by simp [intOf]; omega⟩
      rw [HB.out]
      exact hset
    · have hfin : ∀ wr : World, Blk wr w.heap.size 5 ((bytesL l (8 * l.length)).map (Value.int .u8)).toArray → (convert 41 9 (.slice (some ⟨w.heap.size, 0, none⟩) n (8 * l.length))).run Try.prog wr = .ok (.string (strOfNums (bytesL l n))) wr := by
        intro wr hb
        have h1 : (Kd.int .u8).C wr (some ⟨w.heap.size, 0, none⟩) (8 * l.length) (bytesL l (8 * l.length)) := by
          have := C_of_blk hb (by rw [bytesL_length]; omega)
          rwa [bytesL_length] at this
        have h2 := Kd.C_take (k := Kd.int .u8) (xs := bytesL l (8 * l.length)) (m := n) (by rw [bytesL_length]; exact h1) (by rw [bytesL_length]; exact hn1)
        have h3 : (bytesL l (8 * l.length)).take n = bytesL l n := by
          unfold bytesL; rw [← List.map_take, List.take_range, Nat.min_eq_left hn1]
        rw [h3, bytesL_length] at h2
        exact Kd.C_string Try.underlying41 Try.underlying5 Try.underlying9 h2
      obtain rfl : k = 8 * l.length := by omega
      have hb2 : Blk wr w.heap.size 5 ((bytesL l (8 * l.length)).map (Value.int .u8)).toArray := by simpa using hb
      have hcv := hfin wr hb2
      clear hfin hm
      have hq : ((n : Int) + 8 - 1) / 8 = (l.length : Int) := by have := HN.out; omega
      have hqb : ((l.length : Int) != ((n : Int) + 8 - 1) / 8) = false := by rw [hq]; simp
      clear hq
      by_cases hc : n = 8 * l.length
      · subst hc
        go_wp2_with fail
        refine wp_loop_rounds 1 ?_
        rw [rounds_succ]
        go_wp2_with fail
        go_ret2
        exact ⟨rfl, hkeep⟩
      · have hlt2 : n < 8 * l.length := by omega
        have hcc := hb2.cell
        go_wp2_with fail
        go_loop [53] (fun v => ∃ j : Nat, j ≤ 8 * l.length - n ∧ v = .int .i64 j) (fun v => (8 * l.length - n) - (intOf v).toNat)
        case atStart => exact ⟨0, Nat.zero_le _, rfl⟩
        case round =>
          obtain ⟨j, hj, rfl⟩ := hrel
          by_cases hjl : j < 8 * l.length - n
          · have hv := bytesL_get l (8 * l.length) (n + j) (by omega)
            rw [hz (n + j) (by omega) (by omega)] at hv
            have hvc : wr.cell? ⟨w.heap.size, n + j, none⟩ = some (.int .u8 0) := by rw [hcc]; simp [hv]
            clear hcc hv hz
            go_wp2_with fail
            go_round
            case rel => exact ⟨j + 1, by omega, by go_num⟩
            case measure => simp [intOf]; omega
          · go_wp2_with fail
            go_ret2
            exact ⟨rfl, hkeep⟩
end Go.Proofs.Ytlgebknbfchnlaa

/- Contracts of inplace.Reader. -/
namespace Go.Proofs.Ytlgebknbfchnlaa
set_option linter.unusedVariables false
set_option linter.unusedSimpArgs false
open Go Go.RowKit Go.Hay Go.Proofs.YtlgebknbfchnlaaW.PrintWords

theorem Below.zero {n : Nat} {w w' : World} (h : Below n w w') : Below 0 w w' := ⟨h.os, h.tape, h.output, h.size, fun _ hk => absurd hk (Nat.not_lt_zero _)⟩
theorem Keep.of_grown {w w' : World} {row : Option Nat} (h : w.grownBy w' row) : Keep row.toList w w' :=
  ⟨h.os, h.tape, h.output, h.size, fun k hk hn => h.block k hk (by rintro rfl; simp at hn)⟩

/-- A reader. -/
structure Rd where
  p : Nat
  state : Nat
  n : Nat
  v : Value
  l : List Int
  seen : Int
  val : ByteArray

structure RdAt (w : World) (b : Nat) (lk va : Int) (nw : Nat) (r : Rd) : Prop where
  blk : Blk w r.p 113 #[.pointer (some ⟨b, 0, none⟩), .int .u64 lk, .int .u64 va, .int .i64 nw, .int .i64 r.state, .int .i64 r.n, r.v, .int .u64 r.seen, .string r.val]
  row : Own .u64 22 w 0 r.v r.l
  range : ∀ x ∈ r.l, U64 x
  len : r.l.length ≤ 100
  n9 : r.n ≤ 1000
  st : r.state ≤ 4

def Rd.fp (r : Rd) : List Nat := r.p :: r.v.ownBlock.toList
theorem RdAt.keep {S : List Nat} {w w' : World} {b : Nat} {lk va : Int} {nw : Nat} {r : Rd} (h : RdAt w b lk va nw r) (k : Keep S w w') (hS : ∀ g ∈ r.fp, g ∉ S) : RdAt w' b lk va nw r :=
  ⟨h.blk.keep k (hS _ (by simp [Rd.fp])), h.row.keepB k (fun g hg => hS g (by simp [Rd.fp, hg])), h.range, h.len, h.n9, h.st⟩
theorem RdAt.drewN {w : World} {b : Nat} {lk va : Int} {nw : Nat} {r : Rd} (h : RdAt w b lk va nw r) (n : Nat) : RdAt (w.drewN n) b lk va nw r := h.keep ((Keep.refl [] w).drewN n) (by simp)
theorem RdAt.lt {w : World} {b : Nat} {lk va : Int} {nw : Nat} {r : Rd} (h : RdAt w b lk va nw r) : ∀ g ∈ r.fp, g < w.heap.size := by
  intro g hg
  simp [Rd.fp] at hg
  rcases hg with rfl | hg
  · exact h.blk.lt
  · exact (h.row.lt hg).2
theorem RdAt.ne {w : World} {b : Nat} {lk va : Int} {nw : Nat} {r : Rd} (h : RdAt w b lk va nw r) {g : Nat} (hg : r.v.ownBlock = some g) : r.p ≠ g := by
  obtain ⟨cs, hc⟩ := own_typed h.row.row g hg
  rintro rfl
  have := h.blk
  unfold Blk at this
  rw [hc] at this
  simp at this

def Rd.apart (r : Rd) (x : Buf) : Prop := ∀ g ∈ r.fp, g ∉ x.all

/-- What a move of a reader comes to (its row's place apart). -/
def Rd.step (r : Rd) (x : Buf) (va : Int) (nw : Nat) (h : Bool) (c : Int) : Int × Rd :=
  if r.state = 0 then (if h then (3, r) else (1, { r with seen := c, l := [], state := 1 }))
  else if r.state = 1 then
    (if r.l.length < nw then (1, { r with l := r.l ++ [x.at_ (va + r.l.length)] })
     else if LK h c = r.seen then (2, { r with val := strOfNums (bytesL r.l r.n), state := 4 }) else (3, { r with state := 0 }))
  else (2, r)

structure Rd.Fit (r : Rd) (x : Buf) (lk va : Int) (nw : Nat) (h : Bool) (c : Int) : Prop where
  lock : x.at_ lk = LK h c
  c0 : 0 ≤ c
  c1 : c < 4294967296
  lk0 : 0 ≤ lk
  lkin : x.ain lk = true
  va0 : 0 ≤ va
  va9 : va ≤ 1000000
  vain : ∀ j : Nat, j < nw → x.ain (va + j) = true
  nw1 : nw ≤ 99
  nwn : nw = (r.n + 7) / 8
  le : r.l.length ≤ nw
  zero : r.state = 1 → r.l.length = nw → LK h c = r.seen → ∀ i, r.n ≤ i → i < 8 * r.l.length → byteAt r.l i = 0

theorem RdAt.turn {w w' : World} {b : Nat} {lk va : Int} {nw : Nat} {r : Rd} {u : Int} (h : RdAt w b lk va nw r) {t : Nat} (ht : t ≤ 4) (hb : Blk w' r.p 113 #[.pointer (some ⟨b, 0, none⟩), .int .u64 lk, .int .u64 va, .int .i64 nw, .int .i64 t, .int .i64 r.n, .slice none 0 0, .int .u64 u, .string r.val]) :
    RdAt w' b lk va nw { r with seen := u, v := .slice none 0 0, l := [], state := t } :=
  ⟨hb, Own.nil _ _ _ _, by simp, by simp, h.n9, ht⟩

set_option maxRecDepth 100000 in
theorem rlook_no (x : Buf) (lk va : Int) (nw : Nat) (r : Rd) (w : World) (hx : BufAt w x) (h : RdAt w x.b lk va nw r) (h0 : 0 ≤ lk) (hi : x.ain lk = false) :
    Calls Try.prog 56 #[.pointer (some ⟨r.p, 0, none⟩)] w fun e w' => e = .returned (.tuple #[.int .i64 0, .int .i64 7]) ∧ Drawn w w' := by
  have hc := h.blk.cell
  have HL := Hid.mk (fun W (hW : BufAt W x) => Calls.of_drawn (bload_no x lk W hW h0 hi))
  clear hi
  go_enter Try.func56, Try.ntmps56
  go_wp2_with fail
  go_quiet ((go_at_call 27; exact Calls.quiet_of (HL.out _ (hx.drewN _))))
  go_wp2_with fail
  go_ret2
  exact ⟨rfl, _, rfl⟩

set_option maxRecDepth 100000 in
theorem rlook_busy (x : Buf) (lk va : Int) (nw : Nat) (r : Rd) (c : Int) (w : World) (hx : BufAt w x) (h : RdAt w x.b lk va nw r) (h0 : 0 ≤ lk) (hi : x.ain lk = true) (hl : x.at_ lk = LK true c) (c0 : 0 ≤ c) (c1 : c < 4294967296) :
    Calls Try.prog 56 #[.pointer (some ⟨r.p, 0, none⟩)] w fun e w' => e = .returned (.tuple #[.int .i64 3, .int .i64 0]) ∧ Drawn w w' := by
  have hc := h.blk.cell
  have HL := Hid.mk (fun W (hW : BufAt W x) => Calls.of_drawn (bload_ok x lk W hW h0 hi))
  have HB := Hid.mk (fun W => Calls.of_drawn (hlocked true c W c0 c1))
  rw [hl] at HL
  clear hi hl
  generalize LK true c = u at *
  go_enter Try.func56, Try.ntmps56
  go_wp2_with fail
  go_quiet ((go_at_call 27; exact Calls.quiet_of (HL.out _ (hx.drewN _))))
  go_wp2_with ((go_at_call 86; refine (HB.out _).mono ?_; rintro e w' ⟨rfl, ⟨m1, rfl⟩⟩))
  go_ret2
  exact ⟨rfl, _, rfl⟩

set_option maxRecDepth 100000 in
theorem rlook_ok (x : Buf) (lk va : Int) (nw : Nat) (r : Rd) (c : Int) (w : World) (hx : BufAt w x) (h : RdAt w x.b lk va nw r) (h0 : 0 ≤ lk) (hi : x.ain lk = true) (hl : x.at_ lk = LK false c) (c0 : 0 ≤ c) (c1 : c < 4294967296) :
    Calls Try.prog 56 #[.pointer (some ⟨r.p, 0, none⟩)] w fun e w' => e = .returned (.tuple #[.int .i64 1, .int .i64 0]) ∧ RdAt w' x.b lk va nw { r with seen := c, v := .slice none 0 0, l := [], state := 1 } ∧ Keep [r.p] w w' := by
  have hc := h.blk.cell
  have hf := h.blk.froz
  have HL := Hid.mk (fun W (hW : BufAt W x) => Calls.of_drawn (bload_ok x lk W hW h0 hi))
  have HB := Hid.mk (fun W => Calls.of_drawn (hlocked false c W c0 c1))
  have hlf : LK false c = c := rfl
  rw [hl] at HL
  rw [hlf] at HL HB
  clear hi hl hlf
  go_enter Try.func56, Try.ntmps56
  go_wp2_with fail
  go_quiet ((go_at_call 27; exact Calls.quiet_of (HL.out _ (hx.drewN _))))
  go_wp2_with ((go_at_call 86; refine (HB.out _).mono ?_; rintro e w' ⟨rfl, ⟨m1, rfl⟩⟩))
  go_ret2
  refine ⟨rfl, h.turn (t := 1) (by omega) ?_, ?_⟩
  · have := (((h.blk.drewN (nq + m1)).set 7 (.int .u64 c)).set 6 (.slice none 0 0)).set 4 (.int .i64 1)
    simpa using this
  · exact (((((Keep.refl [r.p] w).drewN _).set (by simp) _ _).set (by simp) _ _).set (by simp) _ _)

set_option maxRecDepth 100000 in
theorem rread_ok (x : Buf) (lk va : Int) (nw : Nat) (r : Rd) (w : World) (hx : BufAt w x) (h : RdAt w x.b lk va nw r) (h0 : 0 ≤ va) (h9 : va ≤ 1000000) (hi : x.ain (va + r.l.length) = true) (hl : r.l.length < 100) (hU : U64 (x.at_ (va + r.l.length))) :
    Calls Try.prog 57 #[.pointer (some ⟨r.p, 0, none⟩)] w fun e w' => e = .returned (.tuple #[.int .i64 1, .int .i64 0]) ∧ ∃ v', RdAt w' x.b lk va nw { r with l := r.l ++ [x.at_ (va + r.l.length)], v := v' } ∧ (∀ g, v'.ownBlock = some g → r.v.ownBlock = some g ∨ w.heap.size ≤ g) ∧ Keep r.fp w w' := by
  have hc := h.blk.cell
  have HL := Hid.mk (fun W (hW : BufAt W x) => Calls.of_drawn (bload_ok x (va + r.l.length) W hW (by omega) hi))
  generalize hu : x.at_ (va + r.l.length) = u at *
  clear hi hu
  obtain ⟨A, cap, hv, hlc, hC, hb⟩ := h.row.reads
  rw [hv] at hc
  go_enter Try.func57, Try.ntmps57
  go_wp2_with fail
  go_quiet ((go_at_call 27; exact Calls.quiet_of (HL.out _ (hx.drewN _))))
  have hown : Own .u64 22 (w.drewN nq) 0 (.slice A r.l.length cap) r.l := hv ▸ h.row.drewN nq
  have hlt : r.p < (w.drewN nq).heap.size := h.blk.lt
  have hblk := h.blk.drewN nq
  rw [hv] at hblk
  have hne0 : r.p ∉ (Value.slice A r.l.length cap).ownBlock.toList := by
    intro hm
    simp at hm
    exact h.ne (hv ▸ hm) rfl
  go_wp2_with ((at_builtin; refine Kd.R_append (Kd.int .u64) (w0 := w) 0 rfl (.tmp 34) (.tmp 36) 40 22 (.int .u64 0) 8 rfl Try.underlying40 info_u64 rfl (by decide) (by omega) (.slice A r.l.length cap) r.l u [.int .u64 u] (fun _ => True) (fun _ => False) rfl rfl rfl (fun _ hk => hk.elim) (fun _ _ => trivial) hown (Below.zero ((Keep.refl [] w).drewN nq).below) (Nat.zero_le _) (by omega) ?_; intro v1 w1 ho hb hg hat; obtain ⟨A1, c1, rfl, _⟩ := Own.reads ho; have hb1 := hblk.keep (Keep.of_grown hg) hne0; have hc1 := hb1.cell; have hf1 := hb1.froz))
  go_ret2
  have hk1 : Keep r.fp w w1 := ((Keep.refl r.fp w).drewN nq).trans (Keep.of_grown hg) (fun b hb => .inl (by rw [← hv] at hb; exact List.mem_cons_of_mem _ hb))
  have hset := (Keep.refl [r.p] w1).set (g := r.p) (by simp) 6 (.slice A1 (r.l ++ [u]).length c1)
  simp only [List.length_append, List.length_singleton] at hset
  refine ⟨rfl, _, ⟨by simpa using hb1.set 6 _, Own.keepB ho hset ?_, ?_, by simp; omega, h.n9, h.st⟩, ?_, hk1.trans hset (by simp [Rd.fp])⟩
  · intro g hg2 hm
    simp at hm
    subst hm
    rcases hat with h1 | ⟨b, h1, h2⟩
    · rw [h1, ← hv] at hg2; exact h.ne hg2 rfl
    · rw [hg2] at h1; injection h1 with h1; subst h1; exact Nat.not_lt.2 h2 hlt
  · intro y hy
    rcases List.mem_append.1 hy with h1 | h1
    · exact h.range y h1
    · simp at h1; subst h1; exact hU
  · intro g hg2
    rcases hat with h1 | ⟨b, h1, h2⟩
    · rw [h1, ← hv] at hg2; exact .inl hg2
    · rw [hg2] at h1; injection h1 with h1; subst h1; exact .inr h2

set_option maxRecDepth 100000 in
theorem rcheck_no (x : Buf) (lk va : Int) (nw : Nat) (r : Rd) (u : Int) (w : World) (hx : BufAt w x) (h : RdAt w x.b lk va nw r) (h0 : 0 ≤ lk) (hi : x.ain lk = true) (hl : x.at_ lk = u) (hs : u ≠ r.seen) :
    Calls Try.prog 58 #[.pointer (some ⟨r.p, 0, none⟩)] w fun e w' => e = .returned (.tuple #[.int .i64 3, .int .i64 0]) ∧ RdAt w' x.b lk va nw { r with state := 0 } ∧ Keep [r.p] w w' := by
  have hc := h.blk.cell
  have hf := h.blk.froz
  have HL := Hid.mk (fun W (hW : BufAt W x) => Calls.of_drawn (bload_ok x lk W hW h0 hi))
  rw [hl] at HL
  clear hi hl
  have hd : (u != r.seen) = true := bne_iff_ne.2 hs
  have hd2 : decide (u = r.seen) = false := by simpa using hs
  clear hs
  go_enter Try.func58, Try.ntmps58
  go_wp2_with fail
  go_quiet ((go_at_call 27; exact Calls.quiet_of (HL.out _ (hx.drewN _))))
  go_wp2_with fail
  go_ret2
  have hset : Keep [r.p] w ((w.drewN nq).setCell ⟨r.p, 4, none⟩ (.int .i64 0)) := ((Keep.refl _ _).drewN _).set (by simp) _ _
  exact ⟨rfl, ⟨by simpa using (h.blk.drewN nq).set 4 (.int .i64 0), h.row.keepB hset (fun g hg => by have := h.ne hg; simpa using this.symm), h.range, h.len, h.n9, by simp⟩, hset⟩
end Go.Proofs.Ytlgebknbfchnlaa

/- Contracts of inplace.Reader, part 2: check, Move. -/
namespace Go.Proofs.Ytlgebknbfchnlaa
set_option linter.unusedVariables false
set_option linter.unusedSimpArgs false
open Go Go.RowKit Go.Hay Go.Proofs.YtlgebknbfchnlaaW.PrintWords

set_option maxRecDepth 100000 in
set_option maxHeartbeats 4000000 in
theorem rcheck_ok (x : Buf) (lk va : Int) (nw : Nat) (r : Rd) (w : World) (hx : BufAt w x) (h : RdAt w x.b lk va nw r) (h0 : 0 ≤ lk) (hi : x.ain lk = true) (hl : x.at_ lk = r.seen) (hn : r.l.length = (r.n + 7) / 8) (hz : ∀ i, r.n ≤ i → i < 8 * r.l.length → byteAt r.l i = 0) :
    Calls Try.prog 58 #[.pointer (some ⟨r.p, 0, none⟩)] w fun e w' => e = .returned (.tuple #[.int .i64 2, .int .i64 0]) ∧ RdAt w' x.b lk va nw { r with val := strOfNums (bytesL r.l r.n), state := 4 } ∧ Keep [r.p] w w' := by
  have hc := h.blk.cell
  have hf := h.blk.froz
  have HL := Hid.mk (fun W (hW : BufAt W x) => Calls.of_drawn (bload_ok x lk W hW h0 hi))
  obtain ⟨A, cap, hv, hlc, hC, hb⟩ := h.row.reads
  have HB := Hid.mk (fun W (hCW : (Kd.int .u64).C W A r.l.length r.l) => fbytes_ok A cap r.n r.l W hCW hn (by have := h.len; omega) hz h.range)
  rw [hl] at HL
  rw [hv] at hc
  clear hi hl hz
  generalize strOfNums (bytesL r.l r.n) = s at *
  have HR := Hid.mk (fun (W : World) (hk : Keep [] w W) => h.keep hk (by simp))
  have hd : (r.seen != r.seen) = false := by simp
  go_enter Try.func58, Try.ntmps58
  go_wp2_with fail
  go_quiet ((go_at_call 27; exact Calls.quiet_of (HL.out _ (hx.drewN _))))
  go_wp2_with fail
  have hkd : Keep [] w (w.drewN nq) := (Keep.refl _ _).drewN _
  generalize w.drewN nq = W at hkd ⊢
  have hW := HR.out _ hkd
  have hcw := hW.blk.cell
  have hfw := hW.blk.froz
  rw [hv] at hcw
  have hWd := hW.blk.drewN 1
  rw [hv] at hWd
  have hCW : (Kd.int .u64).C W.drew A r.l.length r.l := C_keep hC hkd.drew (by simp)
  have HV := Hid.mk hv
  clear hC HL hx hv HR hn hb hd
  go_region_held3 (fun w' => w'.cell? ⟨r.p, 6, none⟩ = some (.slice A r.l.length cap) ∧ w'.cell? ⟨r.p, 5, none⟩ = some (.int .i64 r.n)) (first | exact ⟨hcw 6, hcw 5⟩ | exact ⟨hc2 6, hc2 5⟩ | exact ⟨hc3 6, hc3 5⟩) ((go_at_call 82; refine (HB.out W.drew hCW).mono ?_; rintro e w' ⟨rfl, hk⟩; have hb2 := hWd.keep hk (by simp); have hc2 := hb2.cell; have hf2 := hb2.froz; have hc3 := (hb2.set 8 (.string s)).cell; simp at hc3))
  all_goals
    go_wp2_with fail
    go_ret2
    have hk2 : Keep [r.p] w _ := (((hkd.drew).trans hk (by simp)).mono (S' := [r.p]) (by simp)).set (g := r.p) (by simp) 8 (.string s)
    have hk3 := hk2.set (g := r.p) (by simp) 4 (.int .i64 4)
    exact ⟨rfl, ⟨by simpa [HV.out] using (hb2.set 8 (.string s)).set 4 (.int .i64 4), h.row.keepB hk3 (fun g hg => by have := h.ne hg; simpa using this.symm), h.range, h.len, h.n9, by simp⟩, hk3⟩

set_option maxRecDepth 100000 in
theorem rmove_no (x : Buf) (lk va : Int) (nw : Nat) (r : Rd) (w : World) (hx : BufAt w x) (h : RdAt w x.b lk va nw r) (h0 : 0 ≤ lk) (hi : x.ain lk = false) (hs : r.state = 0) :
    Calls Try.prog 17 #[.pointer (some ⟨r.p, 0, none⟩)] w fun e w' => e = .returned (.tuple #[.int .i64 0, .int .i64 7]) ∧ Drawn w w' := by
  have hc := h.blk.cell
  rw [hs] at hc
  have HT := Hid.mk (Calls.of_drawn (rlook_no x lk va nw r w hx h h0 hi))
  clear hi hs h
  go_enter Try.func17, Try.ntmps17
  go_wp2_with ((go_at_call 56; refine HT.out.mono ?_; rintro e w' ⟨rfl, ⟨m1, rfl⟩⟩))
  go_ret2
  exact ⟨rfl, _, rfl⟩

set_option maxRecDepth 100000 in
theorem rmove_nil (w : World) : Calls Try.prog 17 #[.pointer none] w fun e w' => e = .returned (.tuple #[.int .i64 0, .int .i64 2]) ∧ w = w' := by
  go_enter Try.func17, Try.ntmps17
  go_wp2_with fail
  go_ret2
  exact ⟨rfl, rfl⟩

set_option maxRecDepth 100000 in
set_option maxHeartbeats 1000000 in
theorem rmove_ok (x : Buf) (lk va : Int) (nw : Nat) (r : Rd) (h : Bool) (c : Int) (w : World) (hx : BufAt w x) (hr : RdAt w x.b lk va nw r) (hf : r.Fit x lk va nw h c) (hX : ∀ a, U64 (x.at_ a)) :
    Calls Try.prog 17 #[.pointer (some ⟨r.p, 0, none⟩)] w fun e w' =>
      e = .returned (.tuple #[.int .i64 (r.step x va nw h c).1, .int .i64 0]) ∧ ∃ v', RdAt w' x.b lk va nw { (r.step x va nw h c).2 with v := v' } ∧ (∀ g, v'.ownBlock = some g → r.v.ownBlock = some g ∨ w.heap.size ≤ g) ∧ Keep r.fp w w' := by
  have hc := hr.blk.cell
  have hst := hr.st
  unfold Rd.step
  have h5 : r.state = 0 ∨ r.state = 1 ∨ 2 ≤ r.state := by omega
  rcases h5 with h5 | h5 | h5
  · rw [h5] at hc
    rw [if_pos h5]
    cases h with
    | true =>
      have HT := Hid.mk (Calls.of_drawn (rlook_busy x lk va nw r c w hx hr hf.lk0 hf.lkin hf.lock hf.c0 hf.c1))
      clear hf hst h5
      rw [if_pos rfl]
      go_enter Try.func17, Try.ntmps17
      go_wp2_with ((go_at_call 56; refine HT.out.mono ?_; rintro e w' ⟨rfl, ⟨m1, rfl⟩⟩))
      go_ret2
      exact ⟨rfl, r.v, hr.drewN _, fun g hg => .inl hg, (Keep.refl _ _).drewN _⟩
    | false =>
      have HT := Hid.mk (rlook_ok x lk va nw r c w hx hr hf.lk0 hf.lkin hf.lock hf.c0 hf.c1)
      clear hf hst h5
      rw [if_neg (by decide)]
      go_enter Try.func17, Try.ntmps17
      go_wp2_with ((go_at_call 56; refine HT.out.mono ?_; rintro e w' ⟨rfl, hw, hk⟩))
      go_ret2
      exact ⟨rfl, .slice none 0 0, hw, fun g hg => by simp [Value.ownBlock] at hg, hk.mono (by simp [Rd.fp])⟩
  · rw [h5] at hc
    rw [if_neg (by omega), if_pos h5]
    obtain ⟨A, cap, hv, hlc, hC, hb⟩ := hr.row.reads
    rw [hv] at hc
    by_cases hl : r.l.length < nw
    · rw [if_pos hl]
      have HT := Hid.mk (fun (m : Nat) => rread_ok x lk va nw r (w.drewN m) (hx.drewN m) (hr.drewN m) hf.va0 hf.va9 (hf.vain _ hl) (by have := hf.nw1; omega) (hX _))
      have hd2 : decide ((r.l.length : Int) < (nw : Int)) = true := by simpa using hl
      clear hf hst h5
      go_enter Try.func17, Try.ntmps17
      go_wp2_with fail
      go_quiet (fail)
      go_wp2_with ((go_at_call 57; refine (HT.out nq).mono ?_; rintro e w' ⟨rfl, v', hw, hv', hk⟩))
      go_ret2
      exact ⟨rfl, v', hw, hv', ((Keep.refl _ _).drewN nq).trans hk (fun b hb => .inl hb)⟩
    · rw [if_neg hl]
      have hd2 : decide ((r.l.length : Int) < (nw : Int)) = false := by simpa using hl
      by_cases hs : LK h c = r.seen
      · rw [if_pos hs]
        have hle : r.l.length = nw := by have := hf.le; omega
        have HT := Hid.mk (fun (m : Nat) => rcheck_ok x lk va nw r (w.drewN m) (hx.drewN m) (hr.drewN m) hf.lk0 hf.lkin (hf.lock.trans hs) (by rw [hle]; exact hf.nwn) (hf.zero h5 hle hs))
        clear hf hst h5 hs hle
        go_enter Try.func17, Try.ntmps17
        go_wp2_with fail
        go_quiet (fail)
        go_wp2_with ((go_at_call 58; refine (HT.out nq).mono ?_; rintro e w' ⟨rfl, hw, hk⟩))
        go_ret2
        exact ⟨rfl, r.v, hw, fun g hg => .inl hg, ((Keep.refl _ _).drewN nq).trans hk (by simp [Rd.fp])⟩
      · rw [if_neg hs]
        have HT := Hid.mk (fun (m : Nat) => rcheck_no x lk va nw r (LK h c) (w.drewN m) (hx.drewN m) (hr.drewN m) hf.lk0 hf.lkin hf.lock hs)
        clear hf hst h5 hs
        go_enter Try.func17, Try.ntmps17
        go_wp2_with fail
        go_quiet (fail)
        go_wp2_with ((go_at_call 58; refine (HT.out nq).mono ?_; rintro e w' ⟨rfl, hw, hk⟩))
        go_ret2
        exact ⟨rfl, r.v, hw, fun g hg => .inl hg, ((Keep.refl _ _).drewN nq).trans hk (by simp [Rd.fp])⟩
  · have hd1 : ((r.state : Int) == 0) = false := by simp; omega
    have hd2 : ((r.state : Int) == 1) = false := by simp; omega
    rw [if_neg (by omega), if_neg (by omega)]
    clear hf hst
    go_enter Try.func17, Try.ntmps17
    go_wp2_with fail
    go_quiet (fail)
    go_wp2_with fail
    go_ret2
    exact ⟨rfl, r.v, hr.drewN _, fun g hg => .inl hg, (Keep.refl _ _).drewN _⟩

set_option maxRecDepth 100000 in
theorem rvalue_ok (b : Nat) (lk va : Int) (nw : Nat) (r : Rd) (w : World) (hr : RdAt w b lk va nw r) :
    Calls Try.prog 18 #[.pointer (some ⟨r.p, 0, none⟩)] w fun e w' => e = .returned (.string r.val) ∧ w = w' := by
  have hc := hr.blk.cell
  go_enter Try.func18, Try.ntmps18
  go_wp2_with fail
  go_ret
  exact ⟨rfl, rfl⟩

set_option maxRecDepth 100000 in
theorem rvalue_nil (w : World) : Calls Try.prog 18 #[.pointer none] w fun e w' => e = .returned (.string ⟨#[]⟩) ∧ w = w' := by
  go_enter Try.func18, Try.ntmps18
  go_wp2_with fail
  go_ret
  exact ⟨rfl, rfl⟩
end Go.Proofs.Ytlgebknbfchnlaa

/- Contracts of field_Words: sections of texts that print.sh wrote for this claim, laid together. -/
namespace Go.Proofs.Ytlgebknbfchnlaa.PInplacePlays
set_option linter.unusedVariables false
set_option linter.unusedSimpArgs false
open Go.RowKit Go.Proofs.YtlgebknbfchnlaaW.PrintWords Go.Proofs.YtlgebknbfchnlaaW.PrintLast Go.Proofs.YtlgebknbfchnlaaW.PrintMore
attribute [local go_sem] max2_int min2_int max_two min_two max_three min_three max_four min_four   -- for this text's walks alone
set_option linter.unusedVariables false
set_option linter.unusedSimpArgs false


/-! ### field_Words -/
def field_Words.l0 : Nat → ByteArray → List Int → Int → Int → Option (List Int)
  | 0, _, _, _, _ => none
  | k + 1, x0, x3, x12, x13 => if x13 < x12 then (if 0 ≤ (wrap64 (Int.tdiv x13 8)) then (if (wrap64 (Int.tdiv x13 8)) < (x3.length : Int) then (if 0 ≤ x13 then (if x13 < (x0.size : Int) then (if 0 ≤ (wrap64 ((Int.tmod x13 8) * 8)) then (field_Words.l0 k x0 (x3.set ((wrap64 (Int.tdiv x13 8)) : Int).toNat (Go.bits .or .u64 (rd x3 (wrap64 (Int.tdiv x13 8))) (shl .u64 (IntKind.u64.wrap (bt x0 x13)) (wrap64 ((Int.tmod x13 8) * 8))))) x12 (wrap64 (x13 + 1))) else (none)) else (none)) else (none)) else (none)) else (none)) else (some x3)
def field_Words.f (k : Nat) (a0 : ByteArray) : Option (List Int) := if 0 ≤ (wrap64 (Int.tdiv (wrap64 ((wrap64 ((a0.size : Int) + 8)) - 1)) 8)) then (if (wrap64 (Int.tdiv (wrap64 ((wrap64 ((a0.size : Int) + 8)) - 1)) 8) : Int).toNat ≤ 35184372088832 then (field_Words.l0 k a0 (List.replicate (wrap64 (Int.tdiv (wrap64 ((wrap64 ((a0.size : Int) + 8)) - 1)) 8) : Int).toNat 0) (a0.size : Int) 0) else (none)) else (none)
theorem field_Words.mono_l : ∀ k, (∀ y0 y1 y2 y3, LeO (field_Words.l0 k y0 y1 y2 y3) (field_Words.l0 (k + 1) y0 y1 y2 y3))
  | 0 => fun _ _ _ _ r h => by simp [field_Words.l0] at h
  | k + 1 => by
    have ih0 := field_Words.mono_l k
    · intro y0 y1 y2 y3
      unfold field_Words.l0
      repeat' first
      | (with_reducible exact ih0 _ _ _ _)
      | (with_reducible exact LeO.refl _)
      | (with_reducible exact LeO.none _)
      | (with_reducible refine LeO.ite ?_ ?_)
      | (with_reducible refine LeO.bind ?_ (fun _ => ?_))
      | exact ih0 _ _ _ _
      | exact LeO.none _
      | refine LeO.ite ?_ ?_
      | refine LeO.bind ?_ (fun _ => ?_)
theorem field_Words.mono : ∀ a0 k, LeO (field_Words.f k a0) (field_Words.f (k + 1) a0) := by
  intro a0 k
  have ih0 := field_Words.mono_l k
  unfold field_Words.f
  repeat' first
      | (with_reducible exact ih0 _ _ _ _)
      | (with_reducible exact LeO.refl _)
      | (with_reducible exact LeO.none _)
      | (with_reducible refine LeO.ite ?_ ?_)
      | (with_reducible refine LeO.bind ?_ (fun _ => ?_))
      | exact ih0 _ _ _ _
      | exact LeO.none _
      | refine LeO.ite ?_ ?_
      | refine LeO.bind ?_ (fun _ => ?_)
def field_Words.T5 : Bool × List (List Nat × List Nat) := (true, [([], []), ([], []), ([1], [1]), ([0, 2], [0, 2]), ([3], [3]), ([], []), ([], []), ([5, 6], [5, 6]), ([7], [7]), ([], []), ([9], [9]), ([10], [10]), ([8, 11], [8, 11]), ([4, 12], [4, 12]), ([0, 2, 0, 1, 2, 3, 4, 5, 6, 7, 8, 9, 10, 11, 12, 13], [0, 2]), ([14, 13, 0, 1, 2, 3, 4, 5, 6, 7, 8, 9, 10, 11, 12, 13], [13, 14])])
def field_Words.B5 : List Nat := [0, 0, 2, 7, 15, 0, 0, 96, 224, 0, 512, 1536, 4064, 8191, 16383, 32767]
theorem field_Words.tab5 : rtab .any (opsOf Try.f49 5) = field_Words.T5 := by kernel_rfl
theorem field_Words.bits5 : waitsOk field_Words.T5.2 field_Words.B5 = true := by kernel_rfl
set_option maxHeartbeats 8000000 in
set_option maxRecDepth 100000 in
theorem field_Words.calls (k : Nat) (a0 : ByteArray) (r : List Int) (w : World) (h : field_Words.f k a0 = some r) :
    Calls Try.prog 49 #[.string a0] w fun e w' => ∃ v0_ : Value, e = .returned (v0_) ∧ Kd.R (Kd.int .u64) 22 w' w.heap.size (fun _ => True) v0_ r ∧ Below w.heap.size w w' := by
  have HB := Aside0.mk (Below.refl w.heap.size w)
  have H : (if 0 ≤ (wrap64 (Int.tdiv (wrap64 ((wrap64 ((a0.size : Int) + 8)) - 1)) 8)) then (if (wrap64 (Int.tdiv (wrap64 ((wrap64 ((a0.size : Int) + 8)) - 1)) 8) : Int).toNat ≤ 35184372088832 then (field_Words.l0 k a0 (List.replicate (wrap64 (Int.tdiv (wrap64 ((wrap64 ((a0.size : Int) + 8)) - 1)) 8) : Int).toNat 0) (a0.size : Int) 0) else (none)) else (none)) = some r := h
  clear h
  obtain ⟨ji2, hji2⟩ : ∃ j_ : Int, (wrap64 (Int.tdiv (wrap64 ((wrap64 ((a0.size : Int) + 8)) - 1)) 8)) = j_ := ⟨_, rfl⟩
  replace H : (if 0 ≤ (ji2) then (if (ji2 : Int).toNat ≤ 35184372088832 then (field_Words.l0 k a0 (List.replicate (ji2 : Int).toNat 0) (a0.size : Int) 0) else (none)) else (none)) = some r := by first | (rw [hji2] at H; exact H) | (simp only [hji2] at H ⊢; exact H)
  have hji2w : (IntKind.i64.wrap (Int.tdiv (wrap64 ((wrap64 ((a0.size : Int) + 8)) - 1)) 8)) = ji2 := (i64_w _).trans hji2
  by_cases c3 : 0 ≤ (ji2)
  · rw [if_pos c3] at H
    have c3b0 := eq_true c3
    have c3b1 : decide (0 ≤ (ji2)) = true := decide_eq_true c3
    clear c3
    by_cases c4 : (ji2 : Int).toNat ≤ 35184372088832
    · rw [if_pos c4] at H
      have c4b0 := eq_true c4
      have c4b1 : decide ((ji2 : Int).toNat ≤ 35184372088832) = true := decide_eq_true c4
      clear c4
      obtain ⟨y135, hy135⟩ : ∃ y_ : List Int, y_ = (List.replicate (ji2 : Int).toNat 0) := ⟨_, rfl⟩
      replace H : (field_Words.l0 k a0 y135 (a0.size : Int) 0) = some r := by first | (rw [hy135]; with_reducible exact H) | (have H2_ := (Option.bind_some _ _).symm.trans H; rw [hy135]; with_reducible exact H2_) | (have H2_ := (Option.bind_some _ _).symm.trans H; with_reducible exact H2_) | with_reducible exact H | (rw [hy135]; exact H) | exact H
      have Ny135 := Aside0.mk hy135
      clear hy135
      have H' := Aside0.mk H
      clear H
      go_enter Try.func49, Try.ntmps49
      go_wp2_with (first | ((with_reducible refine gate_dst (N := 10) rfl ?_); refine Kd.R_make (Kd.int .u64) _ 22 rfl (N := 10) rfl 40 _ _ rfl ji2 rfl rfl Try.underlying40 (.int .u64 0) 8 info22 rfl (by decide) (by omega) 0 (ok := fun _ => True) (okp := fun _ => True) rfl (fun _ hk => hk) trivial (of_decide_eq_true (by first | (with_reducible assumption) | assumption)) (Nat.le_trans (Nat.mul_le_mul_right _ (of_decide_eq_true (by first | (with_reducible assumption) | assumption) : ji2.toNat ≤ 35184372088832)) (by omega)) (Below.refl _ _) (Nat.le_refl _) ?_; intro v136 w5 ho6 hb hg_ hnew_; clear hg_ hnew_; (first | rw [← Ny135.out] at ho6 | (simp only [Int.reduceToNat] at ho6; rw [← Ny135.out] at ho6)); have n0_ := Aside0.mk (Kd.R_lower ho6 (below_size (by repeat (first | (with_reducible first | exact HB.out | apply below_alloc | apply pw_below_drewN | apply below_drew1) | exact HB.out)))); have n1_ := Aside0.mk (below_step (by repeat (first | (with_reducible first | exact HB.out | apply below_alloc | apply pw_below_drewN | apply below_drew1) | exact HB.out)) hb); clear HB; have HO137 := n0_; have HB := n1_; clear n0_ n1_; clear hb ho6))
      go_loopg [13] k (fun kq v13 w' => ∃ (x3_1 : List Int) (x13_1 : Int), v13 = .int .i64 x13_1 ∧ Aside0 (field_Words.l0 kq a0 x3_1 (a0.size : Int) x13_1 = some r) ∧ Aside0 (kq ≤ k) ∧ Aside0 (Kd.R (Kd.int .u64) 22 w' w.heap.size (fun _ => True) v136 x3_1) ∧ Aside0 (Below w.heap.size w w'))
      case atStart => exact ⟨(y135), (0), (by first | rfl | (simp; done) | (simp [*]; done)), H', ⟨Nat.le_refl _⟩, ⟨by (with_reducible repeat (first | apply Kd.R_alloc | apply Kd.R_drewN | apply Kd.R_drew)); exact HO137.out⟩, ⟨by repeat (first | (with_reducible first | exact HB.out | apply below_alloc | apply pw_below_drewN | apply below_drew1) | exact HB.out)⟩⟩
      case round =>
        clear H'
        try clear p2
        try clear c3
        try clear c3b0
        try clear c3b1
        try clear c4
        try clear c4b0
        try clear c4b1
        try clear p6
        obtain ⟨x3_1, x13_1, rfl, HA, HK1, HO_3, HB⟩ := hrel
        cases gk with
        | zero => exact absurd HA.out (by simp [field_Words.l0])
        | succ k1 =>
          have H := HA.out
          clear HA
          simp only [field_Words.l0] at H
          by_cases c7 : x13_1 < (a0.size : Int)
          · rw [if_pos c7] at H
            have c7b0 : decide (x13_1 < (a0.size : Int)) = true := decide_eq_true c7
            clear c7
            obtain ⟨ji8, hji8⟩ : ∃ j_ : Int, (wrap64 (Int.tdiv x13_1 8)) = j_ := ⟨_, rfl⟩
            replace H : (if 0 ≤ (ji8) then (if (ji8) < (x3_1.length : Int) then (if 0 ≤ x13_1 then (if x13_1 < (a0.size : Int) then (if 0 ≤ (wrap64 ((Int.tmod x13_1 8) * 8)) then (field_Words.l0 k1 a0 (x3_1.set ((ji8) : Int).toNat (Go.bits .or .u64 (rd x3_1 (ji8)) (shl .u64 (IntKind.u64.wrap (bt a0 x13_1)) (wrap64 ((Int.tmod x13_1 8) * 8))))) (a0.size : Int) (wrap64 (x13_1 + 1))) else (none)) else (none)) else (none)) else (none)) else (none)) = some r := by first | (rw [hji8] at H; exact H) | (simp only [hji8] at H ⊢; exact H)
            have hji8w : (IntKind.i64.wrap (Int.tdiv x13_1 8)) = ji8 := (i64_w _).trans hji8
            by_cases c9 : 0 ≤ (ji8)
            · rw [if_pos c9] at H
              have c9b0 : decide (0 ≤ (ji8)) = true := decide_eq_true c9
              clear c9
              by_cases c10 : (ji8) < (x3_1.length : Int)
              · rw [if_pos c10] at H
                have c10b0 : decide ((ji8) < (x3_1.length : Int)) = true := decide_eq_true c10
                clear c10
                by_cases c11 : 0 ≤ x13_1
                · rw [if_pos c11] at H
                  have c11b0 : decide (0 ≤ x13_1) = true := decide_eq_true c11
                  clear c11
                  by_cases c12 : x13_1 < (a0.size : Int)
                  · rw [if_pos c12] at H
                    have c12b0 : decide (x13_1 < (a0.size : Int)) = true := decide_eq_true c12
                    clear c12
                    obtain ⟨ji14, hji14⟩ : ∃ j_ : Int, (wrap64 ((Int.tmod x13_1 8) * 8)) = j_ := ⟨_, rfl⟩
                    replace H : (if 0 ≤ (ji14) then (field_Words.l0 k1 a0 (x3_1.set ((ji8) : Int).toNat (Go.bits .or .u64 (rd x3_1 (ji8)) (shl .u64 (IntKind.u64.wrap (bt a0 x13_1)) (ji14)))) (a0.size : Int) (wrap64 (x13_1 + 1))) else (none)) = some r := by first | (rw [hji14] at H; exact H) | (simp only [hji14] at H ⊢; exact H)
                    have hji14w : (IntKind.i64.wrap ((Int.tmod x13_1 8) * 8)) = ji14 := (i64_w _).trans hji14
                    by_cases c15 : 0 ≤ (ji14)
                    · rw [if_pos c15] at H
                      have c15b0 := eq_true c15
                      have c15b1 : decide (0 ≤ (ji14)) = true := decide_eq_true c15
                      clear c15
                      obtain ⟨ji16, hji16⟩ : ∃ j_ : Int, (shl .u64 (IntKind.u64.wrap (bt a0 x13_1)) (ji14)) = j_ := ⟨_, rfl⟩
                      replace H : (field_Words.l0 k1 a0 (x3_1.set ((ji8) : Int).toNat (Go.bits .or .u64 (rd x3_1 (ji8)) (ji16))) (a0.size : Int) (wrap64 (x13_1 + 1))) = some r := by first | (rw [hji16] at H; exact H) | (simp only [hji16] at H ⊢; exact H)
                      have hji16_ : (IntKind.u64.wrap ((IntKind.u64.wrap (bt a0 x13_1)) * 2 ^ min (ji14).toNat 64)) = ji16 := hji16
                      have hji16z : (ji14) ≤ 64 → (IntKind.u64.wrap ((IntKind.u64.wrap (bt a0 x13_1)) * 2 ^ (ji14).toNat)) = ji16 := shl_small hji16
                      obtain ⟨y139, hy139⟩ : ∃ y_ : List Int, y_ = (x3_1.set ((ji8) : Int).toNat (Go.bits .or .u64 (rd x3_1 (ji8)) (ji16))) := ⟨_, rfl⟩
                      replace H : (field_Words.l0 k1 a0 y139 (a0.size : Int) (wrap64 (x13_1 + 1))) = some r := by first | (rw [hy139]; with_reducible exact H) | (have H2_ := (Option.bind_some _ _).symm.trans H; rw [hy139]; with_reducible exact H2_) | (have H2_ := (Option.bind_some _ _).symm.trans H; with_reducible exact H2_) | with_reducible exact H | (rw [hy139]; exact H) | exact H
                      have Ny139 := Aside0.mk hy139
                      clear hy139
                      have H' := Aside0.mk H
                      clear H
                      try go_wp2
                      have n0_ := Aside0.mk (Kd.R_drew HO_3.out)
                      have n1_ := Aside0.mk (below_drew1 HB.out)
                      clear HO_3
                      clear HB
                      have HO_3 := n0_
                      have HB := n1_
                      clear n0_ n1_
                      obtain ⟨Ao19, co19, eo19⟩ := Kd.R_slice HO_3.out
                      (first | subst eo19 | (injection eo19 with f1_ f2_ f3_; have f4_ := f1_.symm; have f5_ := f3_.symm; clear f1_ f2_ f3_; subst f4_; subst f5_))
                      have p138 : 0 ≤ ((ji8) : Int) := of_decide_eq_true (by first | (with_reducible assumption) | assumption)
                      have q138 : (ji8) < (x3_1.length : Int) := of_decide_eq_true (by first | (with_reducible assumption) | assumption)
                      obtain ⟨ad138, e138, hx138_0⟩ := Kd.at_int (Kd.R_reads' HO_3.out).2.2 (ji8) p138 q138
                      cases e138
                      replace p138 := eq_true p138
                      replace q138 := eq_true q138
                      have p13 : 0 ≤ (x13_1 : Int) := of_decide_eq_true (by first | (with_reducible assumption) | assumption)
                      have q13 : x13_1 < (a0.size : Int) := of_decide_eq_true (by first | (with_reducible assumption) | assumption)
                      have hx13 := bt_at a0 x13_1
                      replace p13 := eq_true p13
                      replace q13 := eq_true q13
                      have p17 : 0 ≤ ((ji8) : Int) := of_decide_eq_true (by first | (with_reducible assumption) | assumption)
                      have q17 : ((ji8) : Int) < ((x3_1.length : Int) : Int) := of_decide_eq_true (by first | (with_reducible assumption) | assumption)
                      obtain ⟨go17, co17, eo17, gb17, gl17, cl17, HG17⟩ := Kd.R_form HO_3.out (by omega)
                      (first | cases eo17 | (injection eo17 with ea_ en_ ec_; (first | subst ea_ | (injection ea_ with ea_; subst ea_)); subst ec_; clear en_))
                      have GB17 := Aside0.mk gb17
                      have GG17 := Aside0.mk HG17
                      clear gb17 gl17 HG17
                      (first | simp only [add_plain] at hx138_0 | skip)
                      obtain ⟨hx17_0, hf17_0⟩ := Kd.R_celln 0 HO_3.out ((ji8) : Int) p17 q17
                      replace p17 := eq_true p17
                      replace q17 := eq_true q17
                      have HP20 := Kd.R_putn HO_3.out ((ji8) : Int) (Go.bits .or .u64 (rd x3_1 (ji8)) (ji16))
                      rw [← Ny139.out] at HP20
                      have HQ20 := Aside0.mk HP20
                      clear HP20
                      refine start_ (n := 16) (S := fun w' => w'.cell? ⟨go17, ((ji8)).toNat, none⟩ = some (.int .u64 (rd x3_1 (ji8)))) (ds := [15]) #[false, false, false, false, false, false, false, false, false, false, false, false, false, false, false, false] (by kernel_rfl) rfl rfl (hx138_0) (fun hHeld => ?_); refine with_tabW field_Words.tab5 field_Words.bits5 (fun HT_ HW_ => ?_)
                      generalize wr.drew = w18 at HO_3 HB GG17 HQ20 hf17_0 hx138_0 hx17_0 hHeld ⊢
                      refine pure_ (i := 0) (N := some 16) (v := ?_) (a' := ?_) #[true, false, false, false, false, false, false, false, false, false, false, false, false, false, false, false] rfl rfl (any_of HT_.out (by kernel_rfl)) (fun _ _ _ h => h) (Or.inl ⟨by rfl, ?_⟩) ?_ ?_
                      rotate_left
                      · intro w'
                        go_simp
                        with_reducible rfl
                      rotate_left
                      · simp only [Act.put, List.setIfInBounds_toArray, List.set_cons_zero, List.set_cons_succ, i64_w, i32_w]
                        rfl
                      refine pure_ (i := 1) (N := some 17) (v := ?_) (a' := ?_) #[true, true, false, false, false, false, false, false, false, false, false, false, false, false, false, false] rfl rfl (any_of HT_.out (by kernel_rfl)) (fun _ _ _ h => h) (Or.inl ⟨by rfl, ?_⟩) ?_ ?_
                      rotate_left
                      · intro w'
                        go_simp
                        with_reducible rfl
                      rotate_left
                      · simp only [Act.put, List.setIfInBounds_toArray, List.set_cons_zero, List.set_cons_succ, i64_w, i32_w]
                        rfl
                      refine pure_ (i := 2) (N := some 18) (v := ?_) (a' := ?_) #[true, true, true, false, false, false, false, false, false, false, false, false, false, false, false, false] rfl rfl (any_of HT_.out (by kernel_rfl)) (fun _ _ _ h => h) (Or.inl ⟨by rfl, ?_⟩) ?_ ?_
                      rotate_left
                      · intro w'
                        go_simp
                        with_reducible rfl
                      rotate_left
                      · simp only [Act.put, List.setIfInBounds_toArray, List.set_cons_zero, List.set_cons_succ, i64_w, i32_w]
                        rfl
                      refine pure_ (i := 3) (N := some 19) (v := ?_) (a' := ?_) #[true, true, true, true, false, false, false, false, false, false, false, false, false, false, false, false] rfl rfl (any_of HT_.out (by kernel_rfl)) (fun _ _ _ h => h) (Or.inl ⟨by rfl, ?_⟩) ?_ ?_
                      rotate_left
                      · intro w'
                        go_simp
                        with_reducible rfl
                      rotate_left
                      · simp only [Act.put, List.setIfInBounds_toArray, List.set_cons_zero, List.set_cons_succ, i64_w, i32_w]
                        rfl
                      refine pure_ (i := 5) (N := some 21) (v := ?_) (a' := ?_) #[true, true, true, true, false, true, false, false, false, false, false, false, false, false, false, false] rfl rfl (any_of HT_.out (by kernel_rfl)) (fun _ _ _ h => h) (Or.inl ⟨by rfl, ?_⟩) ?_ ?_
                      rotate_left
                      · intro w'
                        go_simp
                        with_reducible rfl
                      rotate_left
                      · simp only [Act.put, List.setIfInBounds_toArray, List.set_cons_zero, List.set_cons_succ, i64_w, i32_w]
                        rfl
                      refine pure_ (i := 6) (N := some 22) (v := ?_) (a' := ?_) #[true, true, true, true, false, true, true, false, false, false, false, false, false, false, false, false] rfl rfl (any_of HT_.out (by kernel_rfl)) (fun _ _ _ h => h) (Or.inl ⟨by rfl, ?_⟩) ?_ ?_
                      rotate_left
                      · intro w'
                        go_simp
                        with_reducible rfl
                      rotate_left
                      · simp only [Act.put, List.setIfInBounds_toArray, List.set_cons_zero, List.set_cons_succ, i64_w, i32_w]
                        rfl
                      refine pure_ (i := 9) (N := some 25) (v := ?_) (a' := ?_) #[true, true, true, true, false, true, true, false, false, true, false, false, false, false, false, false] rfl rfl (any_of HT_.out (by kernel_rfl)) (fun _ _ _ h => h) (Or.inl ⟨by rfl, ?_⟩) ?_ ?_
                      rotate_left
                      · intro w'
                        go_simp
                        with_reducible rfl
                      rotate_left
                      · simp only [Act.put, List.setIfInBounds_toArray, List.set_cons_zero, List.set_cons_succ, i64_w, i32_w]
                        rfl
                      refine pure_ (i := 10) (N := some 26) (v := ?_) (a' := ?_) #[true, true, true, true, false, true, true, false, false, true, true, false, false, false, false, false] rfl rfl (any_of HT_.out (by kernel_rfl)) (fun _ _ _ h => h) (Or.inl ⟨by rfl, ?_⟩) ?_ ?_
                      rotate_left
                      · intro w'
                        go_simp
                        with_reducible rfl
                      rotate_left
                      · simp only [Act.put, List.setIfInBounds_toArray, List.set_cons_zero, List.set_cons_succ, i64_w, i32_w]
                        rfl
                      refine pure_ (i := 11) (N := some 27) (v := ?_) (a' := ?_) #[true, true, true, true, false, true, true, false, false, true, true, true, false, false, false, false] rfl rfl (any_of HT_.out (by kernel_rfl)) (fun _ _ _ h => h) (Or.inl ⟨by rfl, ?_⟩) ?_ ?_
                      rotate_left
                      · intro w'
                        go_simp
                        with_reducible rfl
                      rotate_left
                      · simp only [Act.put, List.setIfInBounds_toArray, List.set_cons_zero, List.set_cons_succ, i64_w, i32_w]
                        rfl
                      refine take_ (i := 4) (N := some 20) (v := ?_) (a' := ?_) #[true, true, true, true, true, true, true, false, false, true, true, true, false, false, false, false] rfl rfl (take_ofW HT_.out HW_.out (by kernel_rfl)) (fun _ _ _ h => h) (Or.inl ⟨by rfl, ?_⟩) hHeld ?_ ?_
                      rotate_left
                      · intro w' s0
                        go_simp
                        with_reducible rfl
                      rotate_left
                      · simp only [Act.put, List.setIfInBounds_toArray, List.set_cons_zero, List.set_cons_succ, i64_w, i32_w]
                        rfl
                      refine take_ (i := 7) (N := some 23) (v := ?_) (a' := ?_) #[true, true, true, true, true, true, true, true, false, true, true, true, false, false, false, false] rfl rfl (take_ofW HT_.out HW_.out (by kernel_rfl)) (fun _ _ _ h => h) (Or.inl ⟨by rfl, ?_⟩) hHeld ?_ ?_
                      rotate_left
                      · intro w' s0
                        go_simp
                        with_reducible rfl
                      rotate_left
                      · simp only [Act.put, List.setIfInBounds_toArray, List.set_cons_zero, List.set_cons_succ, i64_w, i32_w]
                        rfl
                      refine pure_ (i := 8) (N := some 24) (v := ?_) (a' := ?_) #[true, true, true, true, true, true, true, true, true, true, true, true, false, false, false, false] rfl rfl (any_of HT_.out (by kernel_rfl)) (fun _ _ _ h => h) (Or.inl ⟨by rfl, ?_⟩) ?_ ?_
                      rotate_left
                      · intro w'
                        go_simp
                        with_reducible rfl
                      rotate_left
                      · simp only [Act.put, List.setIfInBounds_toArray, List.set_cons_zero, List.set_cons_succ, i64_w, i32_w]
                        rfl
                      refine pure_ (i := 12) (N := some 28) (v := ?_) (a' := ?_) #[true, true, true, true, true, true, true, true, true, true, true, true, true, false, false, false] rfl rfl (any_of HT_.out (by kernel_rfl)) (fun _ _ _ h => h) (Or.inl ⟨by rfl, ?_⟩) ?_ ?_
                      rotate_left
                      · intro w'
                        go_simp
                        with_reducible rfl
                      rotate_left
                      · simp only [Act.put, List.setIfInBounds_toArray, List.set_cons_zero, List.set_cons_succ, i64_w, i32_w]
                        rfl
                      refine pure_ (i := 13) (N := some 29) (v := ?_) (a' := ?_) #[true, true, true, true, true, true, true, true, true, true, true, true, true, true, false, false] rfl rfl (any_of HT_.out (by kernel_rfl)) (fun _ _ _ h => h) (Or.inl ⟨by rfl, ?_⟩) ?_ ?_
                      rotate_left
                      · intro w'
                        go_simp
                        with_reducible rfl
                      rotate_left
                      · simp only [Act.put, List.setIfInBounds_toArray, List.set_cons_zero, List.set_cons_succ, i64_w, i32_w]
                        rfl
                      refine pure_ (i := 14) (N := some 30) (v := ?_) (a' := ?_) #[true, true, true, true, true, true, true, true, true, true, true, true, true, true, true, false] rfl rfl (any_of HT_.out (by kernel_rfl)) (fun _ _ _ h => h) (Or.inl ⟨by rfl, ?_⟩) ?_ ?_
                      rotate_left
                      · intro w'
                        go_simp
                        with_reducible rfl
                      rotate_left
                      · simp only [Act.put, List.setIfInBounds_toArray, List.set_cons_zero, List.set_cons_succ, i64_w, i32_w]
                        rfl
                      refine last_ (i := 15) (N := none) #[true, true, true, true, true, true, true, true, true, true, true, true, true, true, true, true] rfl rfl (one_of HT_.out (by kernel_rfl)) (by decide) (fun K hK => ?_)
                      refine skip_ (w1 := ?_) (by rfl) rfl ?_ ?_
                      rotate_left
                      · go_simp
                        rfl
                      refine hK.out _ _ ?_
                      clear hK K
                      refine done_ (done_of HT_.out (by kernel_rfl)) ?_
                      try go_wp2
                      go_roundg k1
                      case measure => have := HK1.out; omega
                      case rel => exact ⟨(y139), (wrap64 (x13_1 + 1)), (by first | rfl | (simp; done) | (simp [*]; done)), H', ⟨by have := HK1.out; omega⟩, ⟨by (with_reducible repeat (first | apply Kd.R_alloc | apply Kd.R_drewN | apply Kd.R_drew)); exact HQ20.out⟩, ⟨by repeat (first | (with_reducible first | exact HB.out | apply below_alloc | apply pw_below_drewN | apply below_drew1 | refine below_set ?_ GB17.out) | exact HB.out)⟩⟩
                    · rw [if_neg c15] at H
                      exact absurd H (by simp)
                  · rw [if_neg c12] at H
                    exact absurd H (by simp)
                · rw [if_neg c11] at H
                  exact absurd H (by simp)
              · rw [if_neg c10] at H
                exact absurd H (by simp)
            · rw [if_neg c9] at H
              exact absurd H (by simp)
          · rw [if_neg c7] at H
            have c7b0 : decide (x13_1 < (a0.size : Int)) = false := decide_eq_false c7
            clear c7
            obtain rfl := Option.some.inj H
            go_wp2
            go_ret
            exact ⟨_, by first | rfl | (simp [errW_none, errW_some] <;> rfl) | (simp only [← hji2]; first | rfl | (simp [errW_none, errW_some] <;> rfl)) | (simp [*, errW_none, errW_some] <;> rfl), by (with_reducible repeat (first | apply Kd.R_alloc | apply Kd.R_drewN | apply Kd.R_drew)); exact HO_3.out, by repeat (first | (with_reducible first | exact HB.out | apply below_alloc | apply pw_below_drewN | apply below_drew1) | exact HB.out)⟩
    · rw [if_neg c4] at H
      exact absurd H (by simp)
  · rw [if_neg c3] at H
    exact absurd H (by simp)


end Go.Proofs.Ytlgebknbfchnlaa.PInplacePlays

/- What field.Words and the reference's Words compute: one list, in closed form. -/
namespace Go.Proofs.Ytlgebknbfchnlaa
set_option linter.unusedVariables false
set_option linter.unusedSimpArgs false
open Go Go.RowKit Go.Hay Go.Proofs.YtlgebknbfchnlaaW.PrintWords Go.Proofs.YtlgebknbfchnlaaW.PrintMore Go.Proofs.YtlgebknbfchnlaaW.PrintLast

/-- The first m bytes of word j of a text. -/
def wordLow (s : ByteArray) (j : Nat) : Nat → Int
  | 0 => 0
  | m + 1 => wordLow s j m + bt s ((8 * j + m : Nat) : Int) * 256 ^ m
def wordAt (s : ByteArray) (j : Nat) : Int := wordLow s j 8
def wordsN (s : ByteArray) : Nat := (s.size + 7) / 8
def wordsL (s : ByteArray) : List Int := (List.range (wordsN s)).map (wordAt s)

theorem wordsL_length (s : ByteArray) : (wordsL s).length = wordsN s := by simp [wordsL]
theorem wordLow_bd (s : ByteArray) (j m : Nat) : 0 ≤ wordLow s j m ∧ wordLow s j m < 256 ^ m := by
  induction m with
  | zero => simp [wordLow]
  | succ m ih =>
    have hb := bt_range s ((8 * j + m : Nat) : Int)
    have hp : (1 : Int) ≤ 256 ^ m := by have := Nat.one_le_pow m 256 (by decide); have h2 : ((1 : Nat) : Int) ≤ ((256 ^ m : Nat) : Int) := Int.ofNat_le.2 this; simpa using h2
    have h1 : (bt s ((8 * j + m : Nat) : Int) + 1) * 256 ^ m ≤ 256 * 256 ^ m := Int.mul_le_mul_of_nonneg_right (by omega) (by omega)
    have h2 : 0 ≤ bt s ((8 * j + m : Nat) : Int) * 256 ^ m := Int.mul_nonneg hb.1 (by omega)
    rw [Int.add_mul, Int.one_mul] at h1
    unfold wordLow
    rw [Int.pow_succ, Int.mul_comm (256 ^ m) 256]
    omega
theorem wordAt_u64 (s : ByteArray) (j : Nat) : U64 (wordAt s j) := by
  have := wordLow_bd s j 8
  exact ⟨this.1, by have h := this.2; unfold wordAt; simpa using h⟩
theorem bt_out (s : ByteArray) {i : Int} (h : s.size ≤ i.toNat) : bt s i = 0 := by
  unfold bt; rw [dif_neg (by omega)]
theorem wordLow_end (s : ByteArray) (j m : Nat) (h : s.size ≤ 8 * j + m) (d : Nat) : wordLow s j (m + d) = wordLow s j m := by
  induction d with
  | zero => rfl
  | succ d ih =>
    show wordLow s j (m + d) + bt s ((8 * j + (m + d) : Nat) : Int) * 256 ^ (m + d) = _
    rw [ih, bt_out s (by omega)]; omega

/-- What stands behind i bytes have been laid. -/
def wordsTo (s : ByteArray) (i : Nat) : List Int := (List.range (wordsN s)).map fun j => wordLow s j (min 8 (i - 8 * j))

theorem wordsTo_end (s : ByteArray) : wordsTo s s.size = wordsL s := by
  unfold wordsTo wordsL
  refine List.map_congr_left fun j hj => ?_
  unfold wordAt
  by_cases h : 8 ≤ s.size - 8 * j
  · rw [Nat.min_eq_left h]
  · rw [Nat.min_eq_right (by omega)]
    have := wordLow_end s j (s.size - 8 * j) (by omega) (8 - (s.size - 8 * j))
    rw [← this]; congr 1; omega
theorem wordsTo_zero (s : ByteArray) : wordsTo s 0 = List.replicate (wordsN s) 0 := by
  unfold wordsTo
  apply List.ext_getElem (by simp)
  intro j h1 h2
  simp [wordLow]

theorem bits_or_low {x v : Int} {t b : Nat} (hx0 : 0 ≤ x) (hx : x < 2 ^ t) (hv0 : 0 ≤ v) (hv : v < 2 ^ b) (ht : t + b ≤ 64) :
    bits .or .u64 x (IntKind.u64.wrap (v * 2 ^ t)) = x + v * 2 ^ t := by
  obtain ⟨X, rfl⟩ := Int.eq_ofNat_of_zero_le hx0
  obtain ⟨V, rfl⟩ := Int.eq_ofNat_of_zero_le hv0
  have h := put_u64 hx0 hx hv0 hv ht
  have hX : X < 2 ^ t := by have : ((X : Nat) : Int) < ((2 ^ t : Nat) : Int) := by simpa using hx
                            omega
  have e2 : (V : Int) * 2 ^ t = ((V * 2 ^ t : Nat) : Int) := by simp
  rw [e2] at h ⊢
  rw [wrap_u64 ⟨by omega, by omega⟩, u64_or_nat X _ (by omega) (by omega), nat_join_low hX V]
  simp

theorem wordsTo_step (s : ByteArray) (i : Nat) (hi : i < s.size) :
    (wordsTo s i).set (i / 8) (bits .or .u64 ((wordsTo s i).getD (i / 8) 0) (IntKind.u64.wrap (bt s i * 2 ^ (i % 8 * 8)))) = wordsTo s (i + 1) := by
  have hn : i / 8 < wordsN s := by unfold wordsN; omega
  have hg : (wordsTo s i).getD (i / 8) 0 = wordLow s (i / 8) (i % 8) := by
    unfold wordsTo
    rw [List.getD_eq_getElem?_getD, List.getElem?_map, List.getElem?_range hn]
    show wordLow s (i / 8) (min 8 (i - 8 * (i / 8))) = _
    congr 1; omega
  have hb := wordLow_bd s (i / 8) (i % 8)
  have hbt := bt_range s (i : Int)
  have e256 : (256 : Int) ^ (i % 8) = 2 ^ (i % 8 * 8) := by
    rw [show (256 : Int) = 2 ^ 8 from rfl, ← Int.pow_mul, Nat.mul_comm]
  rw [hg, bits_or_low hb.1 (by rw [← e256]; exact hb.2) hbt.1 (b := 8) (by simp; omega) (by omega)]
  apply List.ext_getElem?
  intro j
  rw [List.getElem?_set]
  unfold wordsTo
  simp only [List.getElem?_map, List.length_map, List.length_range]
  by_cases hj : i / 8 = j
  · subst hj
    rw [if_pos rfl, if_pos hn, List.getElem?_range hn]
    simp only [Option.map_some]
    congr 1
    rw [show min 8 (i + 1 - 8 * (i / 8)) = i % 8 + 1 by omega]
    show _ = wordLow s (i / 8) (i % 8) + bt s ((8 * (i / 8) + i % 8 : Nat) : Int) * 256 ^ (i % 8)
    rw [e256, show 8 * (i / 8) + i % 8 = i by omega]
  · rw [if_neg hj]
    by_cases hjn : j < wordsN s
    · rw [List.getElem?_range hjn]
      simp only [Option.map_some]
      congr 2
      omega
    · rw [List.getElem?_eq_none (by simpa using hjn)]; rfl

theorem w64 {n : Int} (h0 : -9223372036854775808 ≤ n) (h1 : n ≤ 9223372036854775807) : wrap64 n = n := by unfold wrap64; omega

theorem fwords_l0 (s : ByteArray) (hs : s.size ≤ 1000000) (d : Nat) : ∀ (k i : Nat), i ≤ s.size → s.size - i = d → d < k → PInplacePlays.field_Words.l0 k s (wordsTo s i) (s.size : Int) (i : Int) = some (wordsL s) := by
  induction d with
  | zero =>
    intro k i h1 h2 h3
    obtain ⟨k, rfl⟩ : ∃ m, k = m + 1 := ⟨k - 1, by omega⟩
    simp only [PInplacePlays.field_Words.l0]
    rw [if_neg (by omega), show i = s.size by omega, wordsTo_end]
  | succ d ih =>
    intro k i h1 h2 h3
    obtain ⟨k, rfl⟩ : ∃ m, k = m + 1 := ⟨k - 1, by omega⟩
    have hw : wrap64 (Int.tdiv (i : Int) 8) = ((i / 8 : Nat) : Int) := by
      rw [w64] <;> (rw [Int.tdiv_eq_ediv_of_nonneg (by omega)]; omega)
    have hr : wrap64 ((Int.tmod (i : Int) 8) * 8) = ((i % 8 * 8 : Nat) : Int) := by
      rw [w64] <;> (rw [Int.tmod_eq_emod_of_nonneg (by omega)]; omega)
    have hl : ((wordsTo s i).length : Int) = (wordsN s : Nat) := by simp [wordsTo]
    have hbt := bt_range s (i : Int)
    simp only [PInplacePlays.field_Words.l0]
    rw [if_pos (by omega), hw, hr, hl, if_pos (by omega), if_pos (by unfold wordsN; omega), if_pos (by omega), if_pos (by omega), if_pos (by omega)]
    have hst := wordsTo_step s i (by omega)
    unfold rd shl
    rw [wrap_u64 (x := bt s (i : Int)) ⟨hbt.1, by omega⟩]
    simp only [Int.toNat_natCast]
    rw [show min (i % 8 * 8) (IntKind.bits .u64) = i % 8 * 8 from by show min (i % 8 * 8) 64 = _; omega, hst, w64 (by omega) (by omega)]
    exact ih k (i + 1) (by omega) (by omega) (by omega)

theorem fwords_f (s : ByteArray) (hs : s.size ≤ 1000000) : PInplacePlays.field_Words.f (s.size + 1) s = some (wordsL s) := by
  unfold PInplacePlays.field_Words.f
  have e : wrap64 (Int.tdiv (wrap64 ((wrap64 ((s.size : Int) + 8)) - 1)) 8) = ((wordsN s : Nat) : Int) := by
    rw [w64 (n := (s.size : Int) + 8) (by omega) (by omega), w64 (n := (s.size : Int) + 8 - 1) (by omega) (by omega), Int.tdiv_eq_ediv_of_nonneg (by omega), w64 (by omega) (by omega)]
    unfold wordsN; omega
  rw [e, if_pos (by omega), if_pos (by unfold wordsN; omega), Int.toNat_natCast, ← wordsTo_zero]
  exact fwords_l0 s hs s.size (s.size + 1) 0 (by omega) (by omega) (by omega)

end Go.Proofs.Ytlgebknbfchnlaa

/- Contracts of inplace.find. -/
namespace Go.Proofs.Ytlgebknbfchnlaa
set_option linter.unusedVariables false
set_option linter.unusedSimpArgs false
open Go Go.RowKit Go.Hay Go.Proofs.YtlgebknbfchnlaaW.PrintWords

/-- May a record of such lengths stand at such a place? -/
def mayB (bits : Nat) (a key value : Int) : Bool := decide (1 ≤ key ∧ recSize key value ≠ 0 ∧ recSize key value ≤ roomOf bits a)
theorem mayB_eq (bits : Nat) (a key value : Int) : Hid (mayB bits a key value = decide (1 ≤ key ∧ recSize key value ≠ 0 ∧ recSize key value ≤ roomOf bits a)) := rfl
theorem recSize_bd (key value : Int) : 0 ≤ recSize key value ∧ recSize key value ≤ 100 := by unfold recSize; split <;> omega

/-- A spot's cells. -/
def spotC (x : Buf) (a key value : Int) : Array Value := #[.pointer (some ⟨x.b, 0, none⟩), .int .u64 (a + 1), .int .u64 (a + (3 + (key + 7) / 8)), .int .i64 (recSize key value - (3 + (key + 7) / 8))]
def spotZ : Array Value := #[.pointer none, .int .u64 0, .int .u64 0, .int .i64 0]

set_option maxRecDepth 100000 in
set_option maxHeartbeats 1000000 in
theorem find_no (x : Buf) (a key value : Int) (w : World) (hx : BufAt w x) (h0 : 0 ≤ a) (ha : U64 a) (hm : mayB x.bits a key value = false) :
    Calls Try.prog 48 #[.pointer (some ⟨x.b, 0, none⟩), .int .u64 a, .int .i64 key, .int .i64 value] w fun e w' => e = .returned (.tuple #[.agg spotZ, .int .i64 1]) ∧ Keep [] w w' := by
  have HS := Hid.mk (fun W => rsize_ok key value W)
  have hb := recSize_bd key value
  have HB := Hid.mk (fun W (hW : BufAt W x) => Calls.of_eq (bbits_ok x W hW))
  have HF := Hid.mk (fun W => Calls.of_drawn (pfits_ok x.bits a (recSize key value) W hx.bits h0 _ rfl))
  have HM := mayB_eq x.bits a key value
  rw [hm] at HM
  generalize recSize key value = s at *
  have hxb : x.b < w.heap.size := hx.buf.lt
  have HX := Hid.mk (fun (W : World) (k : Keep [] w W) => hx.keep k (by simp))
  have k0 : Keep [] w (w.alloc (.cells spotZ 106 (0, 0))) := (Keep.refl _ _).alloc _
  have b0 := Blk.new w 106 spotZ
  have HE : ∀ (W : World), Keep [] w W → Blk W w.heap.size 106 spotZ → Keep [] w ((((W.setCell ⟨w.heap.size, 0, none⟩ (.pointer none)).setCell ⟨w.heap.size, 1, none⟩ (.int .u64 0)).setCell ⟨w.heap.size, 2, none⟩ (.int .u64 0)).setCell ⟨w.heap.size, 3, none⟩ (.int .i64 0)) ∧ Blk ((((W.setCell ⟨w.heap.size, 0, none⟩ (.pointer none)).setCell ⟨w.heap.size, 1, none⟩ (.int .u64 0)).setCell ⟨w.heap.size, 2, none⟩ (.int .u64 0)).setCell ⟨w.heap.size, 3, none⟩ (.int .i64 0)) w.heap.size 106 spotZ := by
    intro W k b
    refine ⟨(((k.set (.inr (Nat.le_refl _)) _ _).set (.inr (Nat.le_refl _)) _ _).set (.inr (Nat.le_refl _)) _ _).set (.inr (Nat.le_refl _)) _ _, ?_⟩
    simpa [spotZ] using (((b.set 0 (.pointer none)).set 1 (.int .u64 0)).set 2 (.int .u64 0)).set 3 (.int .i64 0)
  have HE := Hid.mk HE
  have k0 := Hid.mk k0
  have b0 := Hid.mk b0
  by_cases h1 : key < 1
  · go_enter Try.func48, Try.ntmps48
    go_wp2_with ((go_at_call 79; refine (HS.out _).mono ?_; rintro e w1 ⟨rfl, k1⟩; have k2 := k0.out.trans k1 (by simp); have b2 := b0.out.keep k1 (by simp); have c2 := b2.cell; have f2 := b2.froz; unfold spotZ at c2))
    refine bodyPost_ret (results_ct rfl _ _ w.heap.size 106 spotZ (0, 0) _ (by rfl) (HE.out _ k2 b2).2 Try.underlying106 rfl (by rfl)) rfl ?_
    exact ⟨rfl, (HE.out _ k2 b2).1⟩
  · by_cases h2 : s = 0
    · subst h2
      go_enter Try.func48, Try.ntmps48
      go_wp2_with ((go_at_call 79; refine (HS.out _).mono ?_; rintro e w1 ⟨rfl, k1⟩; have k2 := k0.out.trans k1 (by simp); have b2 := b0.out.keep k1 (by simp); have c2 := b2.cell; have f2 := b2.froz; unfold spotZ at c2))
      refine bodyPost_ret (results_ct rfl _ _ w.heap.size 106 spotZ (0, 0) _ (by rfl) (HE.out _ k2 b2).2 Try.underlying106 rfl (by rfl)) rfl ?_
      exact ⟨rfl, (HE.out _ k2 b2).1⟩
    · have hd : decide (1 ≤ s ∧ s ≤ roomOf x.bits a) = false := by
        have := HM.out
        simp at this ⊢
        intro h3
        exact this (by omega) h2
      rw [hd] at HF
      have hd3 : (s == 0) = false := by simpa using h2
      go_enter Try.func48, Try.ntmps48
      go_wp2_with (first
        | (go_at_call 79; refine (HS.out _).mono ?_; rintro e w1 ⟨rfl, k1⟩; have k2 := k0.out.trans k1 (by simp); have b2 := b0.out.keep k1 (by simp); have c2 := b2.cell; have f2 := b2.froz; unfold spotZ at c2)
        | (go_at_call 38; refine (HB.out _ (HX.out _ k2)).mono ?_; rintro e w' ⟨rfl, rfl⟩)
        | (go_at_call 80; refine (HF.out _).mono ?_; rintro e w' ⟨rfl, m, rfl⟩))
      refine bodyPost_ret (results_ct rfl _ _ w.heap.size 106 spotZ (0, 0) _ (by rfl) (HE.out _ (k2.drewN m) (b2.drewN m)).2 Try.underlying106 rfl (by rfl)) rfl ?_
      exact ⟨rfl, (HE.out _ (k2.drewN m) (b2.drewN m)).1⟩

set_option maxRecDepth 100000 in
set_option maxHeartbeats 1000000 in
theorem find_ok (x : Buf) (a key value : Int) (w : World) (hx : BufAt w x) (h0 : 0 ≤ a) (ha : U64 a) (hm : mayB x.bits a key value = true) :
    Calls Try.prog 48 #[.pointer (some ⟨x.b, 0, none⟩), .int .u64 a, .int .i64 key, .int .i64 value] w fun e w' => e = .returned (.tuple #[.agg (spotC x a key value), .int .i64 0]) ∧ Keep [] w w' := by
  have HS := Hid.mk (fun W => rsize_ok key value W)
  have hb := recSize_bd key value
  have HB := Hid.mk (fun W (hW : BufAt W x) => Calls.of_eq (bbits_ok x W hW))
  have HF := Hid.mk (fun W => Calls.of_drawn (pfits_ok x.bits a (recSize key value) W hx.bits h0 _ rfl))
  have hm2 : 1 ≤ key ∧ recSize key value ≠ 0 ∧ recSize key value ≤ roomOf x.bits a := by have := (mayB_eq x.bits a key value).out; rw [hm] at this; simpa using this
  have ha9 : a ≤ 281474976710655 := by
    have h5 := hm2.2.2
    unfold roomOf at h5
    split at h5
    · assumption
    · omega
  have hk64 : key ≤ 64 ∧ 3 + (key + 7) / 8 ≤ recSize key value := by
    have := hm2.2.1
    unfold recSize at this ⊢
    split at this
    · rename_i hq; rw [if_pos hq]; omega
    · omega
  have HV := Hid.mk (fun W => rvalueAt_ok key W (by omega))
  have HC : Hid (spotC x a key value = #[.pointer (some ⟨x.b, 0, none⟩), .int .u64 (a + 1), .int .u64 (a + (3 + (key + 7) / 8)), .int .i64 (recSize key value - (3 + (key + 7) / 8))]) := rfl
  generalize spotC x a key value = sc at *
  obtain ⟨g1, g2, g3⟩ := hm2
  obtain ⟨q1, q2⟩ := hk64
  have hd : decide (1 ≤ recSize key value ∧ recSize key value ≤ roomOf x.bits a) = true := by simp; omega
  rw [hd] at HF
  clear hd g3 hm
  have hv : 0 ≤ (key + 7) / 8 ∧ (key + 7) / 8 ≤ 10 := by omega
  generalize (key + 7) / 8 = v at *
  generalize recSize key value = s at *
  have HX := Hid.mk (fun (W : World) (k : Keep [] w W) => hx.keep k (by simp))
  have k0 : Keep [] w (w.alloc (.cells spotZ 106 (0, 0))) := (Keep.refl _ _).alloc _
  have b0 := Blk.new w 106 spotZ
  have HE : ∀ (W : World), Keep [] w W → Blk W w.heap.size 106 spotZ → Keep [] w ((((W.setCell ⟨w.heap.size, 0, none⟩ (.pointer (some ⟨x.b, 0, none⟩))).setCell ⟨w.heap.size, 1, none⟩ (.int .u64 (a + 1))).setCell ⟨w.heap.size, 2, none⟩ (.int .u64 (a + (3 + v)))).setCell ⟨w.heap.size, 3, none⟩ (.int .i64 (s - (3 + v)))) ∧ Blk ((((W.setCell ⟨w.heap.size, 0, none⟩ (.pointer (some ⟨x.b, 0, none⟩))).setCell ⟨w.heap.size, 1, none⟩ (.int .u64 (a + 1))).setCell ⟨w.heap.size, 2, none⟩ (.int .u64 (a + (3 + v)))).setCell ⟨w.heap.size, 3, none⟩ (.int .i64 (s - (3 + v)))) w.heap.size 106 sc := by
    intro W k b
    rw [HC.out]
    refine ⟨(((k.set (.inr (Nat.le_refl _)) _ _).set (.inr (Nat.le_refl _)) _ _).set (.inr (Nat.le_refl _)) _ _).set (.inr (Nat.le_refl _)) _ _, ?_⟩
    simpa [spotZ] using (((b.set 0 (.pointer (some ⟨x.b, 0, none⟩))).set 1 (.int .u64 (a + 1))).set 2 (.int .u64 (a + (3 + v)))).set 3 (.int .i64 (s - (3 + v)))
  have HE := Hid.mk HE
  have k0 := Hid.mk k0
  have b0 := Hid.mk b0
  obtain ⟨hv0, hv1⟩ := hv
  obtain ⟨hb0, hb1⟩ := hb
  have hd3 : (s == 0) = false := by simpa using g2
  have w1' : IntKind.u64.wrap (a + 1) = a + 1 := wrap_u64 ⟨by omega, by omega⟩
  have w2' : IntKind.u64.wrap (3 + v) = 3 + v := wrap_u64 ⟨by omega, by omega⟩
  go_enter Try.func48, Try.ntmps48
  go_wp2_with (first
        | (go_at_call 79; refine (HS.out _).mono ?_; rintro e w1 ⟨rfl, k1⟩; have k2 := k0.out.trans k1 (by simp); have b2 := b0.out.keep k1 (by simp))
        | (go_at_call 38; refine (HB.out _ (HX.out _ k2)).mono ?_; rintro e w' ⟨rfl, rfl⟩)
        | (go_at_call 80; refine (HF.out _).mono ?_; rintro e w' ⟨rfl, m, rfl⟩)
        | (go_at_call 81; refine (HV.out _).mono ?_; rintro e w3 ⟨rfl, k3⟩; have k4 := (k2.drewN m).trans k3 (by simp); have b4 := (b2.drewN m).keep k3 (by simp); have c4 := b4.cell; have f4 := b4.froz; unfold spotZ at c4))
  refine bodyPost_ret (results_ct rfl _ _ w.heap.size 106 sc (0, 0) _ (by rfl) (HE.out _ k4 b4).2 Try.underlying106 rfl (by rw [HC.out]; rfl)) rfl ?_
  exact ⟨rfl, (HE.out _ k4 b4).1⟩
end Go.Proofs.Ytlgebknbfchnlaa

/- Contracts of inplace.NewWriter, NewAdder, NewReader, record.Value. -/
namespace Go.Proofs.Ytlgebknbfchnlaa
set_option linter.unusedVariables false
set_option linter.unusedSimpArgs false
open Go Go.RowKit Go.Hay Go.Proofs.YtlgebknbfchnlaaW.PrintWords

theorem fwords_ok (s : ByteArray) (w : World) (hs : s.size ≤ 1000000) :
    Calls Try.prog 49 #[.string s] w fun e w' => ∃ v, e = .returned v ∧ Own .u64 22 w' w.heap.size v (wordsL s) ∧ Keep [] w w' :=
  (PInplacePlays.field_Words.calls _ s _ w (fwords_f s hs)).mono fun _ _ ⟨v, h1, h2, h3⟩ => ⟨v, h1, h2, Keep.of_below h3 []⟩

theorem spot_nw (a key value : Int) (bits : Nat) (hm : mayB bits a key value = true) (hv : 0 ≤ value) : recSize key value - (3 + (key + 7) / 8) = ((value.toNat + 7) / 8 : Nat) ∧ (1 ≤ key ∧ key ≤ 64) ∧ value ≤ 128 ∧ a ≤ 281474976710655 := by
  have := (mayB_eq bits a key value).out
  rw [hm] at this
  simp only [eq_comm (a := true), decide_eq_true_eq] at this
  obtain ⟨h1, h2, h3⟩ := this
  unfold roomOf at h3
  unfold recSize at *
  split at h2
  · rw [if_pos (by assumption)] at h3 ⊢
    split at h3
    · refine ⟨by omega, by omega, by omega, by omega⟩
    · omega
  · omega

/-- The writer that is new. -/
def Wr.fresh (p : Nat) (v : Value) (l : List Int) : Wr := ⟨p, 0, false, 0, v, l, 0, 0⟩

theorem wordsL_u64 (s : ByteArray) : ∀ x ∈ wordsL s, U64 x := by
  intro x hx
  simp [wordsL] at hx
  obtain ⟨j, _, rfl⟩ := hx
  exact wordAt_u64 s j

set_option maxRecDepth 100000 in
theorem newWriter_no (x : Buf) (a key : Int) (s : ByteArray) (w : World) (hx : BufAt w x) (h0 : 0 ≤ a) (ha : U64 a) (hs : s.size ≤ 1000000) (hm : mayB x.bits a key s.size = false) :
    Calls Try.prog 11 #[.pointer (some ⟨x.b, 0, none⟩), .int .u64 a, .int .i64 key, .string s] w fun e w' => e = .returned (.tuple #[.pointer none, .int .i64 1]) ∧ Keep [] w w' := by
  have HF := Hid.mk (find_no x a key s.size w hx h0 ha hm)
  unfold spotZ at HF
  go_enter Try.func11, Try.ntmps11
  go_wp2_with ((go_at_call 48; refine HF.out.mono ?_; rintro e w' ⟨rfl, hk⟩))
  go_ret2
  exact ⟨rfl, hk.alloc _⟩

set_option maxRecDepth 100000 in
set_option maxHeartbeats 1000000 in
theorem newWriter_ok (x : Buf) (a key : Int) (s : ByteArray) (w : World) (hx : BufAt w x) (h0 : 0 ≤ a) (ha : U64 a) (hs : s.size ≤ 1000000) (hm : mayB x.bits a key s.size = true) :
    Calls Try.prog 11 #[.pointer (some ⟨x.b, 0, none⟩), .int .u64 a, .int .i64 key, .string s] w fun e w' =>
      ∃ p v, e = .returned (.tuple #[.pointer (some ⟨p, 0, none⟩), .int .i64 0]) ∧ WrAt w' x.b (a + 1) (a + (3 + (key + 7) / 8)) (wordsN s) (Wr.fresh p v (wordsL s)) ∧ (∀ g ∈ (Wr.fresh p v (wordsL s)).fp, w.heap.size ≤ g) ∧ Keep [] w w' := by
  have HF := find_ok x a key s.size w hx h0 ha hm
  obtain ⟨hn, hk2, hv2, ha2⟩ := spot_nw a key s.size x.bits hm (by omega)
  unfold spotC at HF
  rw [hn] at HF
  have e : (((s.size : Nat) : Int).toNat + 7) / 8 = wordsN s := by simp [wordsN]
  rw [e] at HF
  replace HF := Hid.mk HF
  have HW := Hid.mk (fun W => fwords_ok s W hs)
  have HU := Hid.mk (wordsL_u64 s)
  generalize wordsN s = nw at *
  generalize a + (3 + (key + 7) / 8) = va at *
  generalize a + 1 = lk at *
  clear hm hn e
  go_enter Try.func11, Try.ntmps11
  go_wp2_with ((go_at_call 48; refine HF.out.mono ?_; rintro e w1 ⟨rfl, hk⟩))
  have hb := Blk.new w1 106 #[.pointer (some ⟨x.b, 0, none⟩), .int .u64 lk, .int .u64 va, .int .i64 nw]
  have hk3 : Keep [] w (w1.alloc (.cells #[.pointer (some ⟨x.b, 0, none⟩), .int .u64 lk, .int .u64 va, .int .i64 nw] 106 (0, 0))) := hk.alloc _
  generalize w1.alloc (.cells #[.pointer (some ⟨x.b, 0, none⟩), .int .u64 lk, .int .u64 va, .int .i64 nw] 106 (0, 0)) = W at hb hk3 ⊢
  generalize w1.heap.size = g at *
  have hc := hb.cell
  have hb1 := hb.drewN 1
  go_region_held3 (fun w' => (w'.cell? ⟨g, 0, none⟩ = some (.pointer (some ⟨x.b, 0, none⟩)) ∧ w'.cell? ⟨g, 1, none⟩ = some (.int .u64 lk)) ∧ w'.cell? ⟨g, 2, none⟩ = some (.int .u64 va) ∧ w'.cell? ⟨g, 3, none⟩ = some (.int .i64 nw)) (first | exact ⟨⟨hc 0, hc 1⟩, hc 2, hc 3⟩ | exact ⟨⟨hc2 0, hc2 1⟩, hc2 2, hc2 3⟩ | go_keep) ((go_at_call 49; refine (HW.out W.drew).mono ?_; rintro e w' ⟨v, rfl, hv, hk2⟩; obtain ⟨A, c, rfl, _⟩ := hv.reads; have hc2 := (hb1.keep hk2 (by simp)).cell))
  all_goals
    have hk4 := hk3.drew.trans hk2 (by simp)
    go_wp2_with fail
    go_ret2
    have hvk : Keep [] w' (w'.alloc (.cells #[.pointer (some ⟨x.b, 0, none⟩), .int .u64 lk, .int .u64 va, .int .i64 nw, .int .i64 0, .bool false, .int .u64 0, .slice A (wordsL s).length c, .int .i64 0, .int .u64 0] 111 (0, 0))) := (Keep.refl _ _).alloc _
    refine ⟨w'.heap.size, _, rfl, ⟨?_, (hv.base0).keepB hvk (by simp), HU.out, (by unfold U64; simp [Wr.fresh]), by simp [Wr.fresh], by simp [Wr.fresh]⟩, ?_, hk4.alloc _⟩
    · exact Blk.new w' 111 #[.pointer (some ⟨x.b, 0, none⟩), .int .u64 lk, .int .u64 va, .int .i64 nw, .int .i64 0, .bool false, .int .u64 0, .slice A (wordsL s).length c, .int .i64 0, .int .u64 0]
    · intro b hb
      simp only [Wr.fp, Wr.fresh, List.mem_cons, Option.mem_toList] at hb
      rcases hb with rfl | hb
      · exact hk4.size
      · exact Nat.le_trans hk3.size (hv.lt hb).1

/-! ### NewReader -/
def Rd.fresh (p n : Nat) : Rd := ⟨p, 0, n, .slice none 0 0, [], 0, ⟨#[]⟩⟩

set_option maxRecDepth 100000 in
theorem newReader_no (x : Buf) (a key n : Int) (w : World) (hx : BufAt w x) (h0 : 0 ≤ a) (ha : U64 a) (hm : mayB x.bits a key n = false) :
    Calls Try.prog 12 #[.pointer (some ⟨x.b, 0, none⟩), .int .u64 a, .int .i64 key, .int .i64 n] w fun e w' => e = .returned (.tuple #[.pointer none, .int .i64 1]) ∧ Keep [] w w' := by
  have HF := Hid.mk (find_no x a key n w hx h0 ha hm)
  unfold spotZ at HF
  go_enter Try.func12, Try.ntmps12
  go_wp2_with ((go_at_call 48; refine HF.out.mono ?_; rintro e w' ⟨rfl, hk⟩))
  go_ret2
  exact ⟨rfl, hk.alloc _⟩

set_option maxRecDepth 100000 in
theorem newReader_ok (x : Buf) (a key : Int) (n : Nat) (w : World) (hx : BufAt w x) (h0 : 0 ≤ a) (ha : U64 a) (hm : mayB x.bits a key n = true) :
    Calls Try.prog 12 #[.pointer (some ⟨x.b, 0, none⟩), .int .u64 a, .int .i64 key, .int .i64 n] w fun e w' =>
      ∃ p, e = .returned (.tuple #[.pointer (some ⟨p, 0, none⟩), .int .i64 0]) ∧ RdAt w' x.b (a + 1) (a + (3 + (key + 7) / 8)) ((n + 7) / 8) (Rd.fresh p n) ∧ w.heap.size ≤ p ∧ Keep [] w w' := by
  have HF := find_ok x a key n w hx h0 ha hm
  obtain ⟨hn, hk2, hv2, ha2⟩ := spot_nw a key n x.bits hm (by omega)
  unfold spotC at HF
  rw [hn] at HF
  rw [show (((n : Nat) : Int).toNat + 7) / 8 = (n + 7) / 8 by omega] at HF
  replace HF := Hid.mk HF
  generalize (n + 7) / 8 = nw at *
  generalize a + (3 + (key + 7) / 8) = va at *
  generalize a + 1 = lk at *
  clear hm hn
  go_enter Try.func12, Try.ntmps12
  go_wp2_with ((go_at_call 48; refine HF.out.mono ?_; rintro e w1 ⟨rfl, hk⟩))
  go_ret2
  refine ⟨_, rfl, ⟨by simpa [Rd.fresh] using Blk.new (w1.alloc (.cells #[.pointer (some ⟨x.b, 0, none⟩), .int .u64 lk, .int .u64 va, .int .i64 nw] 106 (0, 0))) 113 #[.pointer (some ⟨x.b, 0, none⟩), .int .u64 lk, .int .u64 va, .int .i64 nw, .int .i64 0, .int .i64 n, .slice none 0 0, .int .u64 0, .string ⟨#[]⟩], Own.nil _ _ _ _, by simp [Rd.fresh], by simp [Rd.fresh], by simp [Rd.fresh]; omega, by simp [Rd.fresh]⟩, ?_, (hk.alloc _).alloc _⟩
  have := hk.size
  simp; omega

set_option maxRecDepth 100000 in
theorem find_nil (a key value : Int) (w : World) :
    Calls Try.prog 48 #[.pointer none, .int .u64 a, .int .i64 key, .int .i64 value] w fun e w' => e = .returned (.tuple #[.agg spotZ, .int .i64 2]) ∧ Keep [] w w' := by
  have HS := Hid.mk (fun W => rsize_ok key value W)
  generalize recSize key value = s at *
  have k0 : Keep [] w (w.alloc (.cells spotZ 106 (0, 0))) := (Keep.refl _ _).alloc _
  have b0 := Blk.new w 106 spotZ
  have HE : ∀ (W : World), Keep [] w W → Blk W w.heap.size 106 spotZ → Keep [] w ((((W.setCell ⟨w.heap.size, 0, none⟩ (.pointer none)).setCell ⟨w.heap.size, 1, none⟩ (.int .u64 0)).setCell ⟨w.heap.size, 2, none⟩ (.int .u64 0)).setCell ⟨w.heap.size, 3, none⟩ (.int .i64 0)) ∧ Blk ((((W.setCell ⟨w.heap.size, 0, none⟩ (.pointer none)).setCell ⟨w.heap.size, 1, none⟩ (.int .u64 0)).setCell ⟨w.heap.size, 2, none⟩ (.int .u64 0)).setCell ⟨w.heap.size, 3, none⟩ (.int .i64 0)) w.heap.size 106 spotZ := by
    intro W k b
    refine ⟨(((k.set (.inr (Nat.le_refl _)) _ _).set (.inr (Nat.le_refl _)) _ _).set (.inr (Nat.le_refl _)) _ _).set (.inr (Nat.le_refl _)) _ _, ?_⟩
    simpa [spotZ] using (((b.set 0 (.pointer none)).set 1 (.int .u64 0)).set 2 (.int .u64 0)).set 3 (.int .i64 0)
  have HE := Hid.mk HE
  have k0 := Hid.mk k0
  have b0 := Hid.mk b0
  go_enter Try.func48, Try.ntmps48
  go_wp2_with ((go_at_call 79; refine (HS.out _).mono ?_; rintro e w1 ⟨rfl, k1⟩; have k2 := k0.out.trans k1 (by simp); have b2 := b0.out.keep k1 (by simp); have c2 := b2.cell; have f2 := b2.froz; unfold spotZ at c2))
  refine bodyPost_ret (results_ct rfl _ _ w.heap.size 106 spotZ (0, 0) _ (by rfl) (HE.out _ k2 b2).2 Try.underlying106 rfl (by rfl)) rfl ?_
  exact ⟨rfl, (HE.out _ k2 b2).1⟩

set_option maxRecDepth 100000 in
theorem newReader_nil (a key n : Int) (w : World) :
    Calls Try.prog 12 #[.pointer none, .int .u64 a, .int .i64 key, .int .i64 n] w fun e w' => e = .returned (.tuple #[.pointer none, .int .i64 2]) ∧ Keep [] w w' := by
  have HF := Hid.mk (find_nil a key n w)
  unfold spotZ at HF
  go_enter Try.func12, Try.ntmps12
  go_wp2_with ((go_at_call 48; refine HF.out.mono ?_; rintro e w' ⟨rfl, hk⟩))
  go_ret2
  exact ⟨rfl, hk.alloc _⟩

/-! ### record.Value, NewAdder -/
theorem bytesL_len (l : List Int) (n : Nat) : (bytesL l n).length = n := by simp [bytesL]

set_option maxRecDepth 100000 in
theorem rval_ok (n : Int) (w : World) (hn : U64 n) :
    Calls Try.prog 50 #[.int .u64 n] w fun e w' => e = .returned (.string (strOfNums (bytesL [n] 8))) ∧ Keep [] w w' := by
  have hC := C_of_blk (xs := [n]) (Blk.new w 22 #[.int .u64 n]) (by simp)
  have HB := Hid.mk (fbytes_ok (some ⟨w.heap.size, 0, none⟩) 1 8 [n] _ hC (by simp) (by simp) (by intro i h1 h2; simp at h2; omega) (by simpa using hn))
  simp only [List.length_singleton] at HB
  generalize strOfNums (bytesL [n] 8) = s at *
  clear hC
  go_enter Try.func50, Try.ntmps50
  go_wp2_with ((go_at_call 82; refine HB.out.mono ?_; rintro e w' ⟨rfl, hk⟩))
  go_ret
  exact ⟨rfl, ((Keep.refl _ _).alloc _).trans hk (by simp)⟩

/-- The adder that is new. -/
def Wr.adder (p : Nat) (v : Value) (l : List Int) (n : Int) : Wr := ⟨p, 0, true, n, v, l, 0, 0⟩
theorem WrAt.adder {w : World} {b : Nat} {lk va : Int} {nw p : Nat} {v : Value} {l : List Int} (h : WrAt w b lk va nw (Wr.fresh p v l)) {n : Int} (hn : U64 n) :
    WrAt ((w.setCell ⟨p, 5, none⟩ (.bool true)).setCell ⟨p, 6, none⟩ (.int .u64 n)) b lk va nw (Wr.adder p v l n) ∧ Keep [p] w ((w.setCell ⟨p, 5, none⟩ (.bool true)).setCell ⟨p, 6, none⟩ (.int .u64 n)) := by
  have hk : Keep [p] w ((w.setCell ⟨p, 5, none⟩ (.bool true)).setCell ⟨p, 6, none⟩ (.int .u64 n)) := ((Keep.refl _ _).set (by simp) _ _).set (by simp) _ _
  refine ⟨⟨?_, h.row.keepB hk (fun g hg => by have := h.ne hg; simp [Wr.fresh] at this; simpa using fun e => this e.symm), h.range, hn, by simp [Wr.adder], by simp [Wr.adder]⟩, hk⟩
  simpa [Wr.fresh, Wr.adder] using (h.blk.set 5 (.bool true)).set 6 (.int .u64 n)

theorem strOfNums_size (l : List Int) : (strOfNums l).size = l.length := by
  simp [strOfNums, ByteArray.size]

set_option maxRecDepth 100000 in
theorem newAdder_no (x : Buf) (a key n : Int) (w : World) (hx : BufAt w x) (h0 : 0 ≤ a) (ha : U64 a) (hm : mayB x.bits a key 8 = false) :
    Calls Try.prog 13 #[.pointer (some ⟨x.b, 0, none⟩), .int .u64 a, .int .i64 key, .int .u64 n] w fun e w' => e = .returned (.tuple #[.pointer none, .int .i64 1]) ∧ Keep [] w w' := by
  have HV := Hid.mk (rval_ok 0 w (by unfold U64; omega))
  have hs : (strOfNums (bytesL [0] 8)).size = 8 := by rw [strOfNums_size, bytesL_len]
  have HW := Hid.mk (fun W (hW : BufAt W x) => newWriter_no x a key (strOfNums (bytesL [0] 8)) W hW h0 ha (by omega) (by rw [hs]; exact hm))
  generalize strOfNums (bytesL [0] 8) = s at *
  have HX := Hid.mk (fun (W : World) (k : Keep [] w W) => hx.keep k (by simp))
  clear hm
  go_enter Try.func13, Try.ntmps13
  go_wp2_with (first | (go_at_call 50; refine HV.out.mono ?_; rintro e w1 ⟨rfl, hk⟩) | (go_at_call 11; refine (HW.out _ (HX.out _ hk)).mono ?_; rintro e w' ⟨rfl, hk2⟩))
  go_ret2
  exact ⟨rfl, hk.trans hk2 (by simp)⟩

set_option maxRecDepth 100000 in
theorem newAdder_ok (x : Buf) (a key n : Int) (w : World) (hx : BufAt w x) (h0 : 0 ≤ a) (ha : U64 a) (hn : U64 n) (hm : mayB x.bits a key 8 = true) :
    Calls Try.prog 13 #[.pointer (some ⟨x.b, 0, none⟩), .int .u64 a, .int .i64 key, .int .u64 n] w fun e w' =>
      ∃ p v l, e = .returned (.tuple #[.pointer (some ⟨p, 0, none⟩), .int .i64 0]) ∧ l.length = 1 ∧ WrAt w' x.b (a + 1) (a + (3 + (key + 7) / 8)) 1 (Wr.adder p v l n) ∧ (∀ g ∈ (Wr.adder p v l n).fp, w.heap.size ≤ g) ∧ Keep [] w w' := by
  have HV := Hid.mk (rval_ok 0 w (by unfold U64; omega))
  have hs : (strOfNums (bytesL [0] 8)).size = 8 := by rw [strOfNums_size, bytesL_len]
  have hw1 : wordsN (strOfNums (bytesL [0] 8)) = 1 := by unfold wordsN; rw [hs]
  have hl1 : (wordsL (strOfNums (bytesL [0] 8))).length = 1 := by rw [wordsL_length, hw1]
  have HW := Hid.mk (fun W (hW : BufAt W x) => hw1 ▸ newWriter_ok x a key (strOfNums (bytesL [0] 8)) W hW h0 ha (by omega) (by rw [hs]; exact hm))
  generalize wordsL (strOfNums (bytesL [0] 8)) = l at *
  generalize strOfNums (bytesL [0] 8) = s at *
  have HX := Hid.mk (fun (W : World) (k : Keep [] w W) => hx.keep k (by simp))
  clear hm hw1
  have HL := Hid.mk hl1
  clear hl1
  generalize a + (3 + (key + 7) / 8) = va at *
  generalize a + 1 = lk at *
  go_enter Try.func13, Try.ntmps13
  go_wp2_with (first | (go_at_call 50; refine HV.out.mono ?_; rintro e w1 ⟨rfl, hk⟩) | (go_at_call 11; refine (HW.out _ (HX.out _ hk)).mono ?_; rintro e w' ⟨p, v, rfl, hw, hp, hk2⟩; have hc := hw.blk.cell; have hf := hw.blk.froz; unfold Wr.fresh at hc hf))
  go_ret2
  have h3 := hw.adder hn
  refine ⟨p, v, l, rfl, HL.out, h3.1, fun g hg => Nat.le_trans hk.size (hp g hg), (hk.trans hk2 (by simp)).trans h3.2 (by have := hp p (by simp [Wr.fp, Wr.fresh]); have := hk.size; simp; omega)⟩
end Go.Proofs.Ytlgebknbfchnlaa

/- What the references' pure functions compute, in closed form. -/
namespace Go.Proofs.Ytlgebknbfchnlaa
set_option linter.unusedVariables false
set_option linter.unusedSimpArgs false
open Go Go.RowKit Go.Hay Go.Proofs.YtlgebknbfchnlaaW.PrintWords Go.Proofs.YtlgebknbfchnlaaW.PrintMore Go.Proofs.YtlgebknbfchnlaaW.PrintLast

/-! ### Words -/
theorem pow256_pos (m : Nat) : (1 : Int) ≤ 256 ^ m := by
  have := Nat.one_le_pow m 256 (by decide)
  have h2 : ((1 : Nat) : Int) ≤ ((256 ^ m : Nat) : Int) := Int.ofNat_le.2 this
  simpa using h2

/-- The bytes from m on of word j. -/
def wordHigh (s : ByteArray) (j : Nat) : Nat → Int
  | 0 => 0
  | d + 1 => wordHigh s j d * 256 + bt s ((8 * j + (7 - d) : Nat) : Int)
theorem wordHigh_bd (s : ByteArray) (j d : Nat) : 0 ≤ wordHigh s j d ∧ wordHigh s j d < 256 ^ d := by
  induction d with
  | zero => simp [wordHigh]
  | succ d ih =>
    have hb := bt_range s ((8 * j + (7 - d) : Nat) : Int)
    unfold wordHigh
    rw [Int.pow_succ]
    omega
theorem wordHigh_split (s : ByteArray) (j d : Nat) (hd : d ≤ 8) : wordAt s j = wordLow s j (8 - d) + wordHigh s j d * 256 ^ (8 - d) := by
  induction d with
  | zero => simp [wordAt, wordHigh]
  | succ d ih =>
    rw [ih (by omega), show 8 - d = (8 - (d + 1)) + 1 by omega]
    show wordLow s j (8 - (d + 1)) + bt s ((8 * j + (8 - (d + 1)) : Nat) : Int) * 256 ^ (8 - (d + 1)) + _ = _
    have hd1 : wordHigh s j (d + 1) = wordHigh s j d * 256 + bt s ((8 * j + (7 - d) : Nat) : Int) := rfl
    rw [hd1, show 8 * j + (7 - d) = 8 * j + (8 - (d + 1)) by omega, Int.add_mul, Int.pow_succ, Int.mul_assoc, Int.mul_comm 256 (256 ^ (8 - (d + 1)))]
    omega
theorem wordHigh_all (s : ByteArray) (j : Nat) : wordHigh s j 8 = wordAt s j := by
  have := wordHigh_split s j 8 (by omega)
  simp [wordLow] at this
  exact this.symm

theorem wordsL_take (s : ByteArray) (j : Nat) (h : j < wordsN s) : (wordsL s).take j ++ [wordAt s j] = (wordsL s).take (j + 1) := by
  rw [List.take_add_one, show (wordsL s)[j]? = some (wordAt s j) by simp [wordsL, h]]; rfl

theorem refwords_l1 (s : ByteArray) (hs : s.size ≤ 1000000) (j : Nat) (acc : List Int) (ha : acc.length ≤ 1000000) (hj : 8 * j < s.size) (e : Nat) :
    ∀ (k d : Nat), d + e = 8 → e < k → PInplacePlays.haycroftref01_Words.l1 k s acc ((8 * j : Nat) : Int) (wordHigh s j d) (7 - (d : Int)) = PInplacePlays.haycroftref01_Words.l0 (k - (e + 1)) s (acc ++ [wordAt s j]) ((8 * (j + 1) : Nat) : Int) := by
  induction e with
  | zero =>
    intro k d h1 h2
    obtain ⟨k, rfl⟩ : ∃ m, k = m + 1 := ⟨k - 1, by omega⟩
    obtain rfl : d = 8 := by omega
    simp only [PInplacePlays.haycroftref01_Words.l1]
    rw [if_neg (by omega), if_pos (by omega), wordHigh_all, w64 (by omega) (by omega)]
    congr 1
  | succ e ih =>
    intro k d h1 h2
    obtain ⟨k, rfl⟩ : ∃ m, k = m + 1 := ⟨k - 1, by omega⟩
    have hb := wordHigh_bd s j d
    have hb1 := wordHigh_bd s j (d + 1)
    have hbt := bt_range s ((8 * j + (7 - d) : Nat) : Int)
    have hp : (256 : Int) ^ (d + 1) ≤ 256 ^ 8 := by
      have := Nat.pow_le_pow_right (n := 256) (by decide) (show d + 1 ≤ 8 by omega)
      have h2 : ((256 ^ (d + 1) : Nat) : Int) ≤ ((256 ^ 8 : Nat) : Int) := Int.ofNat_le.2 this
      simpa using h2
    simp at hp
    have hd1 : wordHigh s j (d + 1) = wordHigh s j d * 256 + bt s ((8 * j + (7 - d) : Nat) : Int) := rfl
    simp only [PInplacePlays.haycroftref01_Words.l1]
    rw [if_pos (by omega), w64 (n := ((8 * j : Nat) : Int) + (7 - (d : Int))) (by omega) (by omega), w64 (n := 7 - (d : Int) - 1) (by omega) (by omega), wrap_u64 (x := wordHigh s j d * 256) ⟨by omega, by omega⟩]
    rw [show ((8 * j : Nat) : Int) + (7 - (d : Int)) = ((8 * j + (7 - d) : Nat) : Int) by omega]
    have hih := ih k (d + 1) (by omega) (by omega)
    rw [show (7 : Int) - ((d + 1 : Nat) : Int) = 7 - (d : Int) - 1 by omega] at hih
    by_cases hlt : 8 * j + (7 - d) < s.size
    · rw [if_pos (by omega), if_pos (by omega), wrap_u64 (x := bt s _) ⟨hbt.1, by omega⟩, wrap_u64 ⟨by omega, by omega⟩, ← hd1, hih]
      congr 1; omega
    · rw [if_neg (by omega)]
      rw [bt_out s (by omega), Int.add_zero] at hd1
      rw [← hd1, hih]
      congr 1; omega

theorem refwords_l0 (s : ByteArray) (hs : s.size ≤ 1000000) (e : Nat) : ∀ (k j : Nat), j + e = wordsN s → 10 * e < k → PInplacePlays.haycroftref01_Words.l0 k s ((wordsL s).take j) ((8 * j : Nat) : Int) = some (wordsL s) := by
  induction e with
  | zero =>
    intro k j h1 h2
    obtain ⟨k, rfl⟩ : ∃ m, k = m + 1 := ⟨k - 1, by omega⟩
    simp only [PInplacePlays.haycroftref01_Words.l0]
    rw [if_neg (by unfold wordsN at h1; omega), List.take_of_length_le (by rw [wordsL_length]; omega)]
  | succ e ih =>
    intro k j h1 h2
    obtain ⟨k, rfl⟩ : ∃ m, k = m + 1 := ⟨k - 1, by omega⟩
    simp only [PInplacePlays.haycroftref01_Words.l0]
    have hn : wordsN s = (s.size + 7) / 8 := rfl
    rw [if_pos (by omega)]
    have h3 := refwords_l1 s hs j ((wordsL s).take j) (by have := List.length_take_le j (wordsL s); omega) (by omega) 8 k 0 (by omega) (by omega)
    simp only [wordHigh, Int.natCast_zero, Int.sub_zero] at h3
    rw [h3, wordsL_take s j (by omega)]
    exact ih _ (j + 1) (by omega) (by omega)

theorem refwords_f (s : ByteArray) (hs : s.size ≤ 1000000) (k : Nat) (hk : 10 * wordsN s < k) : PInplacePlays.haycroftref01_Words.f k s = some (wordsL s) :=
  refwords_l0 s hs (wordsN s) _ 0 (by omega) (by omega)

/-! ### Same -/
theorem refsame_l0 (a b : List Int) (hl : a.length = b.length) (hm : a.length ≤ 1000000) (e : Nat) : ∀ (k i : Nat), i + e = a.length → e < k → a.take i = b.take i → PInplacePlays.haycroftref01_Same.l0 k a b (i : Int) = some (decide (a = b)) := by
  induction e with
  | zero =>
    intro k i h1 h2 h3
    obtain ⟨k, rfl⟩ : ∃ m, k = m + 1 := ⟨k - 1, by omega⟩
    simp only [PInplacePlays.haycroftref01_Same.l0]
    rw [List.take_of_length_le (by omega), List.take_of_length_le (by omega)] at h3
    rw [if_neg (by omega), decide_eq_true h3]
  | succ e ih =>
    intro k i h1 h2 h3
    obtain ⟨k, rfl⟩ : ∃ m, k = m + 1 := ⟨k - 1, by omega⟩
    simp only [PInplacePlays.haycroftref01_Same.l0]
    rw [if_pos (by omega), if_pos (by omega), if_pos (by omega)]
    unfold rd
    simp only [Int.toNat_natCast]
    have ga := getD_get (xs := a) (i := i) (by omega)
    have gb := getD_get (xs := b) (i := i) (by omega)
    by_cases hx : a.getD i 0 = b.getD i 0
    · rw [if_pos hx, w64 (by omega) (by omega)]
      exact ih k (i + 1) (by omega) (by omega) (by rw [List.take_add_one, List.take_add_one, h3, ga, gb, hx])
    · rw [if_neg hx, decide_eq_false (fun h => hx (by rw [h]))]
theorem refsame_f (a b : List Int) (hm : a.length ≤ 1000000) : PInplacePlays.haycroftref01_Same.f (a.length + 1) a b = some (decide (a = b)) := by
  unfold PInplacePlays.haycroftref01_Same.f
  by_cases hl : a.length = b.length
  · rw [if_pos (by omega)]
    exact refsame_l0 a b hl hm a.length _ 0 (by omega) (by omega) rfl
  · rw [if_neg (by omega), decide_eq_false (fun h => hl (by rw [h]))]

/-! ### Text -/
theorem bytesL_w (l : List Int) (j m : Nat) (hm : m ≤ 8) : bytesL l (8 * j + m) = bytesL l (8 * j) ++ (List.range m).map (fun i => l.getD j 0 / 256 ^ i % 256) := by
  induction m with
  | zero => simp
  | succ m ih =>
    rw [show 8 * j + (m + 1) = (8 * j + m) + 1 by omega, bytesL_succ, ih (by omega), List.range_succ, List.map_append, List.append_assoc]
    congr 2
    unfold byteAt
    rw [show (8 * j + m) / 8 = j by omega, show (8 * j + m) % 8 = m by omega]
    simp only [List.map_cons, List.map_nil]
    rw [show (256 : Int) ^ m = 2 ^ (m * 8) from by rw [show (256 : Int) = 2 ^ 8 from rfl, ← Int.pow_mul, Nat.mul_comm]]

theorem div_pow_succ {x : Int} (m : Nat) : x / 256 ^ m / 256 = x / 256 ^ (m + 1) := by
  rw [Int.pow_succ, Int.ediv_ediv_of_nonneg (by have := pow256_pos m; omega)]
theorem div_pow_bd {x : Int} (h : U64 x) (m : Nat) : 0 ≤ x / 256 ^ m ∧ x / 256 ^ m < 18446744073709551616 := by
  have hp := pow256_pos m
  have h1 : x / 256 ^ m ≤ x := Int.ediv_le_self _ h.1
  exact ⟨Int.ediv_nonneg h.1 (by omega), by have := h.2; omega⟩

theorem reftext_l1 (l : List Int) (n : Int) (j : Nat) (hj : j < l.length) (hl : l.length ≤ 10000) (hR : ∀ x ∈ l, U64 x) (e : Nat) :
    ∀ (k m : Nat), m + e = 8 → e < k → PInplacePlays.haycroftref09_Text.l1 k l n (bytesL l (8 * j + m)) (j : Int) (l.getD j 0 / 256 ^ m) (m : Int) = PInplacePlays.haycroftref09_Text.l0 (k - (e + 1)) l n (bytesL l (8 * (j + 1))) ((j + 1 : Nat) : Int) := by
  have hx := hR _ (getD_mem hj)
  induction e with
  | zero =>
    intro k m h1 h2
    obtain ⟨k, rfl⟩ : ∃ m, k = m + 1 := ⟨k - 1, by omega⟩
    obtain rfl : m = 8 := by omega
    simp only [PInplacePlays.haycroftref09_Text.l1]
    rw [if_neg (by omega), w64 (by omega) (by omega)]
    congr 1
  | succ e ih =>
    intro k m h1 h2
    obtain ⟨k, rfl⟩ : ∃ m, k = m + 1 := ⟨k - 1, by omega⟩
    have hd := div_pow_bd hx m
    have hd1 := div_pow_bd hx (m + 1)
    simp only [PInplacePlays.haycroftref09_Text.l1]
    rw [if_pos (by omega), if_pos (by rw [bytesL_length]; omega), Int.tmod_eq_emod_of_nonneg hd.1, Int.tdiv_eq_ediv_of_nonneg hd.1, div_pow_succ, wrap_u64 hd1, w64 (by omega) (by omega)]
    have hih := ih k (m + 1) (by omega) (by omega)
    have hb : bytesL l (8 * j + m) ++ [l.getD j 0 / 256 ^ m % 256 % 256] = bytesL l (8 * j + (m + 1)) := by
      rw [bytesL_w l j m (by omega), bytesL_w l j (m + 1) (by omega), List.range_succ, List.map_append, List.append_assoc]
      congr 2
      simp
    rw [hb]
    rw [show ((m : Int) + 1) = ((m + 1 : Nat) : Int) by omega, hih]
    congr 1; omega

theorem reftext_l2 (l b : List Int) (n : Nat) (hb : b = bytesL l (8 * l.length)) (hl : l.length ≤ 10000) (hn : n ≤ 8 * l.length) (hz : ∀ i, n ≤ i → i < 8 * l.length → byteAt l i = 0) (e : Nat) :
    ∀ (k i : Nat), n ≤ i → i + e = 8 * l.length → e < k → PInplacePlays.haycroftref09_Text.l2 k (n : Int) b (i : Int) = some (strOfNums (bytesL l n), true) := by
  have hbl : b.length = 8 * l.length := by rw [hb, bytesL_length]
  induction e with
  | zero =>
    intro k i h0 h1 h2
    obtain ⟨k, rfl⟩ : ∃ m, k = m + 1 := ⟨k - 1, by omega⟩
    simp only [PInplacePlays.haycroftref09_Text.l2]
    rw [if_neg (by omega), if_pos (by omega), if_pos (by omega), Int.toNat_natCast, hb]
    have h3 : (bytesL l (8 * l.length)).take n = bytesL l n := by
      unfold bytesL; rw [← List.map_take, List.take_range, Nat.min_eq_left hn]
    rw [h3]
  | succ e ih =>
    intro k i h0 h1 h2
    obtain ⟨k, rfl⟩ : ∃ m, k = m + 1 := ⟨k - 1, by omega⟩
    simp only [PInplacePlays.haycroftref09_Text.l2]
    have hv : rd b (i : Int) = 0 := by
      unfold rd
      rw [Int.toNat_natCast, hb, List.getD_eq_getElem?_getD, bytesL_get l _ i (by omega), hz i h0 (by omega)]; rfl
    rw [if_pos (by omega), if_pos (by omega), if_pos hv, w64 (by omega) (by omega)]
    exact ih k (i + 1) (by omega) (by omega) (by omega)

theorem reftext_l0 (l : List Int) (n : Nat) (hl : l.length ≤ 10000) (hR : ∀ x ∈ l, U64 x) (hn : n ≤ 8 * l.length) (hz : ∀ i, n ≤ i → i < 8 * l.length → byteAt l i = 0) (e : Nat) :
    ∀ (k j : Nat), j + e = l.length → 10 * e + 8 * l.length + 10 < k → PInplacePlays.haycroftref09_Text.l0 k l (n : Int) (bytesL l (8 * j)) (j : Int) = some (strOfNums (bytesL l n), true) := by
  induction e with
  | zero =>
    intro k j h1 h2
    obtain ⟨k, rfl⟩ : ∃ m, k = m + 1 := ⟨k - 1, by omega⟩
    simp only [PInplacePlays.haycroftref09_Text.l0]
    obtain rfl : j = l.length := by omega
    rw [if_neg (by omega)]
    exact reftext_l2 l _ n rfl hl hn hz (8 * l.length - n) k n (Nat.le_refl _) (by omega) (by omega)
  | succ e ih =>
    intro k j h1 h2
    obtain ⟨k, rfl⟩ : ∃ m, k = m + 1 := ⟨k - 1, by omega⟩
    simp only [PInplacePlays.haycroftref09_Text.l0]
    rw [if_pos (by omega), if_pos (by omega)]
    have h3 := reftext_l1 l (n : Int) j (by omega) hl hR 8 k 0 (by omega) (by omega)
    simp only [Int.pow_zero, Int.ediv_one, Nat.add_zero, Int.natCast_zero] at h3
    unfold rd
    rw [Int.toNat_natCast, h3]
    exact ih _ (j + 1) (by omega) (by omega)
theorem reftext_f (l : List Int) (n : Nat) (hl : l.length ≤ 10000) (hR : ∀ x ∈ l, U64 x) (hn : n ≤ 8 * l.length) (hz : ∀ i, n ≤ i → i < 8 * l.length → byteAt l i = 0) :
    PInplacePlays.haycroftref09_Text.f (18 * l.length + 11) l (n : Int) = some (strOfNums (bytesL l n), true) :=
  reftext_l0 l n hl hR hn hz l.length _ 0 (by omega) (by omega)
theorem reftext18_f (l : List Int) (n : Nat) (hl : l.length ≤ 10000) (hR : ∀ x ∈ l, U64 x) (hn : n ≤ 8 * l.length) (hz : ∀ i, n ≤ i → i < 8 * l.length → byteAt l i = 0) :
    PInplacePlays.haycroftref18_Text.f (18 * l.length + 11) l (n : Int) = some (strOfNums (bytesL l n)) := by
  unfold PInplacePlays.haycroftref18_Text.f
  rw [reftext_f l n hl hR hn hz]; rfl

/-! ### Value, fit, Fresh -/
theorem refvalue_l0 (x : Int) (hx : U64 x) (e : Nat) : ∀ (k m : Nat), m + e = 8 → e < k → PInplacePlays.haycroftref09_Value.l0 k (x / 256 ^ m) (bytesL [x] m) (m : Int) = some (strOfNums (bytesL [x] 8)) := by
  induction e with
  | zero =>
    intro k m h1 h2
    obtain ⟨k, rfl⟩ : ∃ m, k = m + 1 := ⟨k - 1, by omega⟩
    obtain rfl : m = 8 := by omega
    simp only [PInplacePlays.haycroftref09_Value.l0]
    rw [if_neg (by omega)]
  | succ e ih =>
    intro k m h1 h2
    obtain ⟨k, rfl⟩ : ∃ m, k = m + 1 := ⟨k - 1, by omega⟩
    have hd := div_pow_bd hx m
    have hd1 := div_pow_bd hx (m + 1)
    simp only [PInplacePlays.haycroftref09_Value.l0]
    rw [if_pos (by omega), if_pos (by rw [bytesL_length]; omega), Int.tmod_eq_emod_of_nonneg hd.1, Int.tdiv_eq_ediv_of_nonneg hd.1, div_pow_succ, wrap_u64 hd1, w64 (by omega) (by omega)]
    have hb : bytesL [x] m ++ [x / 256 ^ m % 256 % 256] = bytesL [x] (m + 1) := by
      rw [bytesL_succ]
      congr 2
      unfold byteAt
      rw [show m / 8 = 0 by omega, show m % 8 = m by omega, show (256 : Int) ^ m = 2 ^ (m * 8) from by rw [show (256 : Int) = 2 ^ 8 from rfl, ← Int.pow_mul, Nat.mul_comm]]
      simp
    rw [hb]
    exact ih k (m + 1) (by omega) (by omega)
theorem refvalue_f (x : Int) (hx : U64 x) : PInplacePlays.haycroftref09_Value.f 9 x = some (strOfNums (bytesL [x] 8)) := by
  have := refvalue_l0 x hx 8 9 0 (by omega) (by omega)
  unfold PInplacePlays.haycroftref09_Value.f
  simpa [bytesL] using this

theorem reflens_f (a b : Nat) (ha : a ≤ 64) (hb : b ≤ 128) (k : Nat) : ∃ n, PInplacePlays.haycroftref08_Lengths.f (k + 1) (a : Int) (b : Int) = some (n, 0) ∧ U64 n := by
  unfold PInplacePlays.haycroftref08_Lengths.f
  rw [if_neg (by omega)]
  simp only [PInplacePlays.haycroftref08_Lengths.j0]
  rw [if_neg (by simp), if_neg (by omega), if_neg (by omega)]
  refine ⟨_, rfl, ?_⟩
  rw [wrap_u64 (x := (a : Int)) ⟨by omega, by omega⟩, wrap_u64 (x := (b : Int)) ⟨by omega, by omega⟩, wrap_u64 (x := (b : Int) * 65536) ⟨by omega, by omega⟩, wrap_u64 (x := (a : Int) + (b : Int) * 65536) ⟨by omega, by omega⟩, wrap_u64 (x := (a : Int) + (b : Int) * 65536 + 189850439385088) ⟨by omega, by omega⟩]
  exact ⟨by omega, by omega⟩
theorem refpack_f : PInplacePlays.haycroftref08_Pack.f 0 false false = some (0, 0) := by
  unfold PInplacePlays.haycroftref08_Pack.f
  rw [if_neg (by decide), if_neg (by decide), if_neg (by decide)]
theorem reffresh_f (key value : ByteArray) (hk : key.size ≤ 64) (hv : value.size ≤ 128) : ∃ n, PInplacePlays.haycroftref18_Fresh.f 1000 key value = some ([0, 0, n] ++ wordsL key ++ wordsL value) ∧ U64 n := by
  obtain ⟨n, hn, hu⟩ := reflens_f key.size value.size hk hv 999
  have n1 : wordsN key ≤ 8 := by unfold wordsN; omega
  have n2 : wordsN value ≤ 16 := by unfold wordsN; omega
  refine ⟨n, ?_, hu⟩
  unfold PInplacePlays.haycroftref18_Fresh.f PInplacePlays.haycroftref09_Words.f
  rw [refpack_f, hn]
  simp only [Option.bind_some]
  rw [refwords_f key (by omega) 1000 (by omega), refwords_f value (by omega) 1000 (by omega)]
  try simp only [Option.bind_some]
  rw [if_pos (by rw [wordsL_length]; simp; omega)]
  try simp only [Option.bind_some]
  rw [if_pos (by rw [List.length_append, wordsL_length, wordsL_length]; simp; omega)]
  rfl
theorem reffit_f (s : ByteArray) (n : Nat) (hn : n ≤ 128) : ∃ r, PInplacePlays.haycroftlaw18_fit.f s (n : Int) = some r ∧ r.size = n := by
  unfold PInplacePlays.haycroftlaw18_fit.f
  by_cases h : (s.size : Int) ≥ (n : Int)
  · rw [if_pos h, if_pos (by omega), if_pos (by omega)]
    exact ⟨_, rfl, by simp; omega⟩
  · rw [if_neg h, w64 (by omega) (by omega), if_pos (by omega), if_pos (by omega)]
    simp only [Option.bind_some]
    have hz : ∀ m : Nat, (strOfNums (List.replicate m 0)).size = m := by
      intro m
      unfold strOfNums
      simp [ByteArray.size]
    rw [hz, if_pos (by omega)]
    exact ⟨_, rfl, by rw [ByteArray.size_append, hz]; omega⟩

end Go.Proofs.Ytlgebknbfchnlaa

/- A page with a record: plain law of a buffer of a page, and law18's begin. -/
namespace Go.Proofs.Ytlgebknbfchnlaa
set_option linter.unusedVariables false
set_option linter.unusedSimpArgs false
open Go Go.RowKit Go.Hay Go.Proofs.YtlgebknbfchnlaaW.PrintWords

/-- A buffer of pages of 64 words whose page 0 is in, with a lock at 2 and words of a value from 5 on. -/
structure Sc (x : Buf) (h : Bool) (c : Int) (V : List Int) : Prop where
  bits : x.bits = 6
  hold : x.holder = [1, 0]
  wlen : x.words.length = 128
  range : ∀ y ∈ x.words, U64 y
  lock : x.words.getD 2 0 = LK h c
  c0 : 0 ≤ c
  c1 : c < 4294967296
  vals : ∀ j, j < V.length → x.words.getD (5 + j) 0 = V.getD j 0
  len : V.length ≤ 16

theorem Sc.page {x : Buf} {h : Bool} {c : Int} {V : List Int} (s : Sc x h c V) {a : Int} (h0 : 0 ≤ a) (h1 : a < 64) : pageOf x.bits a = 0 ∧ offOf x.bits a = a ∧ x.fr 0 = 0 := by
  rw [s.bits]
  unfold pageOf offOf Buf.fr
  refine ⟨by simp; omega, by simp; omega, by simp⟩
theorem Sc.ain {x : Buf} {h : Bool} {c : Int} {V : List Int} (s : Sc x h c V) {a : Int} (h0 : 0 ≤ a) (h1 : a < 64) : x.ain a = true := by
  obtain ⟨p1, p2, p3⟩ := s.page h0 h1
  unfold Buf.ain Buf.has
  rw [p1, p3, s.hold]
  simp; omega
theorem Sc.idx {x : Buf} {h : Bool} {c : Int} {V : List Int} (s : Sc x h c V) {a : Int} (h0 : 0 ≤ a) (h1 : a < 64) : x.idx a = a := by
  obtain ⟨p1, p2, p3⟩ := s.page h0 h1
  unfold Buf.idx
  rw [p1, p3, p2]; simp
theorem Sc.at_ {x : Buf} {h : Bool} {c : Int} {V : List Int} (s : Sc x h c V) {a : Int} (h0 : 0 ≤ a) (h1 : a < 64) : x.at_ a = x.words.getD a.toNat 0 := by
  unfold Buf.at_; rw [s.idx h0 h1]
theorem Sc.at_lock {x : Buf} {h : Bool} {c : Int} {V : List Int} (s : Sc x h c V) : x.at_ 2 = LK h c := by rw [s.at_ (by omega) (by omega)]; exact s.lock
theorem Sc.at_val {x : Buf} {h : Bool} {c : Int} {V : List Int} (s : Sc x h c V) {j : Nat} (hj : j < V.length) : x.at_ (5 + j) = V.getD j 0 := by
  have := s.len
  rw [s.at_ (by omega) (by omega), show (5 + (j : Int)).toNat = 5 + j by omega]; exact s.vals j hj
theorem Sc.u64 {x : Buf} {h : Bool} {c : Int} {V : List Int} (s : Sc x h c V) (a : Int) : U64 (x.at_ a) := by
  unfold Buf.at_
  by_cases hi : (x.idx a).toNat < x.words.length
  · exact s.range _ (getD_mem hi)
  · rw [List.getD_eq_getElem?_getD, List.getElem?_eq_none (by omega)]; unfold U64; simp
theorem Sc.put_range {x : Buf} {h : Bool} {c : Int} {V : List Int} (s : Sc x h c V) (a v : Int) (hv : U64 v) : ∀ y ∈ (x.put a v).words, U64 y := by
  intro y hy
  rcases List.mem_or_eq_of_mem_set hy with h1 | rfl
  · exact s.range y h1
  · exact hv
theorem Sc.put_lock {x : Buf} {h : Bool} {c : Int} {V : List Int} (s : Sc x h c V) (h' : Bool) {c' : Int} (h0 : 0 ≤ c') (h1 : c' < 4294967296) : Sc (x.put 2 (LK h' c')) h' c' V := by
  have hi := s.idx (a := 2) (by omega) (by omega)
  have hp : (x.put 2 (LK h' c')).words = x.words.set 2 (LK h' c') := by simp [Buf.put, Buf.withWords, hi]
  refine ⟨s.bits, s.hold, by rw [hp]; simpa using s.wlen, s.put_range _ _ (lk_u64 h0 h1), ?_, h0, h1, ?_, s.len⟩
  · rw [hp, getD_set, if_pos ⟨rfl, by have := s.wlen; omega⟩]
  · intro j hj
    rw [hp, getD_set, if_neg (by omega)]; exact s.vals j hj
theorem Sc.put_val {x : Buf} {h : Bool} {c : Int} {V : List Int} (s : Sc x h c V) {j : Nat} (hj : j < V.length) {u : Int} (hu : U64 u) : Sc (x.put (5 + j) u) h c (V.set j u) := by
  have hl := s.len
  have hi := s.idx (a := 5 + j) (by omega) (by omega)
  have hp : (x.put (5 + j) u).words = x.words.set (5 + j) u := by simp [Buf.put, Buf.withWords, hi, show (5 + (j : Int)).toNat = 5 + j by omega]
  refine ⟨s.bits, s.hold, by rw [hp]; simpa using s.wlen, s.put_range _ _ hu, ?_, s.c0, s.c1, ?_, by simpa using s.len⟩
  · rw [hp, getD_set, if_neg (by omega)]; exact s.lock
  · intro i hi2
    rw [List.length_set] at hi2
    rw [hp, getD_set, getD_set]
    by_cases hij : j = i
    · subst hij
      rw [if_pos ⟨rfl, by have := s.wlen; omega⟩, if_pos ⟨rfl, hj⟩]
    · rw [if_neg (by omega), if_neg (by omega)]; exact s.vals i hi2

/-- What begin lays. -/
theorem sc_begin (b : Nat) (R C RH CH : Nat) (n : Int) (hn : U64 n) (l : List Int) (hl : l.length ≤ 16) (hR : ∀ y ∈ l, U64 y) (kw : Int) (hk : U64 kw) :
    ((Buf.fresh 6 2 b R C RH CH).opened 0).runE 1 ((4 + l.length : Nat) : Int) = 0 ∧ Sc (((Buf.fresh 6 2 b R C RH CH).opened 0).putRun 1 ([0, 0, n] ++ [kw] ++ l)) false 0 l := by
  have hb : ((Buf.fresh 6 2 b R C RH CH).opened 0).bits = 6 := rfl
  have hh : ((Buf.fresh 6 2 b R C RH CH).opened 0).holder = [1, 0] := by simp [Buf.opened, Buf.fresh, Buf.fr, Buf.nf]
  have hw : ((Buf.fresh 6 2 b R C RH CH).opened 0).words = List.replicate 128 0 := by
    simp only [Buf.opened, Buf.fresh, Buf.fr, Buf.nf]
    decide
  generalize (Buf.fresh 6 2 b R C RH CH).opened 0 = x at *
  have hi : ∀ a : Int, 0 ≤ a → a < 64 → x.idx a = a := by
    intro a h0 h1
    unfold Buf.idx pageOf offOf Buf.fr Buf.nf
    rw [hb, hh]; simp; omega
  have hain : x.ain 1 = true := by unfold Buf.ain Buf.has pageOf Buf.fr Buf.nf; rw [hb, hh]; simp
  have hro : roomOf x.bits 1 = 63 := by unfold roomOf offOf; rw [hb]; simp
  have hp : (x.putRun 1 ([0, 0, n] ++ [kw] ++ l)).words = putAt (List.replicate 128 0) 1 ([0, 0, n] ++ [kw] ++ l) := by
    simp [Buf.putRun, Buf.withWords, hi 1 (by omega) (by omega), hw]
  have hp2 : putAt (List.replicate 128 (0 : Int)) 1 ([0, 0, n] ++ [kw] ++ l) = 0 :: 0 :: 0 :: n :: kw :: (l ++ List.replicate (123 - l.length) 0) := by
    unfold putAt
    rw [show 1 + ([0, 0, n] ++ [kw] ++ l).length = 5 + l.length by simp; omega, List.drop_replicate, show 128 - (5 + l.length) = 123 - l.length by omega]
    rfl
  refine ⟨?_, hb, hh, ?_, ?_, ?_, by omega, by omega, ?_, hl⟩
  · unfold Buf.runE
    rw [if_pos hain, hro, if_pos (by omega)]
  · rw [hp, hp2]; simp; omega
  · intro y hy
    rw [hp, hp2] at hy
    simp only [List.mem_cons, List.mem_append, List.mem_replicate] at hy
    rcases hy with rfl | rfl | rfl | rfl | rfl | hy | ⟨_, rfl⟩
    · unfold U64; omega
    · unfold U64; omega
    · unfold U64; omega
    · exact hn
    · exact hk
    · exact hR y hy
    · unfold U64; omega
  · rw [hp, hp2]; rfl
  · intro j hj
    rw [hp, hp2, show 5 + j = j + 5 by omega]
    simp only [List.getD_eq_getElem?_getD, List.getElem?_cons_succ]
    rw [List.getElem?_append_left hj]

set_option maxRecDepth 100000 in
set_option maxHeartbeats 400000 in
theorem begin_ok (s : ByteArray) (w : World) (hs : s.size ≤ 128) :
    Calls Try.prog 44 #[.string s] w fun e w' => ∃ x : Buf, e = .returned (.tuple #[.pointer (some ⟨x.b, 0, none⟩), .bool true]) ∧ BufAt w' x ∧ Sc x false 0 (wordsL s) ∧ (∀ g ∈ x.all, w.heap.size ≤ g) ∧ Keep [] w w' := by
  obtain ⟨n, hF, hn⟩ := reffresh_f ⟨#[107]⟩ s (by decide) hs
  have HF := Hid.mk (fun W => PInplacePlays.haycroftref18_Fresh.calls _ ⟨#[107]⟩ s _ W hF)
  have HN := Hid.mk (fun W => bnew_ok 6 2 W (by omega) (by omega))
  have hk1 : ∃ kw, wordsL ⟨#[107]⟩ = [kw] ∧ U64 kw := ⟨wordAt ⟨#[107]⟩ 0, by rfl, wordAt_u64 _ _⟩
  obtain ⟨kw, hkw, hku⟩ := hk1
  rw [hkw] at HF
  have hl : (wordsL s).length ≤ 16 := by rw [wordsL_length]; unfold wordsN; omega
  have hR := wordsL_u64 s
  clear hF
  generalize wordsL s = l at *
  have HB := Hid.mk (fun b R C RH CH => sc_begin b R C RH CH n hn l hl hR kw hku)
  have HO := Hid.mk (fun p R C RH CH W (hW : BufAt W (Buf.fresh 6 2 p R C RH CH)) => bopen_ok (Buf.fresh 6 2 p R C RH CH) 0 W hW (by omega) (by simp [Buf.openE, Buf.has, Buf.hold, Buf.fresh, Buf.fr, Buf.nf]))
  have HRL := Hid.mk (show ∀ y ∈ [0, 0, n] ++ [kw] ++ l, U64 y by
    intro y hy
    simp at hy
    rcases hy with rfl | rfl | rfl | hy
    · unfold U64; omega
    · exact hn
    · exact hku
    · exact hR y hy)
  have HLen := Hid.mk (show ([0, 0, n] ++ [kw] ++ l).length = 4 + l.length by simp; omega)
  generalize [0, 0, n] ++ [kw] ++ l = L at *
  clear hR hl
  go_enter Try.func44, Try.ntmps44
  go_wp2_with (first
    | (go_at_call 10; refine (HN.out _).mono ?_; rintro e w1 ⟨p, R, C, RH, CH, rfl, hx, hnew, hk⟩)
    | (go_at_call 32; refine (HO.out p R C RH CH _ hx).mono ?_; rintro e w2 ⟨rfl, hx2, hk2⟩)
    | (go_at_call 78; refine (HF.out _).mono ?_; rintro e w3 ⟨v, rfl, hv, hk3⟩; obtain ⟨A, cc, rfl, hcc, hC, hAb⟩ := Own.reads hv)
    | (go_at_call 43; have hx3 := hx2.keep (Keep.of_below hk3 []) (by simp); refine (bfill_ok _ 1 A L.length cc L w3 hx3 (by omega) hC (fun ad hA => by have := hAb ad hA; have := hx2.lt C (by simp [Buf.all, Buf.fp, Buf.opened, Buf.fresh]); simp [Buf.opened, Buf.fresh]; omega) HRL.out (by rw [HLen.out]; exact (HB.out p R C RH CH).1)).mono ?_; rintro e w4 ⟨rfl, hx4, hk4⟩))
  go_ret2
  have hn2 : ∀ k ∈ [p, R, C, RH, CH], w.heap.size ≤ k := hnew
  refine ⟨_, rfl, hx4, (HB.out p R C RH CH).2, hnew, ?_⟩
  have k1 : Keep [] w w2 := hk.trans hk2 (fun b hb => .inr (hnew b (by simp [Buf.all]; exact .inr hb)))
  exact (k1.trans (Keep.of_below hk3 []) (by simp)).trans hk4 (by simp; exact hn2 C (by simp))
end Go.Proofs.Ytlgebknbfchnlaa

/- law18's awake. -/
namespace Go.Proofs.Ytlgebknbfchnlaa
set_option linter.unusedVariables false
set_option linter.unusedSimpArgs false
open Go Go.RowKit Go.Hay Go.Proofs.YtlgebknbfchnlaaW.PrintWords

/-- The adder of the example, when k moves are done. -/
def AwS (k : Nat) (x : Buf) (r : Wr) : Prop :=
  match k with
  | 0 => Sc x false 0 [5] ∧ r.state = 0 ∧ r.add = true ∧ r.n = 7 ∧ r.l.length = 1 ∧ r.at_ = 0
  | 1 => Sc x true 0 [5] ∧ r.state = 1 ∧ r.add = true ∧ r.n = 7 ∧ r.l.length = 1 ∧ r.at_ = 0 ∧ r.held = LK true 0
  | 2 => Sc x true 0 [5] ∧ r.state = 2 ∧ r.add = true ∧ r.l = [12] ∧ r.at_ = 0 ∧ r.held = LK true 0
  | 3 => Sc x true 0 [12] ∧ r.state = 3 ∧ r.add = true ∧ r.l = [12] ∧ r.at_ = 1 ∧ r.held = LK true 0
  | _ => Sc x false 1 [12]

theorem Sc.fit {x : Buf} {h : Bool} {c : Int} {V : List Int} (s : Sc x h c V) {r : Wr} (h1 : r.state = 1 → 1 ≤ V.length ∧ 1 ≤ r.l.length) (h2 : r.state = 2 → r.at_ < V.length ∧ r.at_ < r.l.length) (h3 : r.state = 3 → r.held = LK true c) :
    r.Fit x 2 5 V.length h c := by
  have hl := s.len
  exact ⟨s.at_lock, s.c0, s.c1, by omega, s.ain (by omega) (by omega), by omega, by omega, fun j hj => s.ain (by omega) (by omega), by omega, h1, h2, h3⟩

theorem awS_step (k : Nat) (hk : k ≤ 3) (x : Buf) (r : Wr) (h : AwS k x r) :
    ∃ b, r.Fit x 2 5 1 b 0 ∧ (r.step x 2 5 1 b 0).1 = (if k = 3 then 2 else 1) ∧ AwS (k + 1) (r.step x 2 5 1 b 0).2.1 (r.step x 2 5 1 b 0).2.2 ∧ (r.step x 2 5 1 b 0).2.2.v = r.v ∧ (r.step x 2 5 1 b 0).2.2.p = r.p := by
  match k, hk with
  | 0, _ =>
    obtain ⟨s, h1, h2, h3, h4, h5⟩ := h
    refine ⟨false, s.fit (by omega) (by omega) (by omega), ?_⟩
    unfold Wr.step
    rw [if_pos h1, if_neg (by decide)]
    refine ⟨rfl, ⟨s.put_lock true (by omega) (by omega), ?_, h2, h3, h4, h5, rfl⟩, rfl, rfl⟩
    simp [Wr.nextS, h2]
  | 1, _ =>
    obtain ⟨s, h1, h2, h3, h4, h5, h6⟩ := h
    refine ⟨true, s.fit (fun _ => by simp; omega) (by omega) (by omega), ?_⟩
    unfold Wr.step
    rw [if_neg (by omega), if_pos h1]
    have ha : x.at_ 5 = 5 := by have := s.at_val (j := 0) (by simp); simpa using this
    refine ⟨rfl, ⟨s, ?_, h2, ?_, h5, h6⟩, rfl, rfl⟩
    · simp [Wr.nextS, h5]
    · obtain ⟨a, ha2⟩ := List.length_eq_one_iff.1 h4
      rw [ha, h3, ha2]; rfl
  | 2, _ =>
    obtain ⟨s, h1, h2, h3, h4, h5⟩ := h
    refine ⟨true, s.fit (by omega) (fun _ => by rw [h3, h4]; simp) (by omega), ?_⟩
    unfold Wr.step
    rw [if_neg (by omega), if_neg (by omega), if_pos h1]
    have hp := s.put_val (j := 0) (u := 12) (by simp) (by unfold U64; omega)
    refine ⟨rfl, ⟨?_, ?_, h2, h3, ?_, h5⟩, rfl, rfl⟩
    · rw [h3, h4]; simpa using hp
    · simp [Wr.nextS, h4]
    · simp [h4]
  | 3, _ =>
    obtain ⟨s, h1, h2, h3, h4, h5⟩ := h
    refine ⟨true, s.fit (by omega) (by omega) (fun _ => h5), ?_⟩
    unfold Wr.step
    rw [if_neg (by omega), if_neg (by omega), if_neg (by omega), if_pos h1]
    exact ⟨rfl, s.put_lock false (c' := 1) (by omega) (by omega), rfl, rfl⟩

theorem bt_strOf (l : List Int) (i : Nat) (hi : i < l.length) (h0 : 0 ≤ l.getD i 0) (h1 : l.getD i 0 < 256) : bt (strOfNums l) (i : Int) = l.getD i 0 := by
  unfold bt
  rw [dif_pos (by rw [strOfNums_size]; simpa using hi)]
  have : ((strOfNums l)[i]'(by rw [strOfNums_size]; exact hi)) = (l.map (fun v => UInt8.ofNat v.toNat))[i]'(by simpa using hi) := by
    simp [strOfNums, ByteArray.getElem_eq_getElem_data]
  simp only [Int.toNat_natCast]
  rw [this]
  rw [List.getD_eq_getElem?_getD, List.getElem?_eq_getElem hi] at h0 h1 ⊢
  simp at h0 h1 ⊢
  omega

theorem wordLow_mod (s : ByteArray) (j : Nat) (x : Int) (h : ∀ m, m < 8 → bt s ((8 * j + m : Nat) : Int) = x / 256 ^ m % 256) (m : Nat) (hm : m ≤ 8) : wordLow s j m = x % 256 ^ m := by
  induction m with
  | zero => simp [wordLow]
  | succ m ih =>
    unfold wordLow
    rw [ih (by omega), h m (by omega)]
    have e : x % 256 ^ (m + 1) = x % 256 ^ m + 256 ^ m * (x / 256 ^ m % 256) := by
      rw [Int.emod_def x (256 ^ (m + 1)), ← div_pow_succ, Int.emod_def x (256 ^ m), Int.emod_def (x / 256 ^ m) 256, Int.mul_sub, Int.pow_succ, Int.mul_assoc]
      omega
    rw [e, Int.mul_comm]

theorem wordsL_value (x : Int) (hx : U64 x) : wordsL (strOfNums (bytesL [x] 8)) = [x] := by
  have hs : (strOfNums (bytesL [x] 8)).size = 8 := by rw [strOfNums_size, bytesL_len]
  have hn : wordsN (strOfNums (bytesL [x] 8)) = 1 := by unfold wordsN; rw [hs]
  unfold wordsL
  rw [hn]
  simp only [List.range_one, List.map_cons, List.map_nil, List.cons.injEq, and_true]
  unfold wordAt
  rw [wordLow_mod _ 0 x ?_ 8 (Nat.le_refl _)]
  · unfold U64 at hx; omega
  · intro m hm
    have hg : (bytesL [x] 8).getD m 0 = x / 256 ^ m % 256 := by
      rw [List.getD_eq_getElem?_getD, bytesL_get _ _ _ hm]
      unfold byteAt
      rw [show m / 8 = 0 by omega, show m % 8 = m by omega, show (256 : Int) = 2 ^ 8 by decide, ← Int.pow_mul, Nat.mul_comm 8 m]; rfl
    have := bt_strOf (bytesL [x] 8) m (by rw [bytesL_len]; exact hm) (by rw [hg]; omega) (by rw [hg]; omega)
    rw [show 8 * 0 + m = m by omega, this, hg]

set_option maxRecDepth 100000 in
set_option maxHeartbeats 400000 in
theorem awake_ok (w : World) : Calls Try.prog 9 #[] w fun e w' => e = .returned (.bool true) ∧ Keep [] w w' := by
  have h5 : U64 5 := by unfold U64; omega
  have HV := Hid.mk (PInplacePlays.haycroftref09_Value.calls 9 5 _ w (refvalue_f 5 h5))
  have hs : (strOfNums (bytesL [5] 8)).size = 8 := by rw [strOfNums_size, bytesL_len]
  have HB := Hid.mk (fun W => begin_ok (strOfNums (bytesL [5] 8)) W (by omega))
  rw [wordsL_value 5 h5] at HB
  generalize strOfNums (bytesL [5] 8) = s at *
  have HA := Hid.mk (fun x W (hW : BufAt W x) (hb : x.bits = 6) => newAdder_ok x 1 1 7 W hW (by omega) (by unfold U64; omega) (by unfold U64; omega) (by rw [hb]; decide))
  go_enter Try.func9, Try.ntmps9
  go_wp2_with (first
    | (go_at_call 20; refine HV.out.mono ?_; rintro e w1 ⟨rfl, hk1⟩)
    | (go_at_call 44; refine (HB.out _).mono ?_; rintro e w2 ⟨x, rfl, hx, hsc, hnew, hk2⟩)
    | (go_at_call 13; refine (HA.out x _ hx hsc.bits).mono ?_; rintro e w3 ⟨p, v, l, rfl, hl, hr, hp, hk3⟩))
  have k2 : Keep [] w w2 := (Keep.of_below hk1 []).trans hk2 (by simp)
  have k3 : Keep [] w w3 := k2.trans hk3 (by simp)
  have hx3 : BufAt w3 x := hx.keep hk3 (by simp)
  have hnew2 : ∀ g ∈ x.all, w.heap.size ≤ g := fun g hg => Nat.le_trans hk1.size (hnew g hg)
  have hp2 : ∀ g ∈ (Wr.adder p v l 7).fp, w.heap.size ≤ g ∧ g ∉ x.all := fun g hg => ⟨Nat.le_trans k2.size (hp g hg), fun hm => Nat.not_lt.2 (hp g hg) (hx.lt g hm)⟩
  obtain ⟨xb, hxb⟩ : ∃ xb, x.b = xb := ⟨_, rfl⟩
  rw [hxb]
  go_loopw [5] (fun n wr => ∃ (k : Nat) (y : Buf) (r : Wr), k ≤ 3 ∧ n = .int .i64 k ∧ AwS k y r ∧ BufAt wr y ∧ WrAt wr y.b 2 5 1 r ∧ y.b = xb ∧ r.p = p ∧ (∀ g ∈ y.all, w.heap.size ≤ g) ∧ (∀ g ∈ r.fp, w.heap.size ≤ g ∧ g ∉ y.all) ∧ Keep [] w wr) (fun n _ => 9 - (intOf n).toNat)
  case atStart => exact ⟨0, x, _, by omega, rfl, ⟨hsc, rfl, rfl, rfl, hl, rfl⟩, hx3, hr, hxb, rfl, hnew2, hp2, k3⟩
  case round =>
    obtain ⟨k, y, r, hk, rfl, hS, hy, hR, hyb, hrp, hn1, hn2, hkp⟩ := hrel
    clear hxb hp2 hp hr hx3 k3 hx hsc hnew hnew2 hl hk1 hk2 hk3 k2
    subst hyb hrp
    obtain ⟨b, hfit, hv, hS', hv', hp'⟩ := awS_step k hk y r hS
    have HM := wmove_ok y 2 5 1 r b 0 wr hy hR (fun g hg => (hn2 g hg).2) hfit
    have hbb : (r.step y 2 5 1 b 0).2.1.b = y.b ∧ (r.step y 2 5 1 b 0).2.1.all = y.all := by
      unfold Wr.step; split <;> (try split) <;> (try split) <;> (try split) <;> (try split) <;> exact ⟨rfl, rfl⟩
    have hfp : (r.step y 2 5 1 b 0).2.2.fp = r.fp := by unfold Wr.fp; rw [hv', hp']
    rw [hv] at HM
    generalize (r.step y 2 5 1 b 0).2.1 = y' at *
    generalize (r.step y 2 5 1 b 0).2.2 = r' at *
    have HM := Hid.mk HM
    obtain ⟨hb1, hb2⟩ := hbb
    have HK := Hid.mk (fun (w' : World) (hk' : Keep (r.fp ++ [y.R, y.C]) wr w') => hkp.trans hk' (fun g hg => by
      rcases List.mem_append.1 hg with h1 | h1
      · exact .inr (hn2 g h1).1
      · simp at h1
        rcases h1 with rfl | rfl
        · exact .inr (hn1 _ (by simp [Buf.all, Buf.fp]))
        · exact .inr (hn1 _ (by simp [Buf.all, Buf.fp]))))
    by_cases h3 : k = 3
    · subst h3
      rw [if_pos rfl] at HM
      have hS4 : Sc y' false 1 [12] := hS'
      have ha : y'.at_ 5 = 12 := by have := hS4.at_val (j := 0) (by simp); simpa using this
      have HL := Hid.mk (fun W (hW : BufAt W y') => bload_ok y' 5 W hW (by omega) (hS4.ain (by omega) (by omega)))
      rw [ha, hb1] at HL
      clear ha hS hS' hfit hS4 hv
      go_wp2_with (first
        | (go_at_call 15; refine HM.out.mono ?_; rintro e w4 ⟨rfl, hy4, hr4, hk4⟩)
        | (go_at_call 27; refine (HL.out _ hy4).mono ?_; rintro e w5 ⟨rfl, m, rfl⟩))
      go_ret
      exact ⟨rfl, (HK.out _ hk4).drewN m⟩
    · rw [if_neg h3] at HM
      clear hS hfit hv
      go_wp2_with ((go_at_call 15; refine HM.out.mono ?_; rintro e w4 ⟨rfl, hy4, hr4, hk4⟩))
      go_roundw
      case rel => exact ⟨k + 1, y', r', by omega, by go_num, hS', hy4, hb1 ▸ hr4, hb1, hp', by rw [hb2]; exact hn1, by rw [hb2, hfp]; exact hn2, HK.out _ hk4⟩
      case measure => simp [intOf]; omega
end Go.Proofs.Ytlgebknbfchnlaa

/- The document's Work and Cells: contracts of their moves. -/
namespace Go.Proofs.Ytlgebknbfchnlaa
set_option linter.unusedVariables false
set_option linter.unusedSimpArgs false
open Go Go.RowKit Go.Hay Go.Proofs.YtlgebknbfchnlaaW.PrintWords

structure Wk where
  p : Nat
  reads : Bool
  adds : Bool
  n : Int
  lv : Value
  l : List Int
  moves : Nat
  done : Bool
  seen : Int
  gv : Value
  got : List Int

structure WkAt (w : World) (m : Wk) : Prop where
  blk : Blk w m.p 58 #[.bool m.reads, .bool m.adds, .int .u64 m.n, m.lv, .int .i64 m.moves, .bool m.done, .int .u64 m.seen, m.gv]
  lrow : Own .u64 22 w 0 m.lv m.l
  grow : Own .u64 22 w 0 m.gv m.got
  lr : ∀ x ∈ m.l, U64 x
  gr : ∀ x ∈ m.got, U64 x
  nr : U64 m.n
  sep : ∀ g, m.lv.ownBlock = some g → m.gv.ownBlock ≠ some g
  ml : m.moves ≤ 1000
  ll : m.l.length ≤ 100
  gl : m.got.length ≤ 100

structure Ce where
  p : Nat
  h : Bool
  c : Int
  v : Value
  l : List Int

structure CeAt (w : World) (x : Ce) : Prop where
  blk : Blk w x.p 65 #[.bool x.h, .int .u64 x.c, x.v]
  row : Own .u64 22 w 0 x.v x.l
  lr : ∀ y ∈ x.l, U64 y
  c0 : 0 ≤ x.c
  c1 : x.c < 4294967296
  ll : x.l.length ≤ 100

def Wk.fp (m : Wk) : List Nat := m.p :: (m.lv.ownBlock.toList ++ m.gv.ownBlock.toList)
def Ce.fp (x : Ce) : List Nat := x.p :: x.v.ownBlock.toList

theorem own_ne {w : World} {p T T' g : Nat} {cs : Array Value} {v : Value} {xs : List Int} (hb : Blk w p T cs) (ho : Own .u64 T' w 0 v xs) (hT : T ≠ T') (hg : v.ownBlock = some g) : p ≠ g := by
  obtain ⟨cs', hc⟩ := own_typed ho.row g hg
  rintro rfl
  have h2 := hb
  unfold Blk at h2
  rw [hc] at h2
  simp at h2
  exact hT h2.2.symm

theorem WkAt.keep {S : List Nat} {w w' : World} {m : Wk} (h : WkAt w m) (k : Keep S w w') (hS : ∀ g ∈ m.fp, g ∉ S) : WkAt w' m :=
  ⟨h.blk.keep k (hS _ (by simp [Wk.fp])), h.lrow.keepB k (fun g hg => hS g (by simp [Wk.fp, hg])), h.grow.keepB k (fun g hg => hS g (by simp [Wk.fp, hg])), h.lr, h.gr, h.nr, h.sep, h.ml, h.ll, h.gl⟩
theorem CeAt.keep {S : List Nat} {w w' : World} {x : Ce} (h : CeAt w x) (k : Keep S w w') (hS : ∀ g ∈ x.fp, g ∉ S) : CeAt w' x :=
  ⟨h.blk.keep k (hS _ (by simp [Ce.fp])), h.row.keepB k (fun g hg => hS g (by simp [Ce.fp, hg])), h.lr, h.c0, h.c1, h.ll⟩
theorem WkAt.lt {w : World} {m : Wk} (h : WkAt w m) : ∀ g ∈ m.fp, g < w.heap.size := by
  intro g hg
  simp [Wk.fp] at hg
  rcases hg with rfl | hg | hg
  · exact h.blk.lt
  · exact (h.lrow.lt hg).2
  · exact (h.grow.lt hg).2
theorem CeAt.lt {w : World} {x : Ce} (h : CeAt w x) : ∀ g ∈ x.fp, g < w.heap.size := by
  intro g hg
  simp [Ce.fp] at hg
  rcases hg with rfl | hg
  · exact h.blk.lt
  · exact (h.row.lt hg).2
theorem WkAt.drewN {w : World} {m : Wk} (h : WkAt w m) (n : Nat) : WkAt (w.drewN n) m := h.keep ((Keep.refl [] w).drewN n) (by simp)
theorem CeAt.drewN {w : World} {x : Ce} (h : CeAt w x) (n : Nat) : CeAt (w.drewN n) x := h.keep ((Keep.refl [] w).drewN n) (by simp)

/-- A row that is new. -/
theorem Own.new {k : IntKind} {T g base : Nat} {w : World} {xs : List Int} (h : Blk w g T (xs.map (Value.int k)).toArray) (hg : base ≤ g) (hl : xs.length ≤ 1000) : Own k T w base (.slice (some ⟨g, 0, none⟩) xs.length xs.length) xs :=
  Own.of_row ⟨by simp, .inr ⟨g, xs.length, _, rfl, hg, h, Nat.le_refl _, by unfold maxLen; omega, by simp, by simp [List.take_of_length_le]⟩⟩

/-- Cells of a work that turn, its rows as they are. -/
theorem WkAt.turn {w w' : World} {m m' : Wk} (h : WkAt w m) (k : Keep [m.p] w w') (hb : Blk w' m.p 58 #[.bool m'.reads, .bool m'.adds, .int .u64 m'.n, m'.lv, .int .i64 m'.moves, .bool m'.done, .int .u64 m'.seen, m'.gv]) (hp : m'.p = m.p) (hl : m'.lv = m.lv ∧ m'.l = m.l) (hg : m'.gv = m.gv ∧ m'.got = m.got) (hn : m'.n = m.n) (hm : m'.moves ≤ 1000) : WkAt w' m' := by
  have e1 : ∀ g, m.lv.ownBlock = some g → g ∉ [m.p] := fun g hg => by have := own_ne h.blk h.lrow (by decide) hg; simpa using this.symm
  have e2 : ∀ g, m.gv.ownBlock = some g → g ∉ [m.p] := fun g hg => by have := own_ne h.blk h.grow (by decide) hg; simpa using this.symm
  refine ⟨hp ▸ hb, ?_, ?_, ?_, ?_, hn ▸ h.nr, ?_, hm, ?_, ?_⟩
  · rw [hl.1, hl.2]; exact h.lrow.keepB k e1
  · rw [hg.1, hg.2]; exact h.grow.keepB k e2
  · rw [hl.2]; exact h.lr
  · rw [hg.2]; exact h.gr
  · rw [hl.1, hg.1]; exact h.sep
  · rw [hl.2]; exact h.ll
  · rw [hg.2]; exact h.gl

def Wk.apart (m : Wk) (x : Ce) : Prop := ∀ g ∈ m.fp, g ∉ x.fp

/-! ### a writer's moves -/
set_option maxRecDepth 100000 in
theorem kdone (m : Wk) (x : Ce) (w : World) (h : WkAt w m) (hd : m.done = true) :
    Calls Try.prog 23 #[.pointer (some ⟨m.p, 0, none⟩), .pointer (some ⟨x.p, 0, none⟩)] w fun e w' => e = .returned (.int .i64 2) ∧ w = w' := by
  have hc := h.blk.cell
  rw [hd] at hc
  go_enter Try.func23, Try.ntmps23
  go_wp2_with fail
  go_ret
  exact ⟨rfl, rfl⟩

set_option maxRecDepth 100000 in
theorem kbusy (m : Wk) (x : Ce) (w : World) (h : WkAt w m) (hx : CeAt w x) (hd : m.done = false) (hr : m.reads = false) (hm : m.moves = 0) (hh : x.h = true) :
    Calls Try.prog 23 #[.pointer (some ⟨m.p, 0, none⟩), .pointer (some ⟨x.p, 0, none⟩)] w fun e w' => e = .returned (.int .i64 3) ∧ w = w' := by
  have hc := h.blk.cell
  have hcx := hx.blk.cell
  rw [hd, hr, hm] at hc
  rw [hh] at hcx
  go_enter Try.func23, Try.ntmps23
  go_wp2_with fail
  go_ret
  exact ⟨rfl, rfl⟩

set_option maxRecDepth 100000 in
theorem ktake (m : Wk) (x : Ce) (w : World) (h : WkAt w m) (hx : CeAt w x) (hA : m.apart x) (hd : m.done = false) (hr : m.reads = false) (hm : m.moves = 0) (hh : x.h = false) :
    Calls Try.prog 23 #[.pointer (some ⟨m.p, 0, none⟩), .pointer (some ⟨x.p, 0, none⟩)] w fun e w' => e = .returned (.int .i64 1) ∧ WkAt w' { m with moves := 1 } ∧ CeAt w' { x with h := true } ∧ Keep [m.p, x.p] w w' := by
  have hc := h.blk.cell
  have hcx := hx.blk.cell
  have hf := h.blk.froz
  have hfx := hx.blk.froz
  have hne : m.p ≠ x.p := by have := hA m.p (by simp [Wk.fp]); simp [Ce.fp] at this; exact this.1
  have hne2 : ∀ g, m.lv.ownBlock = some g → g ≠ x.p := fun g hg => by have := hA g (by simp [Wk.fp, hg]); simp [Ce.fp] at this; exact this.1
  have hne3 : ∀ g, x.v.ownBlock = some g → g ≠ m.p := fun g hg => by rintro rfl; exact hA m.p (by simp [Wk.fp]) (by simp [Ce.fp, hg])
  have hd0 := hd
  rw [hd, hr, hm] at hc
  rw [hh] at hcx
  go_enter Try.func23, Try.ntmps23
  go_wp2_with fail
  go_ret
  have k1 : Keep [x.p] w (w.setCell ⟨x.p, 0, none⟩ (.bool true)) := (Keep.refl _ _).set (by simp) _ _
  have h1 := h.keep k1 (fun g hg hm => hA g hg (by simp at hm; simp [Ce.fp, hm]))
  have k2 : Keep [m.p] (w.setCell ⟨x.p, 0, none⟩ (.bool true)) ((w.setCell ⟨x.p, 0, none⟩ (.bool true)).setCell ⟨m.p, 4, none⟩ (.int .i64 1)) := (Keep.refl _ _).set (by simp) _ _
  refine ⟨rfl, h1.turn k2 (by simpa using h1.blk.set 4 (.int .i64 1)) rfl ⟨rfl, rfl⟩ ⟨rfl, rfl⟩ rfl (by simp), ?_, (k1.mono (S' := [m.p, x.p]) (by simp)).trans k2 (by simp)⟩
  refine ⟨?_, ?_, hx.lr, hx.c0, hx.c1, hx.ll⟩
  · simpa using (hx.blk.set 0 (.bool true)).far (g := m.p) hne.symm 4 (.int .i64 1)
  · refine (hx.row.keepB k1 (fun g hg => ?_)).keepB k2 (fun g hg => by simpa using hne3 g hg)
    have := own_ne hx.blk hx.row (by decide) hg
    simpa using this.symm

set_option maxRecDepth 100000 in
set_option maxHeartbeats 1000000 in
theorem kread (m : Wk) (x : Ce) (w : World) (h : WkAt w m) (hx : CeAt w x) (hA : m.apart x) (hd : m.done = false) (hr : m.reads = false) (ha : m.adds = true) (hm : m.moves = 1) (hl : 1 ≤ x.l.length) :
    Calls Try.prog 23 #[.pointer (some ⟨m.p, 0, none⟩), .pointer (some ⟨x.p, 0, none⟩)] w fun e w' => e = .returned (.int .i64 1) ∧ ∃ v', WkAt w' { m with l := [IntKind.u64.wrap (x.l.getD 0 0 + m.n)], moves := 2, lv := v' } ∧ (∀ g, v'.ownBlock = some g → w.heap.size ≤ g) ∧ Keep [m.p] w w' := by
  have hc := h.blk.cell
  have hcx := hx.blk.cell
  have hf := h.blk.froz
  obtain ⟨g, cap, hv, hcap, hg, hcl, hfl, hset⟩ := hx.row.at_ (j := 0) (by omega)
  rw [hd, hr, hm, ha] at hc
  rw [hv] at hcx
  generalize x.l.getD 0 0 = u at *
  clear hset
  have hal : ∀ obj o, (w.alloc obj).drew.cell? ⟨m.p, o, none⟩ = _ := fun obj => (h.blk.alloc obj).cell
  have hfl2 : ∀ obj o, (w.alloc obj).drew.frozen? ⟨m.p, o, none⟩ = false := fun obj => (h.blk.alloc obj).froz
  have hal0 : ∀ obj o, (w.alloc obj).cell? ⟨m.p, o, none⟩ = _ := fun obj => (h.blk.alloc obj).cell
  have hfl0 : ∀ obj o, (w.alloc obj).frozen? ⟨m.p, o, none⟩ = false := fun obj => (h.blk.alloc obj).froz
  rw [hd, hr, hm, ha] at hal hal0
  have hlen : decide ((0 : Int) < (x.l.length : Int)) = true := by simp; omega
  have hlen2 : 0 < x.l.length := by omega
  go_enter Try.func23, Try.ntmps23
  go_wp2_with fail
  go_region
  all_goals
    go_wp2_with fail
    go_ret
    clear hal hal0 hfl2 hfl0
    have ka : Keep [] w (w.alloc (.cells #[.int .u64 (IntKind.u64.wrap (u + m.n))] 22 (0, 0))) := (Keep.refl _ _).alloc _
    have hn := Blk.new w 22 #[.int .u64 (IntKind.u64.wrap (u + m.n))]
    have ha1 := h.keep ka (by simp)
    generalize hW : w.alloc (.cells #[.int .u64 (IntKind.u64.wrap (u + m.n))] 22 (0, 0)) = W at ka hn ha1
    have hpl := h.blk.lt
    have hU := wrap_U64 (u + m.n)
    have k2 : Keep [m.p] W ((W.setCell ⟨m.p, 3, none⟩ (.slice (some ⟨w.heap.size, 0, none⟩) 1 1)).setCell ⟨m.p, 4, none⟩ (.int .i64 2)) := ((Keep.refl _ _).set (by simp) _ _).set (by simp) _ _
    have hn2 := hn.keep k2 (by simp; omega)
    subst hW
    refine ⟨rfl, .slice (some ⟨w.heap.size, 0, none⟩) 1 1, ⟨?_, ?_, ?_, ?_, h.gr, h.nr, ?_, by simp, by simp, h.gl⟩, ?_, ?_⟩
    · have := (ha1.blk.set 3 (.slice (some ⟨w.heap.size, 0, none⟩) 1 1)).set 4 (.int .i64 2)
      simp only [List.setIfInBounds_toArray, List.set_cons_succ, List.set_cons_zero] at this
      exact this
    · exact Own.new (xs := [IntKind.u64.wrap (u + m.n)]) (base := 0) hn2 (Nat.zero_le _) (by simp)
    · exact ha1.grow.keepB k2.drew (fun g hg => by have := own_ne ha1.blk ha1.grow (by decide) hg; simpa using this.symm)
    · intro y hy
      simp at hy
      subst hy
      exact hU
    · intro g hg hg2
      simp [Value.ownBlock] at hg
      subst hg
      exact Nat.lt_irrefl _ (h.grow.lt hg2).2
    · intro g hg
      simp [Value.ownBlock] at hg
      omega
    · exact (ka.mono (S' := [m.p]) (by simp)).trans k2.drew (by simp)

set_option maxRecDepth 100000 in
set_option maxHeartbeats 1000000 in
theorem kwrite (m : Wk) (x : Ce) (at_ : Nat) (w : World) (h : WkAt w m) (hx : CeAt w x) (hA : m.apart x) (hd : m.done = false) (hr : m.reads = false) (hm : m.moves = at_ + (if m.adds then 2 else 1)) (hl : at_ < m.l.length) (hl2 : at_ < x.l.length) :
    Calls Try.prog 23 #[.pointer (some ⟨m.p, 0, none⟩), .pointer (some ⟨x.p, 0, none⟩)] w fun e w' => e = .returned (.int .i64 1) ∧ WkAt w' { m with moves := m.moves + 1 } ∧ CeAt w' { x with l := x.l.set at_ (m.l.getD at_ 0) } ∧ Keep (m.p :: x.fp) w w' := by
  have hc := h.blk.cell
  have hcx := hx.blk.cell
  have hf := h.blk.froz
  have hml := h.ml
  obtain ⟨g, cap, hv, hcap, hg, hcl, hfl, hset⟩ := hx.row.at_ hl2
  obtain ⟨g', cap', hv', hcap', hg', hcl', hfl', hset'⟩ := h.lrow.at_ hl
  rw [hd, hr, hv'] at hc
  rw [hv] at hcx
  have hset := Hid.mk hset
  clear hset'
  have hu : U64 (m.l.getD at_ 0) := h.lr _ (getD_mem hl)
  have hgm : g ≠ m.p := by rintro rfl; exact hA m.p (by simp [Wk.fp]) (by simp [Ce.fp, hg])
  have hgm2 : m.p ≠ g := hgm.symm
  have hal : ∀ i z o, (w.setCell ⟨g, i, none⟩ z).cell? ⟨m.p, o, none⟩ = _ := fun i z => (h.blk.far hgm2 i z).cell
  have hfl2 : ∀ i z o, (w.setCell ⟨g, i, none⟩ z).frozen? ⟨m.p, o, none⟩ = false := fun i z => (h.blk.far hgm2 i z).froz
  rw [hd, hr, hv'] at hal
  generalize m.l.getD at_ 0 = u at *
  generalize x.l.getD at_ 0 = y at *
  cases ha : m.adds
  all_goals
    rw [ha] at hc hm hal
    simp only [if_true, if_false, Bool.false_eq_true] at hm
    rw [hm] at hc hal
    go_enter Try.func23, Try.ntmps23
    go_wp2_with fail
    go_region
  all_goals
    go_wp2_with fail
    go_ret
    clear hal hfl2
    have kg : Keep [g] w (w.setCell ⟨g, at_, none⟩ (.int .u64 u)) := (Keep.refl _ _).set (by simp) _ _
    have hxr := hset.out u
    have hxp : x.p ≠ g := own_ne hx.blk hx.row (by decide) hg
    have hb2 := h.keep kg (fun b hb hm => by simp at hm; subst hm; exact hA b hb (by simp [Ce.fp, hg]))
    have k2 : ∀ z, Keep [m.p] (w.setCell ⟨g, at_, none⟩ (.int .u64 u)) ((w.setCell ⟨g, at_, none⟩ (.int .u64 u)).setCell ⟨m.p, 4, none⟩ z) := fun z => (Keep.refl _ _).set (by simp) _ _
    have hne : m.p ≠ x.p := by have := hA m.p (by simp [Wk.fp]); simp [Ce.fp] at this; exact this.1
    have hbx := (hx.blk.far hxp at_ (.int .u64 u))
    refine ⟨rfl, hb2.turn (k2 _).drew ?_ rfl ⟨rfl, rfl⟩ ⟨rfl, rfl⟩ rfl (by have := h.ll; simp; omega), ⟨?_, ?_, ?_, hx.c0, hx.c1, by simpa using hx.ll⟩, ((kg.mono (S' := m.p :: x.fp) (by simp [Ce.fp, hg])).trans (k2 _).drew (by simp))⟩
    · have := (hb2.blk.set 4 (.int .i64 ((m.moves + 1 : Nat) : Int))).drew
      simp only [List.setIfInBounds_toArray, List.set_cons_succ, List.set_cons_zero] at this
      first | (rw [show ((m.moves + 1 : Nat) : Int) = (at_ : Int) + 1 + 1 by omega] at this ⊢; simpa [ha, hr, hd] using this) | (rw [show ((m.moves + 1 : Nat) : Int) = (at_ : Int) + 2 + 1 by omega] at this ⊢; simpa [ha, hr, hd] using this)
    · exact hbx.far (g := m.p) hne.symm 4 _
    · exact hxr.keepB (k2 _).drew (fun b hb => by rw [hg] at hb; injection hb with hb; subst hb; simpa using hgm)
    · intro q hq
      rcases List.mem_or_eq_of_mem_set hq with h1 | rfl
      · exact hx.lr q h1
      · exact hu

set_option maxRecDepth 100000 in
theorem kend (m : Wk) (x : Ce) (w : World) (h : WkAt w m) (hx : CeAt w x) (hA : m.apart x) (hd : m.done = false) (hr : m.reads = false) (hm : m.moves = m.l.length + (if m.adds then 2 else 1)) :
    Calls Try.prog 23 #[.pointer (some ⟨m.p, 0, none⟩), .pointer (some ⟨x.p, 0, none⟩)] w fun e w' => e = .returned (.int .i64 2) ∧ WkAt w' { m with done := true } ∧ CeAt w' { x with h := false, c := (x.c + 1) % 4294967296 } ∧ Keep [m.p, x.p] w w' := by
  have hc := h.blk.cell
  have hcx := hx.blk.cell
  have hf := h.blk.froz
  have hfx := hx.blk.froz
  have hml := h.ml
  have c0 := hx.c0
  have c1 := hx.c1
  have hne : m.p ≠ x.p := by have := hA m.p (by simp [Wk.fp]); simp [Ce.fp] at this; exact this.1
  have hne3 : ∀ g, x.v.ownBlock = some g → g ≠ m.p := fun g hg => by rintro rfl; exact hA m.p (by simp [Wk.fp]) (by simp [Ce.fp, hg])
  obtain ⟨A, cap, hv, hlc, hC, hb⟩ := h.lrow.reads
  rw [hd, hr, hv] at hc
  have HQ := Hid.mk hv
  clear hv
  cases ha : m.adds
  all_goals
    rw [ha] at hc hm
    simp only [if_true, if_false, Bool.false_eq_true] at hm
    rw [hm] at hc
    go_enter Try.func23, Try.ntmps23
    go_wp2_with fail
    go_ret
    have k1 : Keep [x.p] w ((w.setCell ⟨x.p, 0, none⟩ (.bool false)).setCell ⟨x.p, 1, none⟩ (.int .u64 ((x.c + 1) % 4294967296))) := ((Keep.refl _ _).set (by simp) _ _).set (by simp) _ _
    have h1 := h.keep k1 (fun g hg hm => hA g hg (by simp at hm; simp [Ce.fp, hm]))
    have k2 : Keep [m.p] ((w.setCell ⟨x.p, 0, none⟩ (.bool false)).setCell ⟨x.p, 1, none⟩ (.int .u64 ((x.c + 1) % 4294967296))) (((w.setCell ⟨x.p, 0, none⟩ (.bool false)).setCell ⟨x.p, 1, none⟩ (.int .u64 ((x.c + 1) % 4294967296))).setCell ⟨m.p, 5, none⟩ (.bool true)) := (Keep.refl _ _).set (by simp) _ _
    refine ⟨rfl, h1.turn k2 (by simpa [ha] using h1.blk.set 5 (.bool true)) rfl ⟨rfl, rfl⟩ ⟨rfl, rfl⟩ rfl h.ml, ⟨?_, ?_, hx.lr, by simp; omega, by simp; omega, hx.ll⟩, (k1.mono (S' := [m.p, x.p]) (by simp)).trans k2 (by simp)⟩
    · simpa using ((hx.blk.set 0 (.bool false)).set 1 (.int .u64 ((x.c + 1) % 4294967296))).far (g := m.p) hne.symm 5 (.bool true)
    · refine (hx.row.keepB k1 (fun g hg => ?_)).keepB k2 (fun g hg => by simpa using hne3 g hg)
      have := own_ne hx.blk hx.row (by decide) hg
      simpa using this.symm
end Go.Proofs.Ytlgebknbfchnlaa
