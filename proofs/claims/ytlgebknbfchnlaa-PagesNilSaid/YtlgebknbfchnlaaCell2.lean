/- Contracts of package cell, part 2: runs of cells, and a new row. -/
import Derived.Test.YtlgebknbfchnlaaCell
import Derived.Test.YtlgebknbfchnlaaWWords
namespace Go.Proofs.Ytlgebknbfchnlaa
open Go Go.RowKit Go.Hay Go.Proofs.YtlgebknbfchnlaaW.PrintWords

theorem made_rep (z : Value) (n : Nat) : madeCells #[z] n = (List.replicate n z).toArray := by
  rw [← toList_madeCells_one]

theorem add_block (ad : Addr) (j : Nat) : (ad.add j).block = ad.block := by unfold Addr.add; split <;> rfl

/-- A slice of whole numbers that is read out of a block. -/
theorem C_of_blk {w : World} {g T : Nat} {kd : IntKind} {xs : List Int} (h : Blk w g T (xs.map (Value.int kd)).toArray) (hn : xs.length ≤ 9223372036854775807) : (Kd.int kd).C w (some ⟨g, 0, none⟩) xs.length xs := by
  refine ⟨rfl, hn, fun _ => ⟨_, rfl, fun j p hj => ⟨[.int kd p], rfl, rfl, fun i u hu => ?_⟩⟩⟩
  have hi : i = 0 := by
    rcases i with _ | i
    · rfl
    · simp at hu
  subst hi
  simp at hu
  subst hu
  rw [show j * (Kd.int kd).sz + 0 = j from by show j * 1 + 0 = j; omega, add_plain, h.cell]
  simp [hj]

/-- A read slice in a later world. -/
theorem C_keep {S : List Nat} {w w' : World} {kd : IntKind} {A : Option Addr} {n : Nat} {xs : List Int} (h : (Kd.int kd).C w A n xs) (k : Keep S w w') (hA : ∀ ad, A = some ad → ad.block ∉ S) : (Kd.int kd).C w' A n xs := by
  refine ⟨h.1, h.2.1, fun hn => ?_⟩
  obtain ⟨ad, rfl, hc⟩ := h.2.2 hn
  refine ⟨ad, rfl, fun j p hj => ?_⟩
  obtain ⟨c, c1, c2, c3⟩ := hc j p hj
  refine ⟨c, c1, c2, fun i u hu => ?_⟩
  have h1 := c3 i u hu
  have hlt := World.block_lt_of_cell? _ _ h1
  rw [← h1]
  refine World.cell?_of_block (k.block _ hlt ?_)
  rw [add_block]
  exact hA ad rfl

theorem C_at {w : World} {kd : IntKind} {A : Option Addr} {n : Nat} {xs : List Int} (h : (Kd.int kd).C w A n xs) {j : Nat} (hj : j < n) : ∃ ad, A = some ad ∧ w.cell? (ad.add j) = some (.int kd (xs.getD j 0)) := by
  obtain ⟨ad, h1, h2⟩ := Kd.at_int h (j : Int) (by omega) (by omega)
  exact ⟨ad, h1, by simpa [rd] using h2⟩

set_option maxRecDepth 100000 in
theorem row_within (r c : Nat) (xs : List Int) (i n : Int) (w : World) (h : RowAt w r c xs) (h0 : 0 ≤ i) (h1 : 0 ≤ n) (h2 : i + n ≤ xs.length) :
    Calls Try.prog 99 #[.pointer (some ⟨r, 0, none⟩), .int .i64 i, .int .i64 n] w fun e w' => e = .returned (.int .i64 0) ∧ w = w' := by
  have hs := h.size
  go_enter Try.func99, Try.ntmps99
  go_wp2_with (first | (go_at_call 76; refine (row_len _ c xs _ h).mono ?_; rintro e w' ⟨rfl, rfl⟩))
  go_ret
  exact ⟨rfl, rfl⟩

theorem info_u64 : (Try.prog.info? 22).map (fun i => (i.zero, i.size, i.bytes)) = some (some (.int .u64 0), 1, 8) := by kernel_rfl
theorem info_au64 : (Try.prog.info? 145).map (fun i => (i.zero, i.size, i.bytes)) = some (some (.agg #[.int .u64 0]), 1, 8) := by kernel_rfl

/-- make([]uint64, n) as the walk meets it. -/
theorem make_u64 (w : World) (n : Nat) (hn : n ≤ 70000) : (Instr.makeSlice 40 (.int .i64 n) (.int .i64 n)).run Try.prog w = .ok (.slice (some ⟨w.heap.size, 0, none⟩) n n) (w.alloc (.cells ((List.replicate n (0 : Int)).map (Value.int .u64)).toArray 22)) := by
  obtain ⟨ii, hi, hz0, hz1, hz2⟩ := info_parts info_u64
  have hmk := run_make (P := Try.prog) w 40 22 ii (.int .u64 0) Try.underlying40 hi hz0 .i64 .i64 n n (by omega) (by omega) (by rw [hz2]; omega) (by omega)
  rw [show (Value.int .u64 0).cells = #[.int .u64 0] from rfl, hz1, made_rep] at hmk
  simp only [Int.toNat_natCast, Nat.mul_one] at hmk
  rw [hmk]; simp

theorem make_au64 (w : World) (n : Nat) (hn : n ≤ 70000) : (Instr.makeSlice 130 (.int .i64 n) (.int .i64 n)).run Try.prog w = .ok (.slice (some ⟨w.heap.size, 0, none⟩) n n) (w.alloc (.cells ((List.replicate n (0 : Int)).map (Value.int .u64)).toArray 145)) := by
  obtain ⟨ii, hi, hz0, hz1, hz2⟩ := info_parts info_au64
  have hmk := run_make (P := Try.prog) w 130 145 ii (.agg #[.int .u64 0]) Try.underlying130 hi hz0 .i64 .i64 n n (by omega) (by omega) (by rw [hz2]; omega) (by omega)
  rw [show (Value.agg #[.int .u64 0]).cells = #[.int .u64 0] from rfl, hz1, made_rep] at hmk
  simp only [Int.toNat_natCast, Nat.mul_one] at hmk
  rw [hmk]; simp

theorem fill_step (xs : List Int) (i n k : Nat) (x : Int) (hx : xs[i + k]? = some x) (hk : k < n) :
    ((((xs.drop i).take k) ++ List.replicate (n - k) 0).map (Value.int .u64)).toArray.setIfInBounds k (.int .u64 x) = ((((xs.drop i).take (k + 1)) ++ List.replicate (n - (k + 1)) 0).map (Value.int .u64)).toArray := by
  have hl : i + k < xs.length := (List.getElem?_eq_some_iff.1 hx).1
  have hx' : (xs.drop i)[k]? = some x := by rw [List.getElem?_drop]; exact hx
  rw [List.setIfInBounds_toArray]
  congr 1
  rw [← List.map_set (f := Value.int .u64)]
  congr 1
  rw [List.take_add_one, hx', List.set_append_right _ _ (by simp; omega)]
  have e1 : k - ((xs.drop i).take k).length = 0 := by simp; omega
  have e2 : n - k = (n - (k + 1)) + 1 := by omega
  rw [e1, e2, List.replicate_succ]
  simp

set_option maxRecDepth 100000 in
set_option maxHeartbeats 400000 in
theorem row_words (r c : Nat) (xs : List Int) (i n : Nat) (w : World) (h : RowAt w r c xs) (h2 : i + n ≤ xs.length) :
    Calls Try.prog 75 #[.pointer (some ⟨r, 0, none⟩), .int .i64 i, .int .i64 n] w fun e w' =>
      ∃ g, e = .returned (.tuple #[.slice (some ⟨g, 0, none⟩) n n, .int .i64 0]) ∧ w.heap.size ≤ g ∧ Blk w' g 22 (((xs.drop i).take n).map (Value.int .u64)).toArray ∧ Keep [] w w' := by
  have hs := h.size
  have hmk := make_u64 w n (by omega)
  go_enter Try.func75, Try.ntmps75
  go_wp2_with (first | (go_at_call 99; refine (row_within _ c xs _ _ _ h (by omega) (by omega) (by omega)).mono ?_; rintro e w' ⟨rfl, rfl⟩))
  go_loopw [22] (fun v wr => ∃ k : Nat, k ≤ n ∧ v = .int .i64 k ∧ Keep [] w wr ∧ w.heap.size < wr.heap.size ∧ Blk wr w.heap.size 22 ((((xs.drop i).take k) ++ List.replicate (n - k) 0).map (Value.int .u64)).toArray) (fun v _ => n - (intOf v).toNat)
  case atStart => exact ⟨0, Nat.zero_le _, rfl, (Keep.refl _ _).alloc _, by simp, by simpa using Blk.new w _ _⟩
  case round =>
    obtain ⟨k, hk, rfl, hkeep, hsz, hb⟩ := hrel
    have hr := h.keep hkeep (by simp) (by simp)
    obtain ⟨won, lost, hrow⟩ := hr.row
    have hc1 := hrow.cell
    by_cases hlt : k < n
    · have hx := hr.cell (i := i + k) (by omega)
      have hgx : xs[i + k]? = some (xs.getD (i + k) 0) := getD_get (by omega)
      have hset := hb.set k (.int .u64 (xs.getD (i + k) 0))
      have hbc : wr.cell? ⟨w.heap.size, k, none⟩ = some (.int .u64 0) := by
        rw [hb.cell]; simp only [List.getElem?_toArray, List.getElem?_map, List.getElem?_append, List.length_take, List.length_drop]; rw [if_neg (by omega)]; simp [List.getElem?_replicate]; omega
      have hbf := hb.froz k
      have HX := Hid.mk hgx
      clear hgx
      generalize xs.getD (i + k) 0 = x at hx HX hset
      go_wp2_with (first | (go_at_call 90; refine (uload _ x _ ?_).mono ?_; rotate_left; rintro e w' ⟨rfl, rfl⟩))
      · refine ⟨⟨k + 1, by omega, by go_num, hkeep.set (.inr (Nat.le_refl _)) _ _, by simpa using hsz, ?_⟩, by simp [intOf]; omega⟩
        rw [← fill_step xs i n k x HX.out hlt]; exact hset
      · first | exact hx | (simp only [show ((i : Int) + (k : Int)).toNat = i + k from by omega]; exact hx)
    · go_wp2_with fail
      go_ret2
      obtain rfl : k = n := by omega
      exact ⟨_, rfl, Nat.le_refl _, by simpa using hb, hkeep⟩

/-- l in the place of what was there from i on. -/
def putAt (xs : List Int) (i : Nat) (l : List Int) : List Int := xs.take i ++ l ++ xs.drop (i + l.length)
theorem putAt_length (xs : List Int) (i : Nat) (l : List Int) (h : i + l.length ≤ xs.length) : (putAt xs i l).length = xs.length := by
  simp [putAt]; omega
theorem putAt_step (xs : List Int) (i k : Nat) (l : List Int) (hk : k < l.length) (h : i + l.length ≤ xs.length) : (putAt xs i (l.take k)).set (i + k) (l.getD k 0) = putAt xs i (l.take (k + 1)) := by
  have e : l.take (k + 1) = l.take k ++ [l.getD k 0] := by rw [List.take_add_one, getD_get hk]; rfl
  unfold putAt
  rw [e]
  have hl : (xs.take i ++ l.take k).length = i + k := by simp; omega
  rw [List.set_append_right _ _ (by omega), hl, Nat.sub_self]
  have hd : xs.drop (i + (l.take k).length) = xs.getD (i + k) 0 :: xs.drop (i + (l.take k ++ [l.getD k 0]).length) := by
    have hl2 : (l.take k).length = k := by simp; omega
    rw [List.length_append, hl2]
    have := List.drop_eq_getElem_cons (l := xs) (i := i + k) (by omega)
    rw [this, List.getD_eq_getElem?_getD, List.getElem?_eq_getElem (show i + k < xs.length by omega)]; rfl
  rw [hd]; simp

set_option maxRecDepth 100000 in
set_option maxHeartbeats 400000 in
theorem row_fill (r c : Nat) (xs : List Int) (i : Nat) (A : Option Addr) (n cap : Nat) (l : List Int) (w : World) (h : RowAt w r c xs) (hl : (Kd.int .u64).C w A n l) (hA : ∀ ad, A = some ad → ad.block ≠ c) (h2 : i + n ≤ xs.length) (hR : ∀ x ∈ l, U64 x) :
    Calls Try.prog 73 #[.pointer (some ⟨r, 0, none⟩), .int .i64 i, .slice A n cap] w fun e w' =>
      e = .returned (.int .i64 0) ∧ RowAt w' r c (putAt xs i l) ∧ Keep [c] w w' := by
  have hs := h.size
  have hnl : l.length = n := hl.1
  have HN := Hid.mk hnl
  clear hnl
  go_enter Try.func73, Try.ntmps73
  go_wp2_with (first | (go_at_call 99; refine (row_within _ c xs _ _ _ h (by omega) (by omega) (by omega)).mono ?_; rintro e w' ⟨rfl, rfl⟩))
  go_loopw [20] (fun v wr => ∃ k : Nat, k ≤ n ∧ v = .int .i64 k ∧ Keep [c] w wr ∧ RowAt wr r c (putAt xs i (l.take k))) (fun v _ => n - (intOf v).toNat)
  case atStart => exact ⟨0, Nat.zero_le _, rfl, Keep.refl _ _, by simpa [putAt] using h⟩
  case round =>
    obtain ⟨k, hk, rfl, hkeep, hr⟩ := hrel
    obtain ⟨won, lost, hrow⟩ := hr.row
    have hpl : (putAt xs i (l.take k)).length = xs.length := putAt_length _ _ _ (by have := HN.out; simp; omega)
    rw [hpl] at hrow
    have hc1 := hrow.cell
    by_cases hlt : k < n
    · obtain ⟨ad, rfl, hcl⟩ := C_at (C_keep hl hkeep (by intro ad hh; simpa using hA ad hh)) hlt
      have hmem : l.getD k 0 ∈ l := getD_mem (by have := HN.out; omega)
      have hset := hr.set (i + k) (hR _ hmem)
      rw [putAt_step xs i k l (by have := HN.out; omega) (by have := HN.out; omega)] at hset
      have hcu := hr.cell (i := i + k) (by omega)
      have hcf := hr.cells.froz (i + k)
      clear hmem hpl
      generalize (putAt xs i (l.take k)).getD (i + k) 0 = u at hcu
      generalize l.getD k 0 = x at hcl hset
      go_wp2_with (first | (go_at_call 100; refine (ustore _ x (.int .u64 u) _ ?_ ?_).mono ?_; rotate_left; rotate_left; rintro e w' ⟨rfl, rfl⟩))
      · go_roundw
        case rel => exact ⟨k + 1, by omega, by go_num, hkeep.set (by simp) _ _, by simpa [show ((i : Int) + (k : Int)).toNat = i + k from by omega] using hset⟩
        case measure => simp [intOf]; omega
      · first | exact hcu | (simp only [show ((i : Int) + (k : Int)).toNat = i + k from by omega]; exact hcu)
      · first | exact hcf | (simp only [show ((i : Int) + (k : Int)).toNat = i + k from by omega]; exact hcf)
    · go_wp2_with fail
      go_ret
      obtain rfl : k = n := by omega
      rw [List.take_of_length_le (by have := HN.out; omega)] at hr
      exact ⟨rfl, hr, hkeep⟩

set_option maxRecDepth 100000 in
theorem row_new (n : Nat) (w : World) (h1 : 1 ≤ n) (h2 : n ≤ 65536) :
    Calls Try.prog 46 #[.int .i64 n] w fun e w' =>
      ∃ r c, e = .returned (.tuple #[.pointer (some ⟨r, 0, none⟩), .int .i64 0]) ∧ RowAt w' r c (List.replicate n 0) ∧ w.heap.size ≤ r ∧ w.heap.size ≤ c ∧ Keep [] w w' := by
  have hmk := make_au64 w n (by omega)
  go_enter Try.func46, Try.ntmps46
  go_wp2_with fail
  go_ret2
  refine ⟨w.heap.size + 1, w.heap.size, rfl, ⟨⟨0, 0, ?_⟩, ?_, by simp; omega, ?_⟩, by omega, by omega, ((Keep.refl _ _).alloc _).alloc _⟩
  · have := Blk.new (w.alloc (Obj.cells (Array.replicate n (Value.int IntKind.u64 0)) 145)) 137 #[Value.slice (some { block := w.heap.size, off := 0 }) n n, Value.int IntKind.i64 0, Value.int IntKind.i64 0]
    simpa using this
  · have := (Blk.new w 145 (Array.replicate n (Value.int IntKind.u64 0))).alloc (Obj.cells #[Value.slice (some { block := w.heap.size, off := 0 }) n n, Value.int IntKind.i64 0, Value.int IntKind.i64 0] 137)
    simpa using this
  · intro x hx
    rw [List.eq_of_mem_replicate hx]
    unfold U64; omega

/-! the same, at whole numbers -/
theorem row_words_i (r c : Nat) (xs : List Int) (i n : Int) (w : World) (h : RowAt w r c xs) (h0 : 0 ≤ i) (h1 : 0 ≤ n) (h2 : i + n ≤ xs.length) :
    Calls Try.prog 75 #[.pointer (some ⟨r, 0, none⟩), .int .i64 i, .int .i64 n] w fun e w' =>
      ∃ g, e = .returned (.tuple #[.slice (some ⟨g, 0, none⟩) n.toNat n.toNat, .int .i64 0]) ∧ w.heap.size ≤ g ∧ Blk w' g 22 (((xs.drop i.toNat).take n.toNat).map (Value.int .u64)).toArray ∧ Keep [] w w' := by
  obtain ⟨i, rfl⟩ := Int.eq_ofNat_of_zero_le h0
  obtain ⟨n, rfl⟩ := Int.eq_ofNat_of_zero_le h1
  exact row_words r c xs i n w h (by omega)
theorem row_fill_i (r c : Nat) (xs : List Int) (i : Int) (A : Option Addr) (n cap : Nat) (l : List Int) (w : World) (h : RowAt w r c xs) (hl : (Kd.int .u64).C w A n l) (hA : ∀ ad, A = some ad → ad.block ≠ c) (h0 : 0 ≤ i) (h2 : i + n ≤ xs.length) (hR : ∀ x ∈ l, U64 x) :
    Calls Try.prog 73 #[.pointer (some ⟨r, 0, none⟩), .int .i64 i, .slice A n cap] w fun e w' =>
      e = .returned (.int .i64 0) ∧ RowAt w' r c (putAt xs i.toNat l) ∧ Keep [c] w w' := by
  obtain ⟨i, rfl⟩ := Int.eq_ofNat_of_zero_le h0
  exact row_fill r c xs i A n cap l w h hl hA (by omega) hR
theorem row_new_i (n : Int) (w : World) (h1 : 1 ≤ n) (h2 : n ≤ 65536) :
    Calls Try.prog 46 #[.int .i64 n] w fun e w' =>
      ∃ r c, e = .returned (.tuple #[.pointer (some ⟨r, 0, none⟩), .int .i64 0]) ∧ RowAt w' r c (List.replicate n.toNat 0) ∧ w.heap.size ≤ r ∧ w.heap.size ≤ c ∧ Keep [] w w' := by
  obtain ⟨n, rfl⟩ := Int.eq_ofNat_of_zero_le (show (0 : Int) ≤ n by omega)
  exact row_new n w (by omega) (by omega)
end Go.Proofs.Ytlgebknbfchnlaa
