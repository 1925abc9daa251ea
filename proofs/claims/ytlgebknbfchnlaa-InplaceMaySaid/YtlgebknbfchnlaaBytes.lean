/- Contract of field.Bytes, where the words are as many as the bytes want and nothing stands behind them. -/
import Derived.Test.YtlgebknbfchnlaaField
namespace Go.Proofs.Ytlgebknbfchnlaa
open Go Go.RowKit Go.Hay Go.Proofs.YtlgebknbfchnlaaW.PrintWords

/-- Byte i of words. -/
def byteAt (l : List Int) (i : Nat) : Int := l.getD (i / 8) 0 / 2 ^ (i % 8 * 8) % 256
def bytesL (l : List Int) (n : Nat) : List Int := (List.range n).map (byteAt l)
theorem bytesL_length (l : List Int) (n : Nat) : (bytesL l n).length = n := by simp [bytesL]
theorem bytesL_get (l : List Int) (n i : Nat) (h : i < n) : (bytesL l n)[i]? = some (byteAt l i) := by simp [bytesL, h]
theorem bytesL_succ (l : List Int) (k : Nat) : bytesL l (k + 1) = bytesL l k ++ [byteAt l k] := by simp [bytesL, List.range_succ]

theorem info_u8 : (Try.prog.info? 5).map (fun i => (i.zero, i.size, i.bytes)) = some (some (.int .u8 0), 1, 1) := by kernel_rfl
theorem make_u8 (w : World) (n : Nat) (hn : n ≤ 1000000) : (Instr.makeSlice 41 (.int .i64 n) (.int .i64 n)).run Try.prog w = .ok (.slice (some ⟨w.heap.size, 0, none⟩) n n) (w.alloc (.cells ((List.replicate n (0 : Int)).map (Value.int .u8)).toArray 5)) := by
  obtain ⟨ii, hi, hz0, hz1, hz2⟩ := info_parts info_u8
  have hmk := run_make (P := Try.prog) w 41 5 ii (.int .u8 0) Try.underlying41 hi hz0 .i64 .i64 n n (by omega) (by omega) (by rw [hz2]; omega) (by omega)
  rw [show (Value.int .u8 0).cells = #[.int .u8 0] from rfl, hz1, made_rep] at hmk
  simp only [Int.toNat_natCast, Nat.mul_one] at hmk
  rw [hmk]; simp

theorem byte_step (l : List Int) (m k : Nat) (hk : k < m) :
    ((bytesL l k ++ List.replicate (m - k) 0).map (Value.int .u8)).toArray.setIfInBounds k (.int .u8 (byteAt l k)) = ((bytesL l (k + 1) ++ List.replicate (m - (k + 1)) 0).map (Value.int .u8)).toArray := by
  rw [List.setIfInBounds_toArray]
  congr 1
  rw [← List.map_set (f := Value.int .u8)]
  congr 1
  rw [bytesL_succ, List.set_append_right _ _ (by rw [bytesL_length]; omega), bytesL_length, Nat.sub_self, show m - k = (m - (k + 1)) + 1 by omega, List.replicate_succ]
  simp

set_option maxRecDepth 100000 in
set_option maxHeartbeats 800000 in
theorem fbytes_ok (A : Option Addr) (c n : Nat) (l : List Int) (w : World) (hl : (Kd.int .u64).C w A l.length l) (hn : l.length = (n + 7) / 8) (hs : l.length ≤ 10000) (hz : ∀ i, n ≤ i → i < 8 * l.length → byteAt l i = 0) (hR : ∀ x ∈ l, U64 x) :
    Calls Try.prog 82 #[.slice A l.length c, .int .i64 n] w fun e w' => e = .returned (.tuple #[.string (strOfNums (bytesL l n)), .int .i64 0]) ∧ Keep [] w w' := by
  have hm := make_u8 w (8 * l.length) (by omega)
  rw [show ((8 * l.length : Nat) : Int) = 8 * (l.length : Int) by omega] at hm
  have HN := Hid.mk hn
  have hn1 : n ≤ 8 * l.length := by omega
  clear hn
  go_enter Try.func82, Try.ntmps82
  go_wp2_with fail
  go_loopw [25] (fun v wr => ∃ k : Nat, k ≤ 8 * l.length ∧ v = .int .i64 k ∧ Keep [] w wr ∧ w.heap.size < wr.heap.size ∧ Blk wr w.heap.size 5 ((bytesL l k ++ List.replicate (8 * l.length - k) 0).map (Value.int .u8)).toArray) (fun v _ => 8 * l.length - (intOf v).toNat)
  case atStart => exact ⟨0, Nat.zero_le _, rfl, (Keep.refl _ _).alloc _, by simp, by simpa [bytesL] using Blk.new w _ _⟩
  case round =>
    obtain ⟨k, hk, rfl, hkeep, hsz, hb⟩ := hrel
    by_cases hlt : k < 8 * l.length
    · obtain ⟨ad, rfl, hcl⟩ := C_at (C_keep hl hkeep (by simp)) (j := k / 8) (by omega)
      have hx := hR _ (getD_mem (xs := l) (i := k / 8) (by omega))
      have hset := hb.set k (.int .u8 (byteAt l k))
      have hbc : wr.cell? ⟨w.heap.size, k, none⟩ = some (.int .u8 0) := by
        rw [hb.cell]; simp only [List.getElem?_toArray, List.getElem?_map, List.getElem?_append, bytesL_length]; rw [if_neg (by omega)]; simp [List.getElem?_replicate]; omega
      have hbf := hb.froz k
      have HB : Hid (l.getD (k / 8) 0 / 2 ^ (k % 8 * 8) % 256 = byteAt l k) := rfl
      have HS := byte_step l (8 * l.length) k hlt
      rw [HS] at hset
      clear HS
      generalize byteAt l k = y at *
      generalize l.getD (k / 8) 0 = x at *
      go_wp2_with fail
      refine ⟨⟨k + 1, by omega, by go_num, hkeep.set (.inr (Nat.le_refl _)) _ _, by simpa using hsz, ?_⟩, by simp [intOf]; omega⟩
      rw [HB.out]
      exact hset
    · have hfin : ∀ wr : World, Blk wr w.heap.size 5 ((bytesL l (8 * l.length)).map (Value.int .u8)).toArray → (convert 41 9 (.slice (some ⟨w.heap.size, 0, none⟩) n (8 * l.length))).run Try.prog wr = .ok (.string (strOfNums (bytesL l n))) wr := by
        intro wr hb
        have h1 : (Kd.int .u8).C wr (some ⟨w.heap.size, 0, none⟩) (8 * l.length) (bytesL l (8 * l.length)) := by
          have := C_of_blk hb (by rw [bytesL_length]; omega)
          rwa [bytesL_length] at this
        have h2 := Kd.C_take (k := Kd.int .u8) (xs := bytesL l (8 * l.length)) (m := n) (by rw [bytesL_length]; exact h1) (by rw [bytesL_length]; exact hn1)
        have h3 : (bytesL l (8 * l.length)).take n = bytesL l n := by
          unfold bytesL; rw [← List.map_take, List.take_range, Nat.min_eq_left hn1]
        rw [h3, bytesL_length] at h2
        exact Kd.C_string Try.underlying41 Try.underlying5 Try.underlying9 h2
      obtain rfl : k = 8 * l.length := by omega
      have hb2 : Blk wr w.heap.size 5 ((bytesL l (8 * l.length)).map (Value.int .u8)).toArray := by simpa using hb
      have hcv := hfin wr hb2
      clear hfin hm
      have hq : ((n : Int) + 8 - 1) / 8 = (l.length : Int) := by have := HN.out; omega
      have hqb : ((l.length : Int) != ((n : Int) + 8 - 1) / 8) = false := by rw [hq]; simp
      clear hq
      by_cases hc : n = 8 * l.length
      · subst hc
        go_wp2_with fail
        refine wp_loop_rounds 1 ?_
        rw [rounds_succ]
        go_wp2_with fail
        go_ret2
        exact ⟨rfl, hkeep⟩
      · have hlt2 : n < 8 * l.length := by omega
        have hcc := hb2.cell
        go_wp2_with fail
        go_loop [53] (fun v => ∃ j : Nat, j ≤ 8 * l.length - n ∧ v = .int .i64 j) (fun v => (8 * l.length - n) - (intOf v).toNat)
        case atStart => exact ⟨0, Nat.zero_le _, rfl⟩
        case round =>
          obtain ⟨j, hj, rfl⟩ := hrel
          by_cases hjl : j < 8 * l.length - n
          · have hv := bytesL_get l (8 * l.length) (n + j) (by omega)
            rw [hz (n + j) (by omega) (by omega)] at hv
            have hvc : wr.cell? ⟨w.heap.size, n + j, none⟩ = some (.int .u8 0) := by rw [hcc]; simp [hv]
            clear hcc hv hz
            go_wp2_with fail
            go_round
            case rel => exact ⟨j + 1, by omega, by go_num⟩
            case measure => simp [intOf]; omega
          · go_wp2_with fail
            go_ret2
            exact ⟨rfl, hkeep⟩
end Go.Proofs.Ytlgebknbfchnlaa
