/- Contracts of package pages: which pages are in. -/
import Derived.Test.YtlgebknbfchnlaaPages3
import Derived.Test.YtlgebknbfchnlaaShelf
import Derived.Shelf.Slices.In.SortNone
import Derived.Sort.OwnSortedInts
namespace Go.Proofs.Ytlgebknbfchnlaa
open Go Go.RowKit Go.Hay Go.Proofs.YtlgebknbfchnlaaW.PrintWords

theorem info_int : (Try.prog.info? 3).map (fun i => (i.zero, i.size, i.bytes)) = some (some (.int .i64 0), 1, 8) := by kernel_rfl

theorem sort_nil (p : Option Addr) (c : Nat) (w : World) : Calls Try.prog 69 #[.slice p 0 c] w fun e w' => e = .returned (.tuple #[]) ∧ w' = w :=
  calls_of_every_depth fun D => AnyS.slices_Sort_int_none_alone Try.lays189 D p c w

/-- A row of whole numbers of the call's own, as a slice. -/
def Own (k : IntKind) (T : Nat) (w : World) (base : Nat) (v : Value) (xs : List Int) : Prop := (Kd.int k).R T w base (fun _ => True) v xs

theorem Own.nil (k : IntKind) (T : Nat) (w : World) (base : Nat) : Own k T w base (.slice none 0 0) [] := Kd.R_nil _ _ _ _ _
theorem Own.row {k : IntKind} {T : Nat} {w : World} {base : Nat} {v : Value} {xs : List Int} (h : Own k T w base v xs) : w.ownsRow base T 1 v xs.length (xs.map (Value.int k)) := Kd.own_of_R h
theorem Own.of_row {k : IntKind} {T : Nat} {w : World} {base : Nat} {v : Value} {xs : List Int} (h : w.ownsRow base T 1 v xs.length (xs.map (Value.int k))) : Own k T w base v xs := Kd.R_of_own h (fun _ _ => trivial)
theorem Own.reads {k : IntKind} {T : Nat} {w : World} {base : Nat} {v : Value} {xs : List Int} (h : Own k T w base v xs) : ∃ A c, v = .slice A xs.length c ∧ xs.length ≤ c ∧ (Kd.int k).C w A xs.length xs ∧ ∀ ad, A = some ad → base ≤ ad.block := by
  obtain ⟨A, c, hv, hl, hc⟩ := Kd.R_reads h
  refine ⟨A, c, hv, hl, hc, fun ad hA => ?_⟩
  subst hA
  exact own_base h.row ad.block (by rw [hv]; rfl)
theorem Own.keep {k : IntKind} {T : Nat} {w w' : World} {base : Nat} {v : Value} {xs : List Int} {S : List Nat} (h : Own k T w base v xs) (kp : Keep S w w') (hS : ∀ b ∈ S, b < base) : Own k T w' base v xs := by
  refine Own.of_row (own_move h.row (fun b hb => kp.block b (own_lt h.row b hb) (fun hm => ?_)))
  have := own_base h.row b hb
  have := hS b hm
  omega
theorem Own.drewN {k : IntKind} {T : Nat} {w : World} {base : Nat} {v : Value} {xs : List Int} (h : Own k T w base v xs) (n : Nat) : Own k T (w.drewN n) base v xs := h.keep ((Keep.refl [] w).drewN n) (by simp)

/-- The library's sort, of a row of the call's own. -/
theorem sort_own (w : World) (base : Nat) (v : Value) (xs : List Int) (h : Own .i64 3 w base v xs) (hn : xs.length < 4611686018427387904) :
    Calls Try.prog 69 #[v] w fun e w' => e = .returned (.tuple #[]) ∧ Own .i64 3 w' base v (xs.mergeSort fun x y => decide (x ≤ y)) ∧ ∃ S, Keep S w w' ∧ ∀ b ∈ S, base ≤ b := by
  have hr := h.row
  rcases hr with ⟨hl, ⟨rfl, h0⟩ | ⟨g, cap, cur, rfl, hg, hh, h1, h2, h3, h4⟩⟩
  · have hx : xs = [] := List.length_eq_zero_iff.1 h0
    subst hx
    refine (sort_nil none 0 w).mono ?_
    rintro e w' ⟨rfl, rfl⟩
    exact ⟨rfl, by simpa using h, [], Keep.refl _ _, by simp⟩
  · have hlt := (Array.getElem?_eq_some_iff.1 hh).1
    refine (Try.slices_Sort_int g 0 cap xs w (holds_of_blockI hh (by simpa using h4)) hlt hn).mono ?_
    rintro e w' ⟨rfl, n, os, rfl⟩
    have hgr := grownBy_sortedI (w := w) (g := g) (n := n) (os := os) (xs.mergeSort fun x y => decide (x ≤ y)).toArray
    refine ⟨rfl, Own.of_row ?_, [g], ⟨hgr.os, hgr.tape, hgr.output, hgr.size, fun b hb hS => hgr.block b hb (by simpa using hS)⟩, by simpa using hg⟩
    have := ownsRow_sortedI (n := n) (os := os) (ss := xs) (ts := xs.mergeSort fun x y => decide (x ≤ y)) (by simp) hg hh h1 h2 h3
    rw [List.length_mergeSort]
    exact this

/-- The pages that are in, as frames have them. -/
def Buf.got (x : Buf) (k : Nat) : List Int := ((x.holder.take k).filter (fun v => decide (0 < v))).map (· - 1)
/-- The pages that are in, rising. -/
def Buf.pages (x : Buf) : List Int := (x.got x.holder.length).mergeSort fun a b => decide (a ≤ b)

theorem Buf.got_succ (x : Buf) (k : Nat) (v : Int) (h : x.holder[k]? = some v) : x.got (k + 1) = x.got k ++ (if 0 < v then [v - 1] else []) := by
  unfold Buf.got
  rw [List.take_add_one, h]
  by_cases hv : 0 < v <;> simp [hv]
theorem Buf.got_le (x : Buf) (k : Nat) : (x.got k).length ≤ k := by
  unfold Buf.got
  rw [List.length_map]
  exact Nat.le_trans (List.length_filter_le _ _) (List.length_take_le _ _)

set_option maxRecDepth 100000 in
set_option maxHeartbeats 400000 in
theorem bin_ok (x : Buf) (w : World) (h : BufAt w x) :
    Calls Try.prog 31 #[.pointer (some ⟨x.b, 0, none⟩)] w fun e w' => ∃ v, e = .returned v ∧ Own .i64 3 w' w.heap.size v x.pages ∧ Keep [] w w' := by
  have HFr := Hid.mk (bframes_ok x w h)
  unfold Buf.nf at HFr
  have hf := h.frames
  obtain ⟨hf1, hf2⟩ := hf
  go_enter Try.func31, Try.ntmps31
  go_wp2_with (first | (go_at_call 39; refine HFr.out.mono ?_; rintro e w' ⟨rfl, rfl⟩))
  go_loopw [3, 8] (fun v i wr => ∃ k : Nat, k ≤ x.holder.length ∧ i = .int .i64 k ∧ Own .i64 3 wr w.heap.size v (x.got k) ∧ Keep [] w wr) (fun _ i _ => x.holder.length - (intOf i).toNat)
  case atStart => exact ⟨0, Nat.zero_le _, rfl, Own.nil _ _ _ _, Keep.refl _ _⟩
  case round =>
    obtain ⟨k, hk, rfl, hown, hkeep⟩ := hrel
    have hW := h.keep hkeep (by simp)
    have hc := hW.buf.cell
    by_cases hlt : k < x.holder.length
    · have hgx := getD_get hlt
      have hv := h.holder.range _ (getD_mem hlt)
      have hm := h.marks k hlt
      have HL := Hid.mk (row_load _ _ _ k wr hW.holder (by omega) (by omega))
      simp only [Int.toNat_natCast] at HL
      have hgl := x.got_le k
      generalize x.holder.getD k 0 = v at *
      have HG := Hid.mk (x.got_succ k v hgx)
      clear hgx
      obtain ⟨hv0, hv1⟩ := hv
      by_cases hp : 0 < v
      · have hm2 : v ≤ 9223372036854775808 := by omega
        clear hm
        go_wp2_with (first | (go_at_call 65; refine HL.out.mono ?_; rintro e w' ⟨rfl, rfl⟩) | (at_builtin; refine Kd.R_append (Kd.int .i64) (w0 := w) w.heap.size rfl (.tmp 19) (.tmp 23) 77 3 (.int .i64 0) 8 rfl Try.underlying77 info_int rfl (by decide) (by omega) u3 (x.got k) (v - 1) [.int .i64 (v - 1)] (fun _ => True) (fun _ => False) rfl rfl rfl (fun _ hk => hk.elim) (fun _ _ => trivial) hown hkeep.below hkeep.size (by omega) ?_; intro v1 w1 ho hb hg hat))
        go_roundw
        case rel => exact ⟨k + 1, by omega, by go_num, by rw [HG.out, if_pos hp]; exact ho, Keep.of_below hb []⟩
        case measure => simp [intOf]; omega
      · go_wp2_with (first | (go_at_call 65; refine HL.out.mono ?_; rintro e w' ⟨rfl, rfl⟩))
        go_roundw
        case rel => exact ⟨k + 1, by omega, by go_num, by rw [HG.out, if_neg (by omega), List.append_nil]; exact hown, hkeep⟩
        case measure => simp [intOf]; omega
    · obtain rfl : k = x.holder.length := by omega
      have HS := Hid.mk (sort_own wr w.heap.size u3 _ hown (by have := x.got_le x.holder.length; omega))
      go_wp2_with (first | (go_at_call 69; refine HS.out.mono ?_; rintro e w' ⟨rfl, hs, S, hk2, hS⟩))
      go_ret
      exact ⟨_, rfl, hs, hkeep.trans hk2 (fun b hb => .inr (hS b hb))⟩
end Go.Proofs.Ytlgebknbfchnlaa
