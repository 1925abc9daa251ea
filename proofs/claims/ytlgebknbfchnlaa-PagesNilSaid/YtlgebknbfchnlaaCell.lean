/- Contracts of package cell (and of the atomic words that it stands on), where the cells are there. -/
import Derived.Test.YtlgebknbfchnlaaBase
import Derived.Test.YtlgebknbfchnlaaProg
namespace Go.Proofs.Ytlgebknbfchnlaa
open Go Go.RowKit Go.Hay

def U64 (x : Int) : Prop := 0 ≤ x ∧ x < 18446744073709551616

/-- A row of cells: its struct in block r, its words in block c. -/
structure RowAt (w : World) (r c : Nat) (xs : List Int) : Prop where
  row : ∃ won lost, Blk w r 137 #[.slice (some ⟨c, 0, none⟩) xs.length xs.length, .int .i64 won, .int .i64 lost]
  cells : Blk w c 145 (xs.map (Value.int .u64)).toArray
  size : xs.length ≤ 65536
  range : ∀ x ∈ xs, U64 x

theorem RowAt.ne {w : World} {r c : Nat} {xs : List Int} (h : RowAt w r c xs) : r ≠ c := by
  obtain ⟨_, _, hr⟩ := h.row; exact hr.ne h.cells (by decide)
theorem RowAt.keep {S : List Nat} {w w' : World} {r c : Nat} {xs : List Int} (h : RowAt w r c xs) (k : Keep S w w') (hr : r ∉ S) (hc : c ∉ S) : RowAt w' r c xs := by
  obtain ⟨a, b, h1⟩ := h.row; exact ⟨⟨a, b, h1.keep k hr⟩, h.cells.keep k hc, h.size, h.range⟩
theorem RowAt.drewN {w : World} {r c : Nat} {xs : List Int} (h : RowAt w r c xs) (n : Nat) : RowAt (w.drewN n) r c xs := h.keep ((Keep.refl [] w).drewN n) (by simp) (by simp)
theorem RowAt.lt {w : World} {r c : Nat} {xs : List Int} (h : RowAt w r c xs) : r < w.heap.size ∧ c < w.heap.size := by
  obtain ⟨a, b, h1⟩ := h.row; exact ⟨h1.lt, h.cells.lt⟩
theorem getD_get {xs : List Int} {i : Nat} (h : i < xs.length) : xs[i]? = some (xs.getD i 0) := by
  rw [List.getD_eq_getElem?_getD, List.getElem?_eq_getElem h]; rfl
theorem getD_mem {xs : List Int} {i : Nat} (h : i < xs.length) : xs.getD i 0 ∈ xs := by
  rw [List.getD_eq_getElem?_getD, List.getElem?_eq_getElem h]; simp
theorem RowAt.cell {w : World} {r c : Nat} {xs : List Int} (h : RowAt w r c xs) {i : Nat} (hi : i < xs.length) : w.cell? ⟨c, i, none⟩ = some (.int .u64 (xs.getD i 0)) := by
  rw [h.cells.cell]; simp only [List.getElem?_toArray, List.getElem?_map, getD_get hi]; rfl
theorem RowAt.set {w : World} {r c : Nat} {xs : List Int} (h : RowAt w r c xs) (i : Nat) {x : Int} (hx : U64 x) : RowAt (w.setCell ⟨c, i, none⟩ (.int .u64 x)) r c (xs.set i x) := by
  obtain ⟨a, b, h1⟩ := h.row
  refine ⟨⟨a, b, by simpa using h1.far h.ne i _⟩, ?_, by simpa using h.size, ?_⟩
  · have := h.cells.set i (.int .u64 x)
    simpa [List.map_set] using this
  · intro y hy
    rcases List.mem_or_eq_of_mem_set hy with hy | rfl
    · exact h.range _ hy
    · exact hx

/-! ## atomic words -/
set_option maxRecDepth 100000 in
theorem uload (a : Addr) (x : Int) (w : World) (hc : w.cell? a = some (.int .u64 x)) :
    Calls Try.prog 90 #[.pointer (some a)] w fun e w' => e = .returned (.int .u64 x) ∧ w = w' := by
  have hst := run_call_load (P := Try.prog) Try.func111 (by kernel_rfl) (by kernel_rfl) (by kernel_rfl) .u64 (by kernel_rfl) hc
  go_enter Try.func90, Try.ntmps90
  go_wp2_with fail
  go_ret
  exact ⟨rfl, rfl⟩

set_option maxRecDepth 100000 in
theorem ustore (a : Addr) (x : Int) (u : Value) (w : World) (hc : w.cell? a = some u) (hf : w.frozen? a = false) :
    Calls Try.prog 100 #[.pointer (some a), .int .u64 x] w fun e w' => e = .returned (.tuple #[]) ∧ w.setCell a (.int .u64 x) = w' := by
  have hst := run_call_store (P := Try.prog) Try.func126 (by kernel_rfl) (by kernel_rfl) (by kernel_rfl) (by kernel_rfl) (k := .u64) (y := x) hc hf
  go_enter Try.func100, Try.ntmps100
  go_wp2_with fail
  go_end0
  exact ⟨rfl, rfl⟩

set_option maxRecDepth 100000 in
theorem ucas_hit (a : Addr) (x y : Int) (w : World) (hc : w.cell? a = some (.int .u64 x)) (hf : w.frozen? a = false) :
    Calls Try.prog 97 #[.pointer (some a), .int .u64 x, .int .u64 y] w fun e w' => e = .returned (.bool true) ∧ w.setCell a (.int .u64 y) = w' := by
  have hst := run_call_cas_hit (P := Try.prog) Try.func124 (by kernel_rfl) (by kernel_rfl) (by kernel_rfl) .u64 (by kernel_rfl) (y := y) hc hf
  go_enter Try.func97, Try.ntmps97
  go_wp2_with fail
  go_ret
  exact ⟨rfl, rfl⟩

set_option maxRecDepth 100000 in
theorem ucas_miss (a : Addr) (x o y : Int) (w : World) (hc : w.cell? a = some (.int .u64 x)) (hf : w.frozen? a = false) (hne : ¬ x = o) :
    Calls Try.prog 97 #[.pointer (some a), .int .u64 o, .int .u64 y] w fun e w' => e = .returned (.bool false) ∧ w = w' := by
  have hst := run_call_cas_miss (P := Try.prog) Try.func124 (by kernel_rfl) (by kernel_rfl) (by kernel_rfl) .u64 (by kernel_rfl) (o := o) (y := y) hc hf hne
  go_enter Try.func97, Try.ntmps97
  go_wp2_with fail
  go_ret
  exact ⟨rfl, rfl⟩

theorem run_add64 (P : Program) (x y : Int) (w : World) : (Op.intArith .add .i64 x y).run P w = .ok (.int .i64 (IntKind.i64.wrap (x + y))) w := rfl

set_option maxRecDepth 100000 in
theorem iadd (a : Addr) (x y : Int) (w : World) (hc : w.cell? a = some (.int .i64 x)) (hf : w.frozen? a = false) :
    Calls Try.prog 98 #[.pointer (some a), .int .i64 y] w fun e w' => (∃ v, e = .returned v) ∧ w.setCell a (.int .i64 (wrap64 (x + y))) = w' := by
  have hst := run_call_add (P := Try.prog) Try.func125 (by kernel_rfl) (by kernel_rfl) (by kernel_rfl) .i64 (by kernel_rfl) hc hf (run_add64 _ x y w)
  go_enter Try.func98, Try.ntmps98
  go_wp2_with fail
  go_ret
  exact ⟨⟨_, rfl⟩, rfl⟩

/-! ## rows -/
set_option maxRecDepth 100000 in
theorem row_len (r c : Nat) (xs : List Int) (w : World) (h : RowAt w r c xs) :
    Calls Try.prog 76 #[.pointer (some ⟨r, 0, none⟩)] w fun e w' => e = .returned (.int .i64 xs.length) ∧ w = w' := by
  obtain ⟨won, lost, h0⟩ := h.row
  have h1 := h0.cell
  go_enter Try.func76, Try.ntmps76
  go_wp2_with fail
  go_ret
  exact ⟨rfl, rfl⟩

set_option maxRecDepth 100000 in
theorem row_there (r c : Nat) (xs : List Int) (i : Int) (w : World) (h : RowAt w r c xs) (h0 : 0 ≤ i) (h1 : i < xs.length) :
    Calls Try.prog 89 #[.pointer (some ⟨r, 0, none⟩), .int .i64 i] w fun e w' => e = .returned (.bool true) ∧ w = w' := by
  go_enter Try.func89, Try.ntmps89
  go_wp2_with (first | (go_at_call 76; refine (row_len _ c xs _ h).mono ?_; rintro e w' ⟨rfl, rfl⟩))
  go_ret
  exact ⟨rfl, rfl⟩

set_option maxRecDepth 100000 in
theorem row_may (r c : Nat) (xs : List Int) (i : Int) (w : World) (h : RowAt w r c xs) (h0 : 0 ≤ i) (h1 : i < xs.length) :
    Calls Try.prog 96 #[.pointer (some ⟨r, 0, none⟩), .int .i64 i] w fun e w' => e = .returned (.int .i64 0) ∧ w = w' := by
  go_enter Try.func96, Try.ntmps96
  go_wp2_with (first | (go_at_call 89; refine (row_there _ c xs _ _ h h0 h1).mono ?_; rintro e w' ⟨rfl, rfl⟩))
  go_ret
  exact ⟨rfl, rfl⟩

set_option maxRecDepth 100000 in
theorem row_load (r c : Nat) (xs : List Int) (i : Int) (w : World) (h : RowAt w r c xs) (h0 : 0 ≤ i) (h1 : i < xs.length) :
    Calls Try.prog 65 #[.pointer (some ⟨r, 0, none⟩), .int .i64 i] w fun e w' => e = .returned (.int .u64 (xs.getD i.toNat 0)) ∧ w = w' := by
  obtain ⟨won, lost, hr⟩ := h.row
  have h2 := hr.cell
  have hx := h.cell (i := i.toNat) (by omega)
  generalize xs.getD i.toNat 0 = x at hx ⊢
  go_enter Try.func65, Try.ntmps65
  go_wp2_with (first | (go_at_call 89; refine (row_there _ c xs _ _ h h0 h1).mono ?_; rintro e w' ⟨rfl, rfl⟩) | (go_at_call 90; refine (uload _ x _ hx).mono ?_; rintro e w' ⟨rfl, rfl⟩))
  go_ret
  exact ⟨rfl, rfl⟩

set_option maxRecDepth 100000 in
theorem row_store (r c : Nat) (xs : List Int) (i x : Int) (w : World) (h : RowAt w r c xs) (h0 : 0 ≤ i) (h1 : i < xs.length) :
    Calls Try.prog 74 #[.pointer (some ⟨r, 0, none⟩), .int .i64 i, .int .u64 x] w fun e w' => e = .returned (.int .i64 0) ∧ w.setCell ⟨c, i.toNat, none⟩ (.int .u64 x) = w' := by
  obtain ⟨won, lost, hr⟩ := h.row
  have h2 := hr.cell
  go_enter Try.func74, Try.ntmps74
  go_wp2_with (first | (go_at_call 96; refine (row_may _ c xs _ _ h h0 h1).mono ?_; rintro e w' ⟨rfl, rfl⟩) | (go_at_call 100; refine (ustore _ _ _ _ (h.cell (by omega)) (h.cells.froz _)).mono ?_; rintro e w' ⟨rfl, rfl⟩))
  go_ret
  exact ⟨rfl, rfl⟩

set_option maxRecDepth 100000 in
theorem row_cas_hit (r c : Nat) (xs : List Int) (i x y : Int) (w : World) (h : RowAt w r c xs) (h0 : 0 ≤ i) (h1 : i < xs.length) (hx : xs.getD i.toNat 0 = x) (hy : U64 y) :
    Calls Try.prog 71 #[.pointer (some ⟨r, 0, none⟩), .int .i64 i, .int .u64 x, .int .u64 y] w fun e w' =>
      e = .returned (.tuple #[.bool true, .int .i64 0]) ∧ RowAt w' r c (xs.set i.toNat y) ∧ Keep [r, c] w w' := by
  subst hx
  obtain ⟨won, lost, hr⟩ := h.row
  have h2 := hr.cell
  have h3 := hr.froz
  have hs := h.set i.toNat hy
  have hne := h.ne
  have hk : Keep [r, c] w (w.setCell ⟨c, i.toNat, none⟩ (.int .u64 y)) := (Keep.refl _ _).set (by simp) _ _
  have hx := h.cell (i := i.toNat) (by omega)
  generalize xs.getD i.toNat 0 = x at hx ⊢
  generalize hw2 : w.setCell ⟨c, i.toNat, none⟩ (.int .u64 y) = w2 at hs hk
  have HW := Hid.mk hw2
  clear hw2
  obtain ⟨a2, b2, hr2⟩ := hs.row
  have h4 := hr2.cell
  have h5 := hr2.froz
  go_enter Try.func71, Try.ntmps71
  go_wp2_with (first | (go_at_call 96; refine (row_may _ c xs _ _ h h0 h1).mono ?_; rintro e w' ⟨rfl, rfl⟩) | (go_at_call 97; refine (ucas_hit _ x _ _ hx (h.cells.froz _)).mono ?_; rintro e w' ⟨rfl, rfl⟩; rw [HW.out]) | (go_at_call 98; refine (iadd _ a2 1 _ (by simp [h4]) (by simp [h5])).mono ?_; rintro e w' ⟨⟨v, rfl⟩, rfl⟩))
  go_ret2
  refine ⟨rfl, ⟨⟨_, b2, by simpa using hr2.set 1 _⟩, hs.cells.far hne.symm _ _, hs.size, hs.range⟩, hk.set (by simp) _ _⟩

set_option maxRecDepth 100000 in
theorem row_cas_miss (r c : Nat) (xs : List Int) (i x y : Int) (w : World) (h : RowAt w r c xs) (h0 : 0 ≤ i) (h1 : i < xs.length) (hx : ¬ xs.getD i.toNat 0 = x) :
    Calls Try.prog 71 #[.pointer (some ⟨r, 0, none⟩), .int .i64 i, .int .u64 x, .int .u64 y] w fun e w' =>
      e = .returned (.tuple #[.bool false, .int .i64 0]) ∧ RowAt w' r c xs ∧ Keep [r, c] w w' := by
  obtain ⟨won, lost, hr⟩ := h.row
  have h2 := hr.cell
  have h3 := hr.froz
  have hne := h.ne
  go_enter Try.func71, Try.ntmps71
  go_wp2_with (first | (go_at_call 96; refine (row_may _ c xs _ _ h h0 h1).mono ?_; rintro e w' ⟨rfl, rfl⟩) | (go_at_call 97; refine (ucas_miss _ _ _ _ _ (h.cell (by omega)) (h.cells.froz _) hx).mono ?_; rintro e w' ⟨rfl, rfl⟩) | (go_at_call 98; refine (iadd _ lost 1 _ (by simp [h2]) (by simp [h3])).mono ?_; rintro e w' ⟨⟨v, rfl⟩, rfl⟩))
  go_ret2
  refine ⟨rfl, ⟨⟨won, _, by simpa using hr.set 2 _⟩, h.cells.far hne.symm _ _, h.size, h.range⟩, (Keep.refl _ _).set (by simp) _ _⟩

end Go.Proofs.Ytlgebknbfchnlaa
