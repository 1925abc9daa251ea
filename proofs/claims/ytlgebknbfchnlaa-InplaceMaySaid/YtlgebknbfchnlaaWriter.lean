/- Contracts of inplace.Writer. -/
import Derived.Test.YtlgebknbfchnlaaPages4
import Derived.Test.YtlgebknbfchnlaaHeader
namespace Go.Proofs.Ytlgebknbfchnlaa
open Go Go.RowKit Go.Hay Go.Proofs.YtlgebknbfchnlaaW.PrintWords

theorem Own.keepB {k : IntKind} {T : Nat} {w w' : World} {base : Nat} {v : Value} {xs : List Int} {S : List Nat} (h : Own k T w base v xs) (kp : Keep S w w') (hS : ∀ g, v.ownBlock = some g → g ∉ S) : Own k T w' base v xs :=
  Own.of_row (own_move h.row (fun b hb => kp.block b (own_lt h.row b hb) (hS b hb)))
theorem Own.base0 {k : IntKind} {T : Nat} {w : World} {base : Nat} {v : Value} {xs : List Int} (h : Own k T w base v xs) : Own k T w 0 v xs := Own.of_row (own_less h.row (Nat.zero_le _))
theorem Own.lt {k : IntKind} {T : Nat} {w : World} {base : Nat} {v : Value} {xs : List Int} (h : Own k T w base v xs) {g : Nat} (hg : v.ownBlock = some g) : base ≤ g ∧ g < w.heap.size := ⟨own_base h.row g hg, own_lt h.row g hg⟩
/-- A cell of a row of the call's own. -/
theorem Own.at_ {k : IntKind} {T : Nat} {w : World} {base : Nat} {v : Value} {xs : List Int} (h : Own k T w base v xs) {j : Nat} (hj : j < xs.length) :
    ∃ g c, v = .slice (some ⟨g, 0, none⟩) xs.length c ∧ xs.length ≤ c ∧ v.ownBlock = some g ∧ w.cell? ⟨g, j, none⟩ = some (.int k (xs.getD j 0)) ∧ (∀ o, w.frozen? ⟨g, o, none⟩ = false) ∧
      ∀ u, Own k T (w.setCell ⟨g, j, none⟩ (.int k u)) base v (xs.set j u) := by
  have hr := h.row
  rcases hr with ⟨hl, ⟨_, h0⟩ | ⟨g, cap, cur, rfl, hg, hh, h1, h2, h3, h4⟩⟩
  · omega
  · have hc := own_at (k := k) h.row (j : Int) (by omega) (by omega)
    refine ⟨g, cap, rfl, h1, rfl, by simpa [rd] using hc.1, fun o => by simp [World.frozen?, hh], fun u => Own.of_row ?_⟩
    have := (own_store (k := k) h.row (j : Int) u).1
    rw [List.length_set]
    simpa [nums] using this

/-- A writer. -/
structure Wr where
  p : Nat
  state : Nat
  add : Bool
  n : Int
  v : Value
  l : List Int
  at_ : Nat
  held : Int

structure WrAt (w : World) (b : Nat) (lk va : Int) (nw : Nat) (r : Wr) : Prop where
  blk : Blk w r.p 111 #[.pointer (some ⟨b, 0, none⟩), .int .u64 lk, .int .u64 va, .int .i64 nw, .int .i64 r.state, .bool r.add, .int .u64 r.n, r.v, .int .i64 r.at_, .int .u64 r.held]
  row : Own .u64 22 w 0 r.v r.l
  range : ∀ x ∈ r.l, U64 x
  nr : U64 r.n
  st : r.state ≤ 4
  atle : r.at_ ≤ 100

/-- A writer's blocks. -/
def Wr.fp (r : Wr) : List Nat := r.p :: r.v.ownBlock.toList
theorem WrAt.keep {S : List Nat} {w w' : World} {b : Nat} {lk va : Int} {nw : Nat} {r : Wr} (h : WrAt w b lk va nw r) (k : Keep S w w') (hS : ∀ g ∈ r.fp, g ∉ S) : WrAt w' b lk va nw r :=
  ⟨h.blk.keep k (hS _ (by simp [Wr.fp])), h.row.keepB k (fun g hg => hS g (by simp [Wr.fp, hg])), h.range, h.nr, h.st, h.atle⟩
theorem WrAt.drewN {w : World} {b : Nat} {lk va : Int} {nw : Nat} {r : Wr} (h : WrAt w b lk va nw r) (n : Nat) : WrAt (w.drewN n) b lk va nw r := h.keep ((Keep.refl [] w).drewN n) (by simp)
theorem WrAt.lt {w : World} {b : Nat} {lk va : Int} {nw : Nat} {r : Wr} (h : WrAt w b lk va nw r) : ∀ g ∈ r.fp, g < w.heap.size := by
  intro g hg
  simp [Wr.fp] at hg
  rcases hg with rfl | hg
  · exact h.blk.lt
  · exact (h.row.lt hg).2
/-- The row is not the struct. -/
theorem WrAt.ne {w : World} {b : Nat} {lk va : Int} {nw : Nat} {r : Wr} (h : WrAt w b lk va nw r) {g : Nat} (hg : r.v.ownBlock = some g) : r.p ≠ g := by
  obtain ⟨cs, hc⟩ := own_typed h.row.row g hg
  rintro rfl
  have := h.blk
  unfold Blk at this
  rw [hc] at this
  simp at this

/-- The next state that has something to do. -/
def Wr.nextS (r : Wr) (nw : Nat) (s : Nat) : Nat :=
  let s1 := if s = 1 ∧ r.add = false then 2 else s
  if s1 = 2 ∧ nw ≤ r.at_ then 3 else s1

theorem WrAt.setState {w : World} {b : Nat} {lk va : Int} {nw : Nat} {r : Wr} (h : WrAt w b lk va nw r) {t : Nat} (ht : t ≤ 4) :
    WrAt (w.setCell ⟨r.p, 4, none⟩ (.int .i64 t)) b lk va nw { r with state := t } ∧ Keep [r.p] w (w.setCell ⟨r.p, 4, none⟩ (.int .i64 t)) := by
  have hk : Keep [r.p] w (w.setCell ⟨r.p, 4, none⟩ (.int .i64 t)) := (Keep.refl _ _).set (by simp) _ _
  exact ⟨⟨by simpa using h.blk.set 4 (.int .i64 t), h.row.keepB hk (fun g hg => by have := h.ne hg; simpa using this.symm), h.range, h.nr, ht, h.atle⟩, hk⟩
theorem WrAt.setHeld {w : World} {b : Nat} {lk va : Int} {nw : Nat} {r : Wr} (h : WrAt w b lk va nw r) (u : Int) :
    WrAt (w.setCell ⟨r.p, 9, none⟩ (.int .u64 u)) b lk va nw { r with held := u } ∧ Keep [r.p] w (w.setCell ⟨r.p, 9, none⟩ (.int .u64 u)) := by
  have hk : Keep [r.p] w (w.setCell ⟨r.p, 9, none⟩ (.int .u64 u)) := (Keep.refl _ _).set (by simp) _ _
  exact ⟨⟨by simpa using h.blk.set 9 (.int .u64 u), h.row.keepB hk (fun g hg => by have := h.ne hg; simpa using this.symm), h.range, h.nr, h.st, h.atle⟩, hk⟩
theorem WrAt.setAt {w : World} {b : Nat} {lk va : Int} {nw : Nat} {r : Wr} (h : WrAt w b lk va nw r) {t : Nat} (ht : t ≤ 100) :
    WrAt (w.setCell ⟨r.p, 8, none⟩ (.int .i64 t)) b lk va nw { r with at_ := t } ∧ Keep [r.p] w (w.setCell ⟨r.p, 8, none⟩ (.int .i64 t)) := by
  have hk : Keep [r.p] w (w.setCell ⟨r.p, 8, none⟩ (.int .i64 t)) := (Keep.refl _ _).set (by simp) _ _
  exact ⟨⟨by simpa using h.blk.set 8 (.int .i64 t), h.row.keepB hk (fun g hg => by have := h.ne hg; simpa using this.symm), h.range, h.nr, h.st, ht⟩, hk⟩

set_option maxRecDepth 100000 in
theorem wgoes (b : Nat) (lk va : Int) (nw : Nat) (r : Wr) (s : Nat) (w : World) (h : WrAt w b lk va nw r) (hs : s = 1 ∨ s = 2) :
    Calls Try.prog 84 #[.pointer (some ⟨r.p, 0, none⟩), .int .i64 s] w fun e w' => e = .returned (.tuple #[]) ∧ ∃ m, w' = (w.setCell ⟨r.p, 4, none⟩ (.int .i64 (r.nextS nw s))).drewN m := by
  have hc := h.blk.cell
  have hf := h.blk.froz
  have HE : Hid (r.nextS nw s = (if (if s = 1 ∧ r.add = false then 2 else s) = 2 ∧ nw ≤ r.at_ then 3 else (if s = 1 ∧ r.add = false then 2 else s))) := rfl
  have hat := h.atle
  obtain ⟨p, st, add, n, v, l, at_, held⟩ := r
  simp only at *
  clear h
  generalize hE : Wr.nextS _ nw s = E at *
  clear hE
  by_cases hle : nw ≤ at_
  all_goals cases add
  all_goals rcases hs with rfl | rfl
  all_goals
    go_enter Try.func84, Try.ntmps84
    go_wp2_with fail
    go_quiet (fail)
    go_wp2_with fail
    go_end0
    refine ⟨rfl, ?_⟩
    rw [HE.out]
    simp [hle]
    exact ⟨_, rfl⟩

/-- A writer stands apart from its buffer. -/
def Wr.apart (r : Wr) (x : Buf) : Prop := ∀ g ∈ r.fp, g ∉ x.all

theorem WrAt.apart_p {r : Wr} {x : Buf} (h : r.apart x) : r.p ≠ x.R ∧ r.p ≠ x.C ∧ r.p ≠ x.b := by
  have := h r.p (by simp [Wr.fp])
  simp [Buf.all, Buf.fp] at this
  exact ⟨this.2.1, this.2.2.1, this.1⟩

theorem WrAt.heldState {w : World} {b : Nat} {lk va : Int} {nw : Nat} {r : Wr} (h : WrAt w b lk va nw r) (u : Int) {t : Nat} (ht : t ≤ 4) (m : Nat) :
    WrAt (((w.setCell ⟨r.p, 9, none⟩ (.int .u64 u)).setCell ⟨r.p, 4, none⟩ (.int .i64 t)).drewN m) b lk va nw { r with held := u, state := t } ∧ Keep [r.p] w (((w.setCell ⟨r.p, 9, none⟩ (.int .u64 u)).setCell ⟨r.p, 4, none⟩ (.int .i64 t)).drewN m) := by
  have h1 := h.setHeld u
  have h2 := h1.1.setState ht
  exact ⟨h2.1.drewN m, (h1.2.trans h2.2 (by simp)).drewN m⟩
theorem WrAt.atState {w : World} {b : Nat} {lk va : Int} {nw : Nat} {r : Wr} (h : WrAt w b lk va nw r) {u : Nat} (hu : u ≤ 100) {t : Nat} (ht : t ≤ 4) (m : Nat) :
    WrAt (((w.setCell ⟨r.p, 8, none⟩ (.int .i64 u)).setCell ⟨r.p, 4, none⟩ (.int .i64 t)).drewN m) b lk va nw { r with at_ := u, state := t } ∧ Keep [r.p] w (((w.setCell ⟨r.p, 8, none⟩ (.int .i64 u)).setCell ⟨r.p, 4, none⟩ (.int .i64 t)).drewN m) := by
  have h1 := h.setAt hu
  have h2 := h1.1.setState ht
  exact ⟨h2.1.drewN m, (h1.2.trans h2.2 (by simp)).drewN m⟩
theorem nextS_le (r : Wr) (nw s : Nat) (hs : s = 1 ∨ s = 2) : r.nextS nw s ≤ 4 := by
  unfold Wr.nextS
  rcases hs with rfl | rfl <;> simp <;> split <;> (try split) <;> omega
end Go.Proofs.Ytlgebknbfchnlaa
