/- InplaceSums holds: each number is added once, and whoever moves alone is done soon; no conditions. (part 3 of 4 of its proof.) -/
import Derived.Test.YtlgebknbfchnlaaKSu2
import Derived.Outline
import Derived.Deep.DeepCutAuto

/- The document's Work, part 2: a reader's moves. -/
namespace Go.Proofs.Ytlgebknbfchnlaa
set_option linter.unusedVariables false
set_option linter.unusedSimpArgs false
open Go Go.RowKit Go.Hay Go.Proofs.YtlgebknbfchnlaaW.PrintWords Go.Proofs.YtlgebknbfchnlaaW.PrintMore Go.Proofs.YtlgebknbfchnlaaW.PrintLast

set_option maxRecDepth 100000 in
/-- Move at a reader that is not done: it reads. -/
theorem kreads {Q : Ending → World → Prop} (m : Wk) (x : Ce) (w : World) (h : WkAt w m) (hd : m.done = false) (hr : m.reads = true) (v : Int)
    (H : Calls Try.prog 62 #[.pointer (some ⟨m.p, 0, none⟩), .pointer (some ⟨x.p, 0, none⟩)] w fun e w' => e = .returned (.int .i64 v) ∧ Q (.returned (.int .i64 v)) w') :
    Calls Try.prog 23 #[.pointer (some ⟨m.p, 0, none⟩), .pointer (some ⟨x.p, 0, none⟩)] w fun e w' => e = .returned (.int .i64 v) ∧ Q (.returned (.int .i64 v)) w' := by
  have hc := h.blk.cell
  rw [hd, hr] at hc
  have H := Hid.mk H
  go_enter Try.func23, Try.ntmps23
  go_wp2_with ((go_at_call 62; refine H.out.mono ?_; rintro e w' ⟨rfl, hq⟩))
  go_ret
  exact ⟨rfl, hq⟩

set_option maxRecDepth 100000 in
theorem kr_busy (m : Wk) (x : Ce) (w : World) (h : WkAt w m) (hx : CeAt w x) (hm : m.moves = 0) (hh : x.h = true) :
    Calls Try.prog 62 #[.pointer (some ⟨m.p, 0, none⟩), .pointer (some ⟨x.p, 0, none⟩)] w fun e w' => e = .returned (.int .i64 3) ∧ w = w' := by
  have hc := h.blk.cell
  have hcx := hx.blk.cell
  rw [hm] at hc
  rw [hh] at hcx
  go_enter Try.func62, Try.ntmps62
  go_wp2_with fail
  go_ret
  exact ⟨rfl, rfl⟩

set_option maxRecDepth 100000 in
theorem kr_look (m : Wk) (x : Ce) (w : World) (h : WkAt w m) (hx : CeAt w x) (hA : m.apart x) (hm : m.moves = 0) (hh : x.h = false) :
    Calls Try.prog 62 #[.pointer (some ⟨m.p, 0, none⟩), .pointer (some ⟨x.p, 0, none⟩)] w fun e w' => e = .returned (.int .i64 1) ∧ ∃ v', WkAt w' { m with seen := x.c, got := [], moves := 1, gv := v' } ∧ (∀ g, v'.ownBlock = some g → w.heap.size ≤ g) ∧ Keep [m.p] w w' := by
  have hc := h.blk.cell
  have hcx := hx.blk.cell
  have hf := h.blk.froz
  have hne : x.p ≠ m.p := by have := hA m.p (by simp [Wk.fp]); simp [Ce.fp] at this; exact fun e => this.1 e.symm
  rw [hm] at hc
  rw [hh] at hcx
  have hal : ∀ obj o, ((w.setCell ⟨m.p, 6, none⟩ (.int .u64 x.c)).alloc obj).cell? ⟨m.p, o, none⟩ = _ := fun obj => ((h.blk.set 6 (.int .u64 x.c)).alloc obj).cell
  have hfl : ∀ obj o, ((w.setCell ⟨m.p, 6, none⟩ (.int .u64 x.c)).alloc obj).frozen? ⟨m.p, o, none⟩ = false := fun obj => ((h.blk.set 6 (.int .u64 x.c)).alloc obj).froz
  simp only [List.setIfInBounds_toArray, List.set_cons_succ, List.set_cons_zero] at hal
  go_enter Try.func62, Try.ntmps62
  go_wp2_with fail
  go_ret
  clear hal hfl
  have k1 : Keep [m.p] w (w.setCell ⟨m.p, 6, none⟩ (.int .u64 x.c)) := (Keep.refl _ _).set (by simp) _ _
  have k2 : Keep [m.p] w ((w.setCell ⟨m.p, 6, none⟩ (.int .u64 x.c)).alloc (.cells #[] 22 (0, 0))) := k1.alloc _
  have hn := Blk.new (w.setCell ⟨m.p, 6, none⟩ (.int .u64 x.c)) 22 #[]
  have hb2 := (h.blk.set 6 (.int .u64 x.c)).alloc (.cells #[] 22 (0, 0))
  have hs : (w.setCell ⟨m.p, 6, none⟩ (.int .u64 x.c)).heap.size = w.heap.size := by simp
  rw [hs] at hn
  have hpl := h.blk.lt
  generalize (w.setCell ⟨m.p, 6, none⟩ (.int .u64 x.c)).alloc (.cells #[] 22 (0, 0)) = W at hn hb2 k2 ⊢
  have k3 : Keep [m.p] W ((W.setCell ⟨m.p, 7, none⟩ (.slice (some ⟨w.heap.size, 0, none⟩) 0 0)).setCell ⟨m.p, 4, none⟩ (.int .i64 1)) := ((Keep.refl _ _).set (by simp) _ _).set (by simp) _ _
  have k4 := k2.trans k3 (by simp)
  have hl4 := h.lrow.keepB k4 (fun g hg => by have := own_ne h.blk h.lrow (by decide) hg; simpa using this.symm)
  have hn4 := hn.keep k3 (by simp; omega)
  refine ⟨rfl, _, ⟨?_, hl4, Own.new (xs := []) (base := 0) hn4 (Nat.zero_le _) (by simp), h.lr, by simp, h.nr, ?_, by simp, h.ll, by simp⟩, ?_, k4⟩
  · have := (hb2.set 7 (.slice (some ⟨w.heap.size, 0, none⟩) 0 0)).set 4 (.int .i64 1)
    simp only [List.setIfInBounds_toArray, List.set_cons_zero, List.set_cons_succ] at this
    exact this
  · intro g hg hg2
    simp [Value.ownBlock] at hg2
    subst hg2
    exact Nat.lt_irrefl _ (h.lrow.lt hg).2
  · intro g hg
    simp [Value.ownBlock] at hg
    omega

set_option maxRecDepth 100000 in
set_option maxHeartbeats 1000000 in
theorem kr_read (m : Wk) (x : Ce) (at_ : Nat) (w : World) (h : WkAt w m) (hx : CeAt w x) (hA : m.apart x) (hm : m.moves = at_ + 1) (hl : at_ < x.l.length) (hg : m.got.length < 100) :
    Calls Try.prog 62 #[.pointer (some ⟨m.p, 0, none⟩), .pointer (some ⟨x.p, 0, none⟩)] w fun e w' => e = .returned (.int .i64 1) ∧ ∃ v', WkAt w' { m with got := m.got ++ [x.l.getD at_ 0], moves := m.moves + 1, gv := v' } ∧ (∀ g, v'.ownBlock = some g → m.gv.ownBlock = some g ∨ w.heap.size ≤ g) ∧ Keep m.fp w w' := by
  have hc := h.blk.cell
  have hcx := hx.blk.cell
  have hf := h.blk.froz
  have hml := h.ml
  obtain ⟨g, cap, hv, hcap, hgg, hcl, hfl, hset⟩ := hx.row.at_ hl
  obtain ⟨A, cap', hv', hlc, hC, hb⟩ := h.grow.reads
  rw [hm, hv'] at hc
  rw [hv] at hcx
  clear hset
  have hu : U64 (x.l.getD at_ 0) := hx.lr _ (getD_mem hl)
  generalize x.l.getD at_ 0 = u at *
  go_enter Try.func62, Try.ntmps62
  go_wp2_with fail
  have hS : w.drew.cell? ⟨m.p, 7, none⟩ = some (.slice A m.got.length cap') ∧ w.drew.cell? ⟨x.p, 2, none⟩ = some (.slice (some ⟨g, 0, none⟩) x.l.length cap) ∧ w.drew.cell? ⟨g, at_, none⟩ = some (.int .u64 u) := ⟨hc 7, hcx 2, hcl⟩
  have hkW : Keep [] w w.drew := (Keep.refl _ _).drew
  have hwm := h.drewN 1
  have hwx := hx.drewN 1
  change WkAt w.drew m at hwm
  change CeAt w.drew x at hwx
  have hclW : w.drew.cell? ⟨g, at_, none⟩ = some (.int .u64 u) := hcl
  have hglt : g < w.drew.heap.size := (hx.row.lt hgg).2
  have hne0 : m.p ∉ (Value.slice A m.got.length cap').ownBlock.toList := by
    intro hm2
    simp at hm2
    exact own_ne h.blk h.grow (by decide) (hv' ▸ hm2) rfl
  have hnx : x.p ∉ (Value.slice A m.got.length cap').ownBlock.toList := by
    intro hm2
    simp at hm2
    exact hA x.p (by simp [Wk.fp, hv', hm2]) (by simp [Ce.fp])
  have hng : g ∉ (Value.slice A m.got.length cap').ownBlock.toList := by
    intro hm2
    simp at hm2
    exact hA g (by simp [Wk.fp, hv', hm2]) (by simp [Ce.fp, hgg])
  refine start_ (n := 17) (S := fun w' => w'.cell? ⟨m.p, 7, none⟩ = some (.slice A m.got.length cap') ∧ w'.cell? ⟨x.p, 2, none⟩ = some (.slice (some ⟨g, 0, none⟩) x.l.length cap) ∧ w'.cell? ⟨g, at_, none⟩ = some (.int .u64 u)) (ds := [16]) #[false, false, false, false, false, false, false, false, false, false, false, false, false, false, false, false, false] (by kernel_rfl) rfl rfl (hS) (fun hHeld => ?_)
  generalize hWW : w.drew = W at *
  have hblk := hwm.blk
  rw [hv', hm] at hblk
  have hbx := hwx.blk
  rw [hv] at hbx
  have hown : Own .u64 22 W 0 (.slice A m.got.length cap') m.got := hv' ▸ hwm.grow
  have hS2 : (W.alloc (.cells #[.int .u64 u] 22)).cell? ⟨m.p, 7, none⟩ = some (.slice A m.got.length cap') ∧ (W.alloc (.cells #[.int .u64 u] 22)).cell? ⟨x.p, 2, none⟩ = some (.slice (some ⟨g, 0, none⟩) x.l.length cap) ∧ (W.alloc (.cells #[.int .u64 u] 22)).cell? ⟨g, at_, none⟩ = some (.int .u64 u) := ⟨(hblk.alloc _).cell 7, (hbx.alloc _).cell 2, (World.cell?_of_block (heap_alloc _ _ _ hglt)).trans hclW⟩
  refine pure_ (i := 0) (N := some 41) (v := ?_) (a' := ?_) #[true, false, false, false, false, false, false, false, false, false, false, false, false, false, false, false, false] rfl rfl (by kernel_rfl) (fun _ _ _ h => h) (Or.inl ⟨by rfl, ?_⟩) ?_ ?_
  rotate_left
  · intro w'
    go_simp
    with_reducible rfl
  rotate_left
  · simp only [Act.put, List.setIfInBounds_toArray, List.set_cons_zero, List.set_cons_succ]
    rfl
  refine pure_ (i := 1) (N := some 42) (v := ?_) (a' := ?_) #[true, true, false, false, false, false, false, false, false, false, false, false, false, false, false, false, false] rfl rfl (by kernel_rfl) (fun _ _ _ h => h) (Or.inl ⟨by rfl, ?_⟩) ?_ ?_
  rotate_left
  · intro w'
    go_simp
    with_reducible rfl
  rotate_left
  · simp only [Act.put, List.setIfInBounds_toArray, List.set_cons_zero, List.set_cons_succ]
    rfl
  refine pure_ (i := 2) (N := some 43) (v := ?_) (a' := ?_) #[true, true, true, false, false, false, false, false, false, false, false, false, false, false, false, false, false] rfl rfl (by kernel_rfl) (fun _ _ _ h => h) (Or.inl ⟨by rfl, ?_⟩) ?_ ?_
  rotate_left
  · intro w'
    go_simp
    with_reducible rfl
  rotate_left
  · simp only [Act.put, List.setIfInBounds_toArray, List.set_cons_zero, List.set_cons_succ]
    rfl
  refine pure_ (i := 3) (N := some 44) (v := ?_) (a' := ?_) #[true, true, true, true, false, false, false, false, false, false, false, false, false, false, false, false, false] rfl rfl (by kernel_rfl) (fun _ _ _ h => h) (Or.inl ⟨by rfl, ?_⟩) ?_ ?_
  rotate_left
  · intro w'
    go_simp
    with_reducible rfl
  rotate_left
  · simp only [Act.put, List.setIfInBounds_toArray, List.set_cons_zero, List.set_cons_succ]
    rfl
  refine pure_ (i := 5) (N := some 46) (v := ?_) (a' := ?_) #[true, true, true, true, false, true, false, false, false, false, false, false, false, false, false, false, false] rfl rfl (by kernel_rfl) (fun _ _ _ h => h) (Or.inl ⟨by rfl, ?_⟩) ?_ ?_
  rotate_left
  · intro w'
    go_simp
    with_reducible rfl
  rotate_left
  · simp only [Act.put, List.setIfInBounds_toArray, List.set_cons_zero, List.set_cons_succ]
    rfl
  refine pure_ (i := 6) (N := some 47) (v := ?_) (a' := ?_) #[true, true, true, true, false, true, true, false, false, false, false, false, false, false, false, false, false] rfl rfl (by kernel_rfl) (fun _ _ _ h => h) (Or.inl ⟨by rfl, ?_⟩) ?_ ?_
  rotate_left
  · intro w'
    go_simp
    with_reducible rfl
  rotate_left
  · simp only [Act.put, List.setIfInBounds_toArray, List.set_cons_zero, List.set_cons_succ]
    rfl
  refine pure_ (i := 7) (N := some 48) (v := ?_) (a' := ?_) #[true, true, true, true, false, true, true, true, false, false, false, false, false, false, false, false, false] rfl rfl (by kernel_rfl) (fun _ _ _ h => h) (Or.inl ⟨by rfl, ?_⟩) ?_ ?_
  rotate_left
  · intro w'
    go_simp
    with_reducible rfl
  rotate_left
  · simp only [Act.put, List.setIfInBounds_toArray, List.set_cons_zero, List.set_cons_succ]
    rfl
  refine pure_ (i := 9) (N := some 50) (v := ?_) (a' := ?_) #[true, true, true, true, false, true, true, true, false, true, false, false, false, false, false, false, false] rfl rfl (by kernel_rfl) (fun _ _ _ h => h) (Or.inl ⟨by rfl, ?_⟩) ?_ ?_
  rotate_left
  · intro w'
    go_simp
    with_reducible rfl
  rotate_left
  · simp only [Act.put, List.setIfInBounds_toArray, List.set_cons_zero, List.set_cons_succ]
    rfl
  refine take_ (i := 4) (N := some 45) (v := ?_) (a' := ?_) #[true, true, true, true, true, true, true, true, false, true, false, false, false, false, false, false, false] rfl rfl (by kernel_rfl) (fun _ _ _ h => h) (Or.inl ⟨by rfl, ?_⟩) hHeld ?_ ?_
  rotate_left
  · intro w' s0
    go_simp
    with_reducible rfl
  rotate_left
  · simp only [Act.put, List.setIfInBounds_toArray, List.set_cons_zero, List.set_cons_succ]
    rfl
  refine take_ (i := 8) (N := some 49) (v := ?_) (a' := ?_) #[true, true, true, true, true, true, true, true, true, true, false, false, false, false, false, false, false] rfl rfl (by kernel_rfl) (fun _ _ _ h => h) (Or.inl ⟨by rfl, ?_⟩) hHeld ?_ ?_
  rotate_left
  · intro w' s0
    go_simp
    with_reducible rfl
  rotate_left
  · simp only [Act.put, List.setIfInBounds_toArray, List.set_cons_zero, List.set_cons_succ]
    rfl
  refine pure_ (i := 10) (N := some 51) (v := ?_) (a' := ?_) #[true, true, true, true, true, true, true, true, true, true, true, false, false, false, false, false, false] rfl rfl (by kernel_rfl) (fun _ _ _ h => h) (Or.inl ⟨by rfl, ?_⟩) ?_ ?_
  rotate_left
  · intro w'
    go_simp
    with_reducible rfl
  rotate_left
  · simp only [Act.put, List.setIfInBounds_toArray, List.set_cons_zero, List.set_cons_succ]
    rfl
  refine take_ (i := 11) (N := some 52) (v := ?_) (a' := ?_) #[true, true, true, true, true, true, true, true, true, true, true, true, false, false, false, false, false] rfl rfl (by kernel_rfl) (fun _ _ _ h => h) (Or.inl ⟨by rfl, ?_⟩) hHeld ?_ ?_
  rotate_left
  · intro w' s0
    go_simp
    with_reducible rfl
  rotate_left
  · simp only [Act.put, List.setIfInBounds_toArray, List.set_cons_zero, List.set_cons_succ]
    rfl
  refine one_ (i := 12) (N := some 53) #[true, true, true, true, true, true, true, true, true, true, true, true, true, false, false, false, false] rfl rfl (by kernel_rfl) (by decide) (fun K hK => ?_)
  refine value_ (w1 := W.alloc (.cells #[.int .u64 u] 22)) (v := .slice (some ⟨W.heap.size, 0, none⟩) 1 1) (by rfl) rfl (by go_simp) ?_
  refine hK.out _ _ hS2 (fun hHeld => ?_)
  clear hK K
  refine norm_ (a' := ?_) ?_ ?_
  rotate_left
  · show Act.put _ (some 53) _ = _
    simp only [Act.put, List.setIfInBounds_toArray, List.set_cons_zero, List.set_cons_succ]
    rfl
  refine one_ (i := 13) (N := some 54) #[true, true, true, true, true, true, true, true, true, true, true, true, true, true, false, false, false] rfl rfl (by kernel_rfl) (by decide) (fun K hK => ?_)
  refine Kd.R_append_step (Kd.int .u64) (w0 := W) 0 (by rfl) (.tmp 45) (.tmp 53) 40 22 (.int .u64 0) 8 rfl Try.underlying40 info_u64 rfl (by decide) (by omega) (.slice A m.got.length cap') m.got u [.int .u64 u] (fun _ => True) (fun _ => False) rfl rfl rfl (fun _ hk => hk.elim) (fun _ _ => trivial) hown (Below.zero (Below.refl 0 W)) (Nat.zero_le _) (by omega) ?_
  intro v1 w1 ho hb hg1 hat
  obtain ⟨A1, c1, rfl, _⟩ := Own.reads ho
  have kg := Keep.of_grown hg1
  have hb1 := hblk.keep kg hne0
  have hc1 := hb1.cell
  have hf1 := hb1.froz
  refine hK.out _ _ ⟨hc1 7, (hbx.keep kg hnx).cell 2, (World.cell?_of_block (kg.block g hglt hng)).trans hclW⟩ (fun hHeld => ?_)
  clear hK K
  refine norm_ (a' := ?_) ?_ ?_
  rotate_left
  · show Act.put _ (some 54) _ = _
    simp only [Act.put, List.setIfInBounds_toArray, List.set_cons_zero, List.set_cons_succ]
    rfl
  refine pure_ (i := 14) (N := some 55) (v := ?_) (a' := ?_) #[true, true, true, true, true, true, true, true, true, true, true, true, true, true, true, false, false] rfl rfl (by kernel_rfl) (fun _ _ _ h => h) (Or.inl ⟨by rfl, ?_⟩) ?_ ?_
  rotate_left
  · intro w'
    go_simp
    with_reducible rfl
  rotate_left
  · simp only [Act.put, List.setIfInBounds_toArray, List.set_cons_zero, List.set_cons_succ]
    rfl
  refine pure_ (i := 15) (N := some 56) (v := ?_) (a' := ?_) #[true, true, true, true, true, true, true, true, true, true, true, true, true, true, true, true, false] rfl rfl (by kernel_rfl) (fun _ _ _ h => h) (Or.inl ⟨by rfl, ?_⟩) ?_ ?_
  rotate_left
  · intro w'
    go_simp
    with_reducible rfl
  rotate_left
  · simp only [Act.put, List.setIfInBounds_toArray, List.set_cons_zero, List.set_cons_succ]
    rfl
  refine last_ (i := 16) (N := none) #[true, true, true, true, true, true, true, true, true, true, true, true, true, true, true, true, true] rfl rfl (by kernel_rfl) (by decide) (fun K hK => ?_)
  refine skip_ (w1 := ?_) (by rfl) rfl ?_ ?_
  rotate_left
  · go_simp
    rfl
  refine hK.out _ _ ?_
  clear hK K
  refine done_ (by kernel_rfl) ?_
  clear hHeld hS2 hS hc
  go_wp2_with fail
  go_ret
  have hsz : W.heap.size = w.heap.size := by rw [← hWW]; rfl
  have hkW2 : Keep [] w W := hkW
  have hpl := h.blk.lt
  have k1 : Keep m.fp w w1 := (hkW2.mono (S' := m.fp) (by simp)).trans kg (fun b hb => .inl (by rw [← hv'] at hb; simp [Wk.fp] at hb ⊢; exact .inr (.inr hb)))
  have k3 : Keep [m.p] w1 ((w1.setCell ⟨m.p, 7, none⟩ (.slice A1 (m.got.length + 1) c1)).setCell ⟨m.p, 4, none⟩ (.int .i64 ((at_ : Int) + 1 + 1))) := ((Keep.refl _ _).set (by simp) _ _).set (by simp) _ _
  have hl4 := (hwm.lrow.keepB kg (fun b hb hm2 => by rw [← hv'] at hm2; simp at hm2; exact h.sep b hb hm2)).keepB k3 (fun b hb => by have := own_ne h.blk h.lrow (by decide) hb; simpa using this.symm)
  have hat2 : ∀ b, (Value.slice A1 (m.got ++ [u]).length c1).ownBlock = some b → m.gv.ownBlock = some b ∨ w.heap.size ≤ b := by
    intro b hb2
    rcases hat with h1 | ⟨q, h1, h2⟩
    · rw [h1, ← hv'] at hb2; exact .inl hb2
    · rw [hb2] at h1; injection h1 with h1; subst h1; exact .inr (by omega)
  have hg4 : Own .u64 22 _ 0 (.slice A1 (m.got ++ [u]).length c1) (m.got ++ [u]) := Own.keepB ho k3 (fun b hb2 => by
    intro hmp
    simp at hmp
    rcases hat2 b hb2 with h1 | h1
    · exact own_ne h.blk h.grow (by decide) h1 hmp.symm
    · omega)
  simp only [List.length_append, List.length_singleton] at hg4 hat2
  refine ⟨rfl, _, ⟨?_, hl4, hg4, h.lr, ?_, h.nr, ?_, by simp; have := hx.ll; omega, h.ll, by simp; omega⟩, hat2, k1.trans k3 (by simp [Wk.fp])⟩
  · have := (hb1.set 7 (.slice A1 (m.got.length + 1) c1)).set 4 (.int .i64 ((at_ : Int) + 1 + 1))
    simp only [List.setIfInBounds_toArray, List.set_cons_zero, List.set_cons_succ] at this
    rw [show ((m.moves + 1 : Nat) : Int) = (at_ : Int) + 1 + 1 by omega]
    exact this
  · intro y hy
    rcases List.mem_append.1 hy with h1 | h1
    · exact h.gr y h1
    · simp at h1; subst h1; exact hu
  · intro b hb2 hb3
    rcases hat2 b hb3 with h1 | h1
    · exact h.sep b hb2 h1
    · have := (h.lrow.lt hb2).2; omega

set_option maxRecDepth 100000 in
theorem kr_no (m : Wk) (x : Ce) (w : World) (h : WkAt w m) (hx : CeAt w x) (hA : m.apart x) (hm : m.moves = x.l.length + 1) (hh : x.h = true ∨ x.c ≠ m.seen) :
    Calls Try.prog 62 #[.pointer (some ⟨m.p, 0, none⟩), .pointer (some ⟨x.p, 0, none⟩)] w fun e w' => e = .returned (.int .i64 3) ∧ WkAt w' { m with moves := 0 } ∧ Keep [m.p] w w' := by
  have hc := h.blk.cell
  have hcx := hx.blk.cell
  have hf := h.blk.froz
  have hml := h.ml
  obtain ⟨A, cap, hv, hlc, hC, hb⟩ := hx.row.reads
  rw [hm] at hc
  rw [hv] at hcx
  have hne2 : x.p ≠ m.p := by have := hA m.p (by simp [Wk.fp]); simp [Ce.fp] at this; exact fun e => this.1 e.symm
  cases hhx : x.h
  all_goals
    rw [hhx] at hcx
    have hdd : x.h = false → (x.c != m.seen) = true := by intro h2; rw [h2] at hh; simp at hh; simpa using hh
    first | (have hd2 := hdd hhx) | skip
    clear hh hdd
    go_enter Try.func62, Try.ntmps62
    go_wp2_with fail
    go_quiet (fail)
    go_wp2_with fail
    go_ret
    have k2 : Keep [m.p] w ((w.drewN nq).setCell ⟨m.p, 4, none⟩ (.int .i64 0)) := ((Keep.refl _ _).drewN _).set (by simp) _ _
    exact ⟨rfl, h.turn k2 (by simpa using (h.blk.drewN nq).set 4 (.int .i64 0)) rfl ⟨rfl, rfl⟩ ⟨rfl, rfl⟩ rfl (by simp), k2⟩

set_option maxRecDepth 100000 in
theorem kr_done (m : Wk) (x : Ce) (w : World) (h : WkAt w m) (hx : CeAt w x) (hA : m.apart x) (hm : m.moves = x.l.length + 1) (hh : x.h = false) (hs : x.c = m.seen) :
    Calls Try.prog 62 #[.pointer (some ⟨m.p, 0, none⟩), .pointer (some ⟨x.p, 0, none⟩)] w fun e w' => e = .returned (.int .i64 2) ∧ WkAt w' { m with done := true } ∧ Keep [m.p] w w' := by
  have hc := h.blk.cell
  have hcx := hx.blk.cell
  have hf := h.blk.froz
  have hml := h.ml
  obtain ⟨A, cap, hv, hlc, hC, hb⟩ := hx.row.reads
  rw [hm] at hc
  rw [hv, hs, hh] at hcx
  have hd2 : (m.seen != m.seen) = false := by simp
  have hne2 : x.p ≠ m.p := by have := hA m.p (by simp [Wk.fp]); simp [Ce.fp] at this; exact fun e => this.1 e.symm
  go_enter Try.func62, Try.ntmps62
  go_wp2_with fail
  go_quiet (fail)
  go_wp2_with fail
  go_ret
  have k2 : Keep [m.p] w ((w.drewN nq).setCell ⟨m.p, 5, none⟩ (.bool true)) := ((Keep.refl _ _).drewN _).set (by simp) _ _
  exact ⟨rfl, h.turn k2 (by simpa [hm] using (h.blk.drewN nq).set 5 (.bool true)) rfl ⟨rfl, rfl⟩ ⟨rfl, rfl⟩ rfl hml, k2⟩
end Go.Proofs.Ytlgebknbfchnlaa

/- The document's Work, part 3: its Move, whole; Holds. -/
namespace Go.Proofs.Ytlgebknbfchnlaa
set_option linter.unusedVariables false
set_option linter.unusedSimpArgs false
open Go Go.RowKit Go.Hay Go.Proofs.YtlgebknbfchnlaaW.PrintWords

/-- What a move comes to (where its rows lie apart). -/
def Wk.step (m : Wk) (x : Ce) : Int × Wk × Ce :=
  if m.done = true then (2, m, x)
  else if m.reads = true then
    (if m.moves = 0 then (if x.h = true then (3, m, x) else (1, { m with seen := x.c, got := [], moves := 1 }, x))
     else if m.moves - 1 < x.l.length then (1, { m with got := m.got ++ [x.l.getD (m.moves - 1) 0], moves := m.moves + 1 }, x)
     else if x.h = true ∨ x.c ≠ m.seen then (3, { m with moves := 0 }, x) else (2, { m with done := true }, x))
  else if m.moves = 0 then (if x.h = true then (3, m, x) else (1, { m with moves := 1 }, { x with h := true }))
  else if m.adds = true ∧ m.moves = 1 then (1, { m with l := [IntKind.u64.wrap (x.l.getD 0 0 + m.n)], moves := 2 }, x)
  else if m.moves - (if m.adds = true then 2 else 1) < m.l.length then (1, { m with moves := m.moves + 1 }, { x with l := x.l.set (m.moves - (if m.adds = true then 2 else 1)) (m.l.getD (m.moves - (if m.adds = true then 2 else 1)) 0) })
  else (2, { m with done := true }, { x with h := false, c := (x.c + 1) % 4294967296 })

structure Wk.Fit (m : Wk) (x : Ce) : Prop where
  r1 : m.reads = true → m.moves ≤ x.l.length + 1
  r2 : m.got.length < 100
  a1 : m.adds = true → m.moves = 1 → 1 ≤ x.l.length
  w1 : m.reads = false → m.done = false → 0 < m.moves → ¬ (m.adds = true ∧ m.moves = 1) → m.l.length = x.l.length ∧ m.moves ≤ m.l.length + (if m.adds = true then 2 else 1)

theorem kmove_ok (m : Wk) (x : Ce) (w : World) (h : WkAt w m) (hx : CeAt w x) (hA : m.apart x) (hf : m.Fit x) :
    Calls Try.prog 23 #[.pointer (some ⟨m.p, 0, none⟩), .pointer (some ⟨x.p, 0, none⟩)] w fun e w' =>
      e = .returned (.int .i64 (m.step x).1) ∧ ∃ lv' gv', WkAt w' { (m.step x).2.1 with lv := lv', gv := gv' } ∧ (∀ g, lv'.ownBlock = some g ∨ gv'.ownBlock = some g → g ∈ m.fp ∨ w.heap.size ≤ g) ∧ CeAt w' (m.step x).2.2 ∧ Keep (m.fp ++ x.fp) w w' := by
  have own0 : ∀ g, m.lv.ownBlock = some g ∨ m.gv.ownBlock = some g → g ∈ m.fp ∨ w.heap.size ≤ g := by
    intro g hg
    left
    rcases hg with hg | hg <;> simp [Wk.fp, hg]
  have pm : ∀ b ∈ [m.p], b ∈ m.fp ++ x.fp ∨ w.heap.size ≤ b := by intro b hb; simp at hb; subst hb; left; simp [Wk.fp]
  have pmx : ∀ b ∈ [m.p, x.p], b ∈ m.fp ++ x.fp ∨ w.heap.size ≤ b := by
    intro b hb
    simp at hb
    rcases hb with rfl | rfl
    · left; simp [Wk.fp]
    · left; simp [Ce.fp]
  have offm : ∀ b ∈ x.fp, b ∉ [m.p] := by
    intro b hb hm
    simp at hm
    subst hm
    exact hA m.p (by simp [Wk.fp]) hb
  have offfp : ∀ b ∈ x.fp, b ∉ m.fp := fun b hb hm => hA b hm hb
  unfold Wk.step
  by_cases hd : m.done = true
  · rw [if_pos hd]
    exact (kdone m x w h hd).mono fun e w' ⟨h1, h2⟩ => by subst h2; exact ⟨h1, m.lv, m.gv, h, own0, hx, Keep.refl _ _⟩
  · rw [if_neg hd]
    have hd' : m.done = false := by simpa using hd
    by_cases hr : m.reads = true
    · rw [if_pos hr]
      by_cases h0 : m.moves = 0
      · rw [if_pos h0]
        by_cases hh : x.h = true
        · rw [if_pos hh]
          exact (kreads (Q := fun _ w' => w = w') m x w h hd' hr 3 ((kr_busy m x w h hx h0 hh).mono fun e w' ⟨h1, h2⟩ => ⟨h1, h2⟩)).mono fun e w' ⟨h1, h2⟩ => by subst h2; exact ⟨h1, m.lv, m.gv, h, own0, hx, Keep.refl _ _⟩
        · rw [if_neg hh]
          refine (kreads (Q := fun _ w' => ∃ v', WkAt w' { m with seen := x.c, got := [], moves := 1, gv := v' } ∧ (∀ g, v'.ownBlock = some g → w.heap.size ≤ g) ∧ Keep [m.p] w w') m x w h hd' hr 1 ((kr_look m x w h hx hA h0 (by simpa using hh)).mono fun e w' hq => hq)).mono ?_
          rintro e w' ⟨rfl, v', h1, h2, h3⟩
          refine ⟨rfl, m.lv, v', h1, ?_, hx.keep h3 offm, h3.mono pm⟩
          rintro g (hg | hg)
          · exact own0 g (.inl hg)
          · exact .inr (h2 g hg)
      · rw [if_neg h0]
        by_cases hl : m.moves - 1 < x.l.length
        · rw [if_pos hl]
          refine (kreads (Q := fun _ w' => ∃ v', WkAt w' { m with got := m.got ++ [x.l.getD (m.moves - 1) 0], moves := m.moves + 1, gv := v' } ∧ (∀ g, v'.ownBlock = some g → m.gv.ownBlock = some g ∨ w.heap.size ≤ g) ∧ Keep m.fp w w') m x w h hd' hr 1 ((kr_read m x (m.moves - 1) w h hx hA (by omega) hl hf.r2).mono fun e w' hq => hq)).mono ?_
          rintro e w' ⟨rfl, v', h1, h2, h3⟩
          refine ⟨rfl, m.lv, v', h1, ?_, hx.keep h3 offfp, h3.mono (fun b hb => .inl (List.mem_append_left _ hb))⟩
          rintro g (hg | hg)
          · exact own0 g (.inl hg)
          · rcases h2 g hg with h4 | h4
            · exact own0 g (.inr h4)
            · exact .inr h4
        · rw [if_neg hl]
          have hm : m.moves = x.l.length + 1 := by have := hf.r1 hr; omega
          by_cases hh : x.h = true ∨ x.c ≠ m.seen
          · rw [if_pos hh]
            refine (kreads (Q := fun _ w' => WkAt w' { m with moves := 0 } ∧ Keep [m.p] w w') m x w h hd' hr 3 ((kr_no m x w h hx hA hm hh).mono fun e w' hq => hq)).mono ?_
            rintro e w' ⟨rfl, h1, h3⟩
            exact ⟨rfl, m.lv, m.gv, h1, own0, hx.keep h3 offm, h3.mono pm⟩
          · rw [if_neg hh]
            simp only [not_or, Decidable.not_not] at hh
            refine (kreads (Q := fun _ w' => WkAt w' { m with done := true } ∧ Keep [m.p] w w') m x w h hd' hr 2 ((kr_done m x w h hx hA hm (by simpa using hh.1) hh.2).mono fun e w' hq => hq)).mono ?_
            rintro e w' ⟨rfl, h1, h3⟩
            exact ⟨rfl, m.lv, m.gv, h1, own0, hx.keep h3 offm, h3.mono pm⟩
    · rw [if_neg hr]
      have hr' : m.reads = false := by simpa using hr
      by_cases h0 : m.moves = 0
      · rw [if_pos h0]
        by_cases hh : x.h = true
        · rw [if_pos hh]
          exact (kbusy m x w h hx hd' hr' h0 hh).mono fun e w' ⟨h1, h2⟩ => by subst h2; exact ⟨h1, m.lv, m.gv, h, own0, hx, Keep.refl _ _⟩
        · rw [if_neg hh]
          refine (ktake m x w h hx hA hd' hr' h0 (by simpa using hh)).mono ?_
          rintro e w' ⟨rfl, h1, h2, h3⟩
          exact ⟨rfl, m.lv, m.gv, h1, own0, h2, h3.mono pmx⟩
      · rw [if_neg h0]
        by_cases ha : m.adds = true ∧ m.moves = 1
        · rw [if_pos ha]
          refine (kread m x w h hx hA hd' hr' ha.1 ha.2 (hf.a1 ha.1 ha.2)).mono ?_
          rintro e w' ⟨rfl, v', h1, h2, h3⟩
          refine ⟨rfl, v', m.gv, h1, ?_, hx.keep h3 offm, h3.mono pm⟩
          rintro g (hg | hg)
          · exact .inr (h2 g hg)
          · exact own0 g (.inr hg)
        · rw [if_neg ha]
          obtain ⟨hl1, hl2⟩ := hf.w1 hr' hd' (by omega) ha
          have hge : (if m.adds = true then 2 else 1) ≤ m.moves := by
            split
            · rename_i hq
              have : m.moves ≠ 1 := fun e => ha ⟨hq, e⟩
              omega
            · omega
          by_cases hl : m.moves - (if m.adds = true then 2 else 1) < m.l.length
          · rw [if_pos hl]
            refine (kwrite m x (m.moves - (if m.adds = true then 2 else 1)) w h hx hA hd' hr' (by omega) hl (by omega)).mono ?_
            rintro e w' ⟨rfl, h1, h2, h3⟩
            exact ⟨rfl, m.lv, m.gv, h1, own0, h2, h3.mono (fun b hb => by simp at hb; rcases hb with rfl | hb; exact pm _ (by simp); exact .inl (List.mem_append_right _ hb))⟩
          · rw [if_neg hl]
            refine (kend m x w h hx hA hd' hr' (by omega)).mono ?_
            rintro e w' ⟨rfl, h1, h2, h3⟩
            exact ⟨rfl, m.lv, m.gv, h1, own0, h2, h3.mono pmx⟩

def Wk.holds (m : Wk) : Bool := !m.reads && decide (0 < m.moves) && !m.done

set_option maxRecDepth 100000 in
theorem kholds_ok (m : Wk) (w : World) (h : WkAt w m) :
    Calls Try.prog 26 #[.pointer (some ⟨m.p, 0, none⟩)] w fun e w' => e = .returned (.bool m.holds) ∧ w = w' := by
  have hc := h.blk.cell
  have HE : Hid (m.holds = (!m.reads && decide (0 < m.moves) && !m.done)) := rfl
  generalize m.holds = H at *
  cases hr : m.reads <;> rw [hr] at hc HE
  · by_cases h0 : 0 < m.moves
    · have hd : decide ((0 : Int) < (m.moves : Int)) = true := by simp; omega
      cases hdn : m.done <;> rw [hdn] at hc HE
      all_goals
        go_enter Try.func26, Try.ntmps26
        go_wp2_with fail
        go_ret
        exact ⟨ret_bool (by rw [HE.out]; simp [h0]), rfl⟩
    · have hd : decide ((0 : Int) < (m.moves : Int)) = false := by simp; omega
      go_enter Try.func26, Try.ntmps26
      go_wp2_with fail
      go_ret
      exact ⟨ret_bool (by rw [HE.out]; simp [h0]), rfl⟩
  · go_enter Try.func26, Try.ntmps26
    go_wp2_with fail
    go_ret
    exact ⟨ret_bool (by rw [HE.out]; simp), rfl⟩
end Go.Proofs.Ytlgebknbfchnlaa

/- The plain law: whoever is at a record, the program's side and the document's move alike. No program in sight. -/
namespace Go.Proofs.Ytlgebknbfchnlaa
set_option linter.unusedVariables false
set_option linter.unusedSimpArgs false
open Go Go.RowKit Go.Hay Go.Proofs.YtlgebknbfchnlaaW.PrintWords

/-- Nothing stands behind n bytes. -/
def Zt (n : Nat) (l : List Int) : Prop := ∀ i, n ≤ i → i < 8 * l.length → byteAt l i = 0

theorem byteAt_set (l : List Int) (j : Nat) (u : Int) (i : Nat) : byteAt (l.set j u) i = if i / 8 = j ∧ j < l.length then u / 2 ^ (i % 8 * 8) % 256 else byteAt l i := by
  unfold byteAt
  rw [getD_set]
  by_cases h : j = i / 8 ∧ i / 8 < l.length
  · rw [if_pos h, if_pos ⟨h.1.symm, by omega⟩]
  · rw [if_neg h, if_neg (by rintro ⟨h1, h2⟩; exact h ⟨h1.symm, by omega⟩)]
theorem Zt.set {n : Nat} {l r : List Int} (h : Zt n l) (hr : Zt n r) (hl : l.length = r.length) (j : Nat) : Zt n (l.set j (r.getD j 0)) := by
  intro i h1 h2
  rw [List.length_set] at h2
  rw [byteAt_set]
  split
  · rename_i hc
    have := hr i h1 (by omega)
    unfold byteAt at this
    rw [← hc.1]
    exact this
  · exact h i h1 h2
theorem Zt.one {l : List Int} (hl : l.length ≤ 1) : Zt 8 l := by intro i h1 h2; omega
theorem Zt.nil (n : Nat) : Zt n [] := by intro i h1 h2; simp at h2
theorem Zt.snoc {n : Nat} {l V : List Int} (h : Zt n l) (hV : Zt n V) (hl : l.length < V.length) : Zt n (l ++ [V.getD l.length 0]) := by
  intro i h1 h2
  simp at h2
  unfold byteAt
  by_cases hc : i / 8 < l.length
  · rw [show (l ++ [V.getD l.length 0]).getD (i / 8) 0 = l.getD (i / 8) 0 by simp only [List.getD_eq_getElem?_getD]; rw [List.getElem?_append_left hc]]
    exact h i h1 (by omega)
  · have hi : i / 8 = l.length := by omega
    rw [show (l ++ [V.getD l.length 0]).getD (i / 8) 0 = V.getD (i / 8) 0 by rw [hi]; simp]
    exact hV i h1 (by omega)

/-- The shared words, on both sides. -/
structure Sh (x : Buf) (ce : Ce) (n : Nat) : Prop where
  sc : Sc x ce.h ce.c ce.l
  zt : Zt n ce.l
  len : ce.l.length = (n + 7) / 8
  n9 : n ≤ 128

structure SimW (r : Wr) (m : Wk) (ce : Ce) (n : Nat) : Prop where
  reads : m.reads = false
  adds : m.adds = r.add
  nn : m.n = r.n
  got : m.got = []
  len : r.l.length = ce.l.length
  zt : Zt n r.l
  addn : r.add = true → n = 8
  range : ∀ y ∈ r.l, U64 y
  st : (r.state = 0 ∧ m.moves = 0 ∧ m.done = false ∧ r.at_ = 0 ∧ (r.add = false → m.l = r.l)) ∨
    ((r.held = LK true ce.c ∧ ce.h = true ∧ m.done = false) ∧
      ((r.state = 1 ∧ r.add = true ∧ m.moves = 1 ∧ r.at_ = 0) ∨
       (r.state = 2 ∧ m.moves = r.at_ + (if r.add = true then 2 else 1) ∧ m.l = r.l ∧ r.at_ < ce.l.length) ∨
       (r.state = 3 ∧ m.moves = r.at_ + (if r.add = true then 2 else 1) ∧ m.l = r.l ∧ r.at_ = ce.l.length))) ∨
    (r.state = 4 ∧ m.done = true)

/-- What a writer's move leaves of the cells' places and of the lock. -/
structure Eff (ce ce' : Ce) (hold : Bool) : Prop where
  p : ce'.p = ce.p
  v : ce'.v = ce.v
  len : ce'.l.length = ce.l.length
  lock : (ce'.h = ce.h ∧ ce'.c = ce.c) ∨ (ce.h = false ∧ ce'.c = ce.c) ∨ hold = true

theorem simW_step {x : Buf} {ce : Ce} {n : Nat} {r : Wr} {m : Wk} (hs : Sh x ce n) (h : SimW r m ce n) :
    r.Fit x 2 5 ce.l.length ce.h ce.c ∧ m.Fit ce ∧ (r.step x 2 5 ce.l.length ce.h ce.c).1 = (m.step ce).1 ∧
    Sh (r.step x 2 5 ce.l.length ce.h ce.c).2.1 (m.step ce).2.2 n ∧ SimW (r.step x 2 5 ce.l.length ce.h ce.c).2.2 (m.step ce).2.1 (m.step ce).2.2 n ∧
    Eff ce (m.step ce).2.2 r.holds := by
  have hl := hs.len
  have hl9 := hs.sc.len
  have hadd1 : r.add = true → ce.l.length = 1 := fun ha => by have := h.addn ha; omega
  have e0 : Eff ce ce r.holds := ⟨rfl, rfl, rfl, .inl ⟨rfl, rfl⟩⟩
  have c0 := hs.sc.c0
  have c1 := hs.sc.c1
  have hfit : r.Fit x 2 5 ce.l.length ce.h ce.c := by
    refine hs.sc.fit ?_ ?_ ?_
    · intro h1
      rcases h.st with h2 | ⟨_, h2 | h2 | h2⟩ | h2
      · omega
      · have := hadd1 h2.2.1; have := h.len; omega
      · omega
      · omega
      · omega
    · intro h1
      rcases h.st with h2 | ⟨_, h2 | h2 | h2⟩ | h2
      · omega
      · omega
      · have := h.len; omega
      · omega
      · omega
    · intro h1
      rcases h.st with h2 | ⟨h3, h2 | h2 | h2⟩ | h2
      · omega
      · omega
      · omega
      · exact h3.1
      · omega
  have hmf : m.Fit ce := by
    refine ⟨fun hr => by rw [h.reads] at hr; simp at hr, by rw [h.got]; simp, fun ha _ => by rw [h.adds] at ha; have := hadd1 ha; omega, fun _ hd h0 hna => ?_⟩
    rw [h.adds] at hna ⊢
    rcases h.st with h2 | ⟨_, h2 | h2 | h2⟩ | h2
    · omega
    · exact absurd ⟨h2.2.1, h2.2.2.1⟩ hna
    · rw [h2.2.2.1, h.len]; omega
    · rw [h2.2.2.1, h.len]; omega
    · rw [h2.2] at hd; simp at hd
  refine ⟨hfit, hmf, ?_⟩
  rcases h.st with ⟨h1, h2, h3, h4, h5⟩ | ⟨⟨hh1, hh2, hh3⟩, ⟨h1, h2, h3, h4⟩ | ⟨h1, h2, h3, h4⟩ | ⟨h1, h2, h3, h4⟩⟩ | ⟨h1, h2⟩
  · unfold Wr.step Wk.step
    rw [if_pos h1, if_neg (show ¬ m.done = true by simp [h3]), if_neg (show ¬ m.reads = true by simp [h.reads]), if_pos h2]
    by_cases hhh : ce.h = true
    · rw [if_pos hhh, if_pos hhh]
      exact ⟨rfl, hs, h, e0⟩
    · rw [if_neg hhh, if_neg hhh]
      have hh : ce.h = false := by simpa using hhh
      refine ⟨rfl, ⟨hs.sc.put_lock true c0 c1, hs.zt, hs.len, hs.n9⟩, ⟨h.reads, h.adds, h.nn, h.got, h.len, h.zt, h.addn, h.range, .inr (.inl ⟨⟨rfl, rfl, h3⟩, ?_⟩)⟩, ⟨rfl, rfl, rfl, .inr (.inl ⟨hh, rfl⟩)⟩⟩
      by_cases ha : r.add = true
      · left
        exact ⟨by simp [Wr.nextS, ha], ha, rfl, h4⟩
      · have ha' : r.add = false := by simpa using ha
        right
        by_cases hz : ce.l.length = 0
        · right
          refine ⟨by simp [Wr.nextS, ha', h4, hz], by simp [ha', h4], h5 ha', by simp [h4, hz]⟩
        · left
          refine ⟨by simp [Wr.nextS, ha', h4]; intro hq; rw [hq] at hz; simp at hz, by simp [ha', h4], h5 ha', by simp only [h4]; omega⟩
  · unfold Wr.step Wk.step
    have hone := hadd1 h2
    have hat : x.at_ 5 = ce.l.getD 0 0 := by have := hs.sc.at_val (j := 0) (by omega); simpa using this
    rw [if_neg (show ¬ r.state = 0 by omega), if_pos h1, if_neg (show ¬ m.done = true by simp [hh3]), if_neg (show ¬ m.reads = true by simp [h.reads]), if_neg (show ¬ m.moves = 0 by omega), if_pos (show m.adds = true ∧ m.moves = 1 from ⟨by rw [h.adds]; exact h2, h3⟩)]
    have hset : r.l.set 0 (IntKind.u64.wrap (x.at_ 5 + r.n)) = [IntKind.u64.wrap (ce.l.getD 0 0 + m.n)] := by
      obtain ⟨a, ha⟩ := List.length_eq_one_iff.1 (show r.l.length = 1 by rw [h.len]; exact hone)
      rw [ha, hat, h.nn]; rfl
    refine ⟨rfl, hs, ⟨h.reads, h.adds, h.nn, h.got, by simpa using h.len, ?_, h.addn, ?_, .inr (.inl ⟨⟨hh1, hh2, hh3⟩, .inr (.inl ⟨?_, ?_, ?_, ?_⟩)⟩)⟩, e0⟩
    · rw [h.addn h2]; exact Zt.one (by rw [hset]; simp)
    · rw [hset]; intro y hy; simp at hy; subst hy; exact wrap_U64 _
    · simp [Wr.nextS, h4, hone]
    · simp [h4, h2]
    · exact hset.symm
    · simp [h4, hone]
  · unfold Wr.step Wk.step
    have hk : m.moves - (if m.adds = true then 2 else 1) = r.at_ := by rw [h.adds]; omega
    have hge : (if m.adds = true then 2 else 1) ≤ m.moves := by rw [h.adds]; omega
    have hp : 1 ≤ (if m.adds = true then 2 else 1) := by split <;> omega
    rw [if_neg (show ¬ r.state = 0 by omega), if_neg (show ¬ r.state = 1 by omega), if_pos h1, if_neg (show ¬ m.done = true by simp [hh3]), if_neg (show ¬ m.reads = true by simp [h.reads]), if_neg (show ¬ m.moves = 0 by omega), if_neg (show ¬ (m.adds = true ∧ m.moves = 1) by rintro ⟨h6, h7⟩; rw [h6] at hge; simp at hge; omega), hk, if_pos (show r.at_ < m.l.length by rw [h3, h.len]; exact h4)]
    rw [h3]
    have hu : U64 (r.l.getD r.at_ 0) := h.range _ (getD_mem (by rw [h.len]; exact h4))
    refine ⟨rfl, ⟨hs.sc.put_val h4 hu, hs.zt.set h.zt h.len.symm _, by simpa using hs.len, hs.n9⟩, ⟨h.reads, h.adds, h.nn, h.got, by simpa using h.len, h.zt, h.addn, h.range, .inr (.inl ⟨⟨hh1, hh2, hh3⟩, .inr ?_⟩)⟩, ⟨rfl, rfl, by simp, .inl ⟨rfl, rfl⟩⟩⟩
    by_cases hz : r.at_ + 1 < ce.l.length
    · left
      exact ⟨by simp [Wr.nextS]; omega, by simp; omega, rfl, by simpa using hz⟩
    · right
      exact ⟨by simp [Wr.nextS]; omega, by simp; omega, rfl, by simp; omega⟩
  · unfold Wr.step Wk.step
    have hk : m.moves - (if m.adds = true then 2 else 1) = r.at_ := by rw [h.adds]; omega
    have hge : (if m.adds = true then 2 else 1) ≤ m.moves := by rw [h.adds]; omega
    have hp : 1 ≤ (if m.adds = true then 2 else 1) := by split <;> omega
    rw [if_neg (show ¬ r.state = 0 by omega), if_neg (show ¬ r.state = 1 by omega), if_neg (show ¬ r.state = 2 by omega), if_pos h1, if_neg (show ¬ m.done = true by simp [hh3]), if_neg (show ¬ m.reads = true by simp [h.reads]), if_neg (show ¬ m.moves = 0 by omega), if_neg (show ¬ (m.adds = true ∧ m.moves = 1) by rintro ⟨h6, h7⟩; rw [h6] at hge; simp at hge; omega), hk, if_neg (show ¬ r.at_ < m.l.length by rw [h3, h.len]; omega)]
    refine ⟨rfl, ⟨hs.sc.put_lock false (by omega) (by omega), hs.zt, hs.len, hs.n9⟩, ⟨h.reads, h.adds, h.nn, h.got, h.len, h.zt, h.addn, h.range, .inr (.inr ⟨rfl, rfl⟩)⟩, ⟨rfl, rfl, rfl, .inr (.inr ?_)⟩⟩
    simp [Wr.holds, h1]
  · unfold Wr.step Wk.step
    rw [if_neg (show ¬ r.state = 0 by omega), if_neg (show ¬ r.state = 1 by omega), if_neg (show ¬ r.state = 2 by omega), if_neg (show ¬ r.state = 3 by omega), if_pos h2]
    exact ⟨rfl, hs, h, e0⟩
end Go.Proofs.Ytlgebknbfchnlaa

/- The plain law, part 2: readers. -/
namespace Go.Proofs.Ytlgebknbfchnlaa
set_option linter.unusedVariables false
set_option linter.unusedSimpArgs false
open Go Go.RowKit Go.Hay Go.Proofs.YtlgebknbfchnlaaW.PrintWords

structure SimR (r : Rd) (m : Wk) (ce : Ce) (n : Nat) : Prop where
  reads : m.reads = true
  adds : m.adds = false
  rn : r.n = n
  range : ∀ y ∈ r.l, U64 y
  st : (r.state = 0 ∧ m.moves = 0 ∧ m.done = false ∧ r.val = ⟨#[]⟩ ∧ r.l.length ≤ ce.l.length ∧ m.got.length ≤ ce.l.length) ∨
    (r.state = 1 ∧ m.moves = r.l.length + 1 ∧ m.done = false ∧ r.val = ⟨#[]⟩ ∧ r.l.length ≤ ce.l.length ∧ m.got = r.l ∧ m.seen = r.seen ∧ 0 ≤ r.seen ∧ r.seen < 4294967296 ∧ Zt n r.l) ∨
    (r.state = 4 ∧ m.done = true ∧ r.val = strOfNums (bytesL r.l n) ∧ r.l.length = ce.l.length ∧ m.got = r.l ∧ Zt n r.l ∧ m.moves = ce.l.length + 1)

theorem lk_eq_seen {h : Bool} {c s : Int} (h0 : 0 ≤ c) (s1 : s < 4294967296) : LK h c = s ↔ ¬ (h = true ∨ c ≠ s) := by
  unfold LK
  cases h <;> simp <;> omega

theorem simR_step {x : Buf} {ce : Ce} {n : Nat} {r : Rd} {m : Wk} (hs : Sh x ce n) (h : SimR r m ce n) :
    r.Fit x 2 5 ce.l.length ce.h ce.c ∧ m.Fit ce ∧ (r.step x 5 ce.l.length ce.h ce.c).1 = (m.step ce).1 ∧ (m.step ce).2.2 = ce ∧
    SimR (r.step x 5 ce.l.length ce.h ce.c).2 (m.step ce).2.1 ce n := by
  have hl := hs.len
  have hl9 := hs.sc.len
  have c0 := hs.sc.c0
  have c1 := hs.sc.c1
  have hle : r.l.length ≤ ce.l.length := by rcases h.st with h1 | h1 | h1 <;> omega
  have hgl : m.got.length ≤ ce.l.length := by
    rcases h.st with h1 | h1 | h1
    · omega
    · rw [h1.2.2.2.2.2.1]; exact hle
    · rw [h1.2.2.2.2.1]; exact hle
  refine ⟨⟨hs.sc.at_lock, c0, c1, by omega, hs.sc.ain (by omega) (by omega), by omega, by omega, fun j hj => hs.sc.ain (by omega) (by omega), by omega, by rw [h.rn]; exact hl, hle, ?_⟩, ?_, ?_⟩
  · intro h1 _ _
    rw [h.rn]
    rcases h.st with h2 | h2 | h2
    · omega
    · exact h2.2.2.2.2.2.2.2.2.2
    · omega
  · refine ⟨fun _ => ?_, by omega, fun h1 => by rw [h.adds] at h1; simp at h1, fun h1 => by rw [h.reads] at h1; simp at h1⟩
    rcases h.st with h2 | h2 | h2
    · omega
    · omega
    · omega
  rcases h.st with ⟨h1, h2, h3, h4, h5, h6⟩ | ⟨h1, h2, h3, h4, h5, h6, h7, h8, h9, h10⟩ | ⟨h1, h2, h3, h4, h5, h6, h7⟩
  · unfold Rd.step Wk.step
    rw [if_pos h1, if_neg (show ¬ m.done = true by simp [h3]), if_pos h.reads, if_pos h2]
    by_cases hhh : ce.h = true
    · rw [if_pos hhh, if_pos hhh]
      exact ⟨rfl, rfl, h⟩
    · rw [if_neg hhh, if_neg hhh]
      exact ⟨rfl, rfl, ⟨h.reads, h.adds, h.rn, by simp, .inr (.inl ⟨rfl, by simp, h3, h4, by simp, rfl, rfl, c0, c1, Zt.nil n⟩)⟩⟩
  · unfold Rd.step Wk.step
    rw [if_neg (show ¬ r.state = 0 by omega), if_pos h1, if_neg (show ¬ m.done = true by simp [h3]), if_pos h.reads, if_neg (show ¬ m.moves = 0 by omega)]
    have hm1 : m.moves - 1 = r.l.length := by omega
    rw [hm1]
    by_cases hlt : r.l.length < ce.l.length
    · rw [if_pos hlt, if_pos hlt]
      have hat := hs.sc.at_val hlt
      refine ⟨rfl, rfl, ⟨h.reads, h.adds, h.rn, ?_, .inr (.inl ⟨h1, by simp; omega, h3, h4, by simp; omega, ?_, h7, h8, h9, ?_⟩)⟩⟩
      · intro y hy
        rcases List.mem_append.1 hy with hq | hq
        · exact h.range y hq
        · simp at hq; subst hq; exact hs.sc.u64 _
      · show m.got ++ _ = r.l ++ _
        rw [h6, hat]
      · show Zt n (r.l ++ _)
        rw [hat]
        exact h10.snoc hs.zt hlt
    · rw [if_neg hlt, if_neg hlt]
      by_cases he : LK ce.h ce.c = r.seen
      · have hne := (lk_eq_seen c0 h9).1 he
        rw [if_pos he, if_neg (show ¬ (ce.h = true ∨ ce.c ≠ m.seen) by rw [h7]; exact hne)]
        exact ⟨rfl, rfl, ⟨h.reads, h.adds, h.rn, h.range, .inr (.inr ⟨rfl, rfl, by rw [h.rn], by show r.l.length = _; omega, h6, h10, by show m.moves = _; omega⟩)⟩⟩
      · have hne : ce.h = true ∨ ce.c ≠ r.seen := by
          by_cases hq : ce.h = true ∨ ce.c ≠ r.seen
          · exact hq
          · exact absurd ((lk_eq_seen c0 h9).2 hq) he
        rw [if_neg he, if_pos (show ce.h = true ∨ ce.c ≠ m.seen by rw [h7]; exact hne)]
        exact ⟨rfl, rfl, ⟨h.reads, h.adds, h.rn, h.range, .inl ⟨rfl, rfl, h3, h4, h5, hgl⟩⟩⟩
  · unfold Rd.step Wk.step
    rw [if_neg (show ¬ r.state = 0 by omega), if_neg (show ¬ r.state = 1 by omega), if_pos h2]
    exact ⟨rfl, rfl, h⟩
end Go.Proofs.Ytlgebknbfchnlaa

/- law18's scene: whoever is at a record, with owners' tags; its helpers. -/
namespace Go.Proofs.Ytlgebknbfchnlaa
set_option linter.unusedVariables false
set_option linter.unusedSimpArgs false
open Go Go.RowKit Go.Hay Go.Proofs.YtlgebknbfchnlaaW.PrintWords

/-! ### rows of pointers -/
def encP (o : Option Nat) : Value := .pointer (o.map fun b => ⟨b, 0, none⟩)
def OwnP (T : Nat) (w : World) (v : Value) (xs : List (Option Nat)) : Prop := (Kd.scalar encP (fun _ => rfl)).R T w 0 (fun _ => True) v xs
theorem OwnP.row {T : Nat} {w : World} {v : Value} {xs : List (Option Nat)} (h : OwnP T w v xs) : w.ownsRow 0 T 1 v xs.length (xs.map encP) := Kd.own_of_R h
theorem OwnP.of_row {T : Nat} {w : World} {v : Value} {xs : List (Option Nat)} (h : w.ownsRow 0 T 1 v xs.length (xs.map encP)) : OwnP T w v xs := Kd.R_of_own h (fun _ _ => trivial)
theorem OwnP.keepB {T : Nat} {w w' : World} {v : Value} {xs : List (Option Nat)} {S : List Nat} (h : OwnP T w v xs) (kp : Keep S w w') (hS : ∀ g, v.ownBlock = some g → g ∉ S) : OwnP T w' v xs :=
  OwnP.of_row (own_move h.row (fun b hb => kp.block b (own_lt h.row b hb) (hS b hb)))
theorem OwnP.lt {T : Nat} {w : World} {v : Value} {xs : List (Option Nat)} (h : OwnP T w v xs) {g : Nat} (hg : v.ownBlock = some g) : g < w.heap.size := own_lt h.row g hg
theorem OwnP.slice {T : Nat} {w : World} {v : Value} {xs : List (Option Nat)} (h : OwnP T w v xs) : ∃ A c, v = .slice A xs.length c ∧ xs.length ≤ c := by
  obtain ⟨A, c, h1, h2, _⟩ := Kd.R_reads h
  exact ⟨A, c, h1, h2⟩
theorem OwnP.at_ {T : Nat} {w : World} {v : Value} {xs : List (Option Nat)} (h : OwnP T w v xs) {j : Nat} (hj : j < xs.length) : ∃ g c, v = .slice (some ⟨g, 0, none⟩) xs.length c ∧ v.ownBlock = some g ∧ w.cell? ⟨g, j, none⟩ = some (encP (xs.getD j none)) := by
  have hr := h.row
  rcases hr with ⟨hl, ⟨_, h0⟩ | ⟨g, cap, cur, rfl, hg, hh, h1, h2, h3, h4⟩⟩
  · omega
  · obtain ⟨hc, _⟩ := Kd.R_celln none h (j : Int) (by omega) (by omega)
    exact ⟨g, cap, rfl, rfl, by simpa [rdOf] using hc⟩

/-! ### players -/
structure Pl where
  isR : Bool
  wr : Wr
  rd : Rd
  m : Wk
def Pl.fp (p : Pl) : List Nat := if p.isR then p.rd.fp else p.wr.fp
def Pl.holds (p : Pl) : Bool := if p.isR then false else p.wr.holds

/-- The program's part of a player, and that it is where the document's is. -/
structure PrAt (w : World) (x : Buf) (ce : Ce) (n : Nat) (p : Pl) : Prop where
  r : p.isR = true → RdAt w x.b 2 5 ce.l.length p.rd ∧ SimR p.rd p.m ce n
  w : p.isR = false → WrAt w x.b 2 5 ce.l.length p.wr ∧ SimW p.wr p.m ce n

theorem PrAt.keep {S : List Nat} {w w' : World} {x : Buf} {ce : Ce} {n : Nat} {p : Pl} (h : PrAt w x ce n p) (k : Keep S w w') (h1 : ∀ g ∈ p.fp, g ∉ S) : PrAt w' x ce n p := by
  unfold Pl.fp at h1
  refine ⟨fun hr => ?_, fun hr => ?_⟩
  · rw [if_pos hr] at h1
    exact ⟨(h.r hr).1.keep k h1, (h.r hr).2⟩
  · rw [if_neg (by simp [hr])] at h1
    exact ⟨(h.w hr).1.keep k h1, (h.w hr).2⟩
theorem PrAt.lt {w : World} {x : Buf} {ce : Ce} {n : Nat} {p : Pl} (h : PrAt w x ce n p) : ∀ g ∈ p.fp, g < w.heap.size := by
  unfold Pl.fp
  cases hr : p.isR with
  | true => rw [if_pos rfl]; exact (h.r hr).1.lt
  | false => rw [if_neg (by simp)]; exact (h.w hr).1.lt

/-- The program's side of the scene; o tells whose a block is. -/
structure ScP (w : World) (o : Nat → Nat) (x : Buf) (ce : Ce) (n : Nat) (P : List Pl) : Prop where
  buf : BufAt w x
  sh : Sh x ce n
  bo : ∀ g ∈ x.all, o g = 1
  pls : ∀ (i : Nat) (p : Pl), P[i]? = some p → PrAt w x ce n p ∧ ∀ g ∈ p.fp, o g = 3 + 2 * i
  uniq : ∀ (i j : Nat) (p q : Pl), P[i]? = some p → P[j]? = some q → p.holds = true → q.holds = true → i = j

/-- The document's side. -/
structure ScD (w : World) (o : Nat → Nat) (ce : Ce) (M : List Wk) : Prop where
  cel : CeAt w ce
  co : ∀ g ∈ ce.fp, o g = 2
  ms : ∀ (i : Nat) (m : Wk), M[i]? = some m → WkAt w m ∧ ∀ g ∈ m.fp, o g = 4 + 2 * i

theorem ScD.keep {S : List Nat} {w w' : World} {o o' : Nat → Nat} {ce : Ce} {M : List Wk} (h : ScD w o ce M) (k : Keep S w w') (hS : ∀ g ∈ S, o g ≠ 2 ∧ ∀ i, o g ≠ 4 + 2 * i) (ho : ∀ g, g < w.heap.size → o' g = o g) : ScD w' o' ce M := by
  refine ⟨h.cel.keep k (fun g hg hm => (hS g hm).1 (h.co g hg)), fun g hg => by rw [ho g (h.cel.lt g hg)]; exact h.co g hg, fun i m hm => ?_⟩
  obtain ⟨h1, h2⟩ := h.ms i m hm
  exact ⟨h1.keep k (fun g hg hq => (hS g hq).2 i (h2 g hg)), fun g hg => by rw [ho g (h1.lt g hg)]; exact h2 g hg⟩
theorem ScP.keep {S : List Nat} {w w' : World} {o o' : Nat → Nat} {x : Buf} {ce : Ce} {n : Nat} {P : List Pl} (h : ScP w o x ce n P) (k : Keep S w w') (hS : ∀ g ∈ S, o g ≠ 1 ∧ ∀ i, o g ≠ 3 + 2 * i) (ho : ∀ g, g < w.heap.size → o' g = o g) : ScP w' o' x ce n P := by
  refine ⟨h.buf.keep k (fun g hg hm => (hS g hm).1 (h.bo g hg)), h.sh, fun g hg => by rw [ho g (h.buf.lt g hg)]; exact h.bo g hg, fun i p hp => ?_, h.uniq⟩
  obtain ⟨h1, h2⟩ := h.pls i p hp
  exact ⟨h1.keep k (fun g hg hq => (hS g hq).2 i (h2 g hg)), fun g hg => by rw [ho g (h1.lt g hg)]; exact h2 g hg⟩

theorem SimW.holder {r : Wr} {m : Wk} {ce : Ce} {n : Nat} (h : SimW r m ce n) (hh : r.holds = true) : ce.h = true := by
  simp [Wr.holds] at hh
  rcases h.st with h1 | ⟨h1, _⟩ | h1
  · omega
  · exact h1.2.1
  · omega
/-- A player that has not moved is where it was, in the new cells. -/
theorem SimW.other {r : Wr} {m : Wk} {ce ce' : Ce} {n : Nat} (h : SimW r m ce n) (hl : ce'.l.length = ce.l.length) (hk : r.holds = true → ce'.h = ce.h ∧ ce'.c = ce.c) : SimW r m ce' n := by
  refine ⟨h.reads, h.adds, h.nn, h.got, by rw [hl]; exact h.len, h.zt, h.addn, h.range, ?_⟩
  rcases h.st with h1 | ⟨h1, h2⟩ | h1
  · exact .inl h1
  · have hh : r.holds = true := by simp [Wr.holds]; omega
    obtain ⟨e1, e2⟩ := hk hh
    refine .inr (.inl ⟨by rw [e1, e2]; exact h1, ?_⟩)
    rw [hl]
    exact h2
  · exact .inr (.inr h1)
theorem SimR.other {r : Rd} {m : Wk} {ce ce' : Ce} {n : Nat} (h : SimR r m ce n) (hl : ce'.l.length = ce.l.length) : SimR r m ce' n :=
  ⟨h.reads, h.adds, h.rn, h.range, by rw [hl]; exact h.st⟩
end Go.Proofs.Ytlgebknbfchnlaa

/- law18's scene, part 2: a move on the program's side. -/
namespace Go.Proofs.Ytlgebknbfchnlaa
set_option linter.unusedVariables false
set_option linter.unusedSimpArgs false
open Go Go.RowKit Go.Hay Go.Proofs.YtlgebknbfchnlaaW.PrintWords

theorem wstep_buf (r : Wr) (x : Buf) (lk va : Int) (nw : Nat) (h : Bool) (c : Int) : (r.step x lk va nw h c).2.1.b = x.b ∧ (r.step x lk va nw h c).2.1.all = x.all ∧ (r.step x lk va nw h c).2.2.fp = r.fp ∧ (r.step x lk va nw h c).2.2.p = r.p := by
  unfold Wr.step
  split <;> (try split) <;> (try split) <;> (try split) <;> (try split) <;> exact ⟨rfl, rfl, rfl, rfl⟩
theorem wstep_holds (r : Wr) (x : Buf) (lk va : Int) (nw : Nat) (h : Bool) (c : Int) (hh : (r.step x lk va nw h c).2.2.holds = true) : r.holds = true ∨ h = false := by
  by_cases h0 : r.state = 0
  · cases h with
    | false => exact .inr rfl
    | true =>
      unfold Wr.step at hh
      rw [if_pos h0, if_pos rfl] at hh
      exact .inl hh
  · by_cases h4 : r.state < 4
    · left; simp [Wr.holds]; omega
    · unfold Wr.step at hh
      rw [if_neg h0, if_neg (show ¬ r.state = 1 by omega), if_neg (show ¬ r.state = 2 by omega), if_neg (show ¬ r.state = 3 by omega)] at hh
      exact .inl hh

theorem set_get {α : Type} {l : List α} {i j : Nat} {a b : α} (h : (l.set i a)[j]? = some b) : (j = i ∧ b = a ∧ i < l.length) ∨ (j ≠ i ∧ l[j]? = some b) := by
  rw [List.getElem?_set] at h
  split at h
  · rename_i hij
    split at h
    · simp at h; exact .inl ⟨hij.symm, h.symm, by assumption⟩
    · simp at h
  · rename_i hij
    exact .inr ⟨fun e => hij e.symm, h⟩

/-- A writer of the scene moves. -/
theorem scp_move_w {w : World} {o : Nat → Nat} {x : Buf} {ce : Ce} {n : Nat} {P : List Pl} (h : ScP w o x ce n P) {i : Nat} {p : Pl} (hp : P[i]? = some p) (hr : p.isR = false) :
    Calls Try.prog 15 #[.pointer (some ⟨p.wr.p, 0, none⟩)] w fun e w' => e = .returned (.tuple #[.int .i64 (p.m.step ce).1, .int .i64 0]) ∧
      ∃ (x' : Buf) (r' : Wr), x'.b = x.b ∧ r'.p = p.wr.p ∧ (∀ a b, ScP w' o x' (p.m.step ce).2.2 n (P.set i { p with wr := r', m := { (p.m.step ce).2.1 with lv := a, gv := b } })) ∧ ∃ S, Keep S w w' ∧ ∀ g ∈ S, o g = 1 ∨ o g = 3 + 2 * i := by
  obtain ⟨hpr, hpo⟩ := h.pls i p hp
  obtain ⟨hw, hsim⟩ := hpr.w hr
  have hfp : p.fp = p.wr.fp := by unfold Pl.fp; rw [if_neg (by simp [hr])]
  rw [hfp] at hpo
  obtain ⟨hfit, _, hv, hsh, hsim', heff⟩ := simW_step h.sh hsim
  have hA : p.wr.apart x := fun g hg hm => by have := hpo g hg; have := h.bo g hm; omega
  obtain ⟨e1, e2, e3, e4⟩ := wstep_buf p.wr x 2 5 ce.l.length ce.h ce.c
  have hh := wstep_holds p.wr x 2 5 ce.l.length ce.h ce.c
  refine (wmove_ok x 2 5 ce.l.length p.wr ce.h ce.c w h.buf hw hA hfit).mono ?_
  rintro e w' ⟨rfl, hb, hw', hk⟩
  rw [hv]
  generalize (p.wr.step x 2 5 ce.l.length ce.h ce.c).2.1 = x' at *
  generalize (p.wr.step x 2 5 ce.l.length ce.h ce.c).2.2 = r' at *
  have hS : ∀ g ∈ p.wr.fp ++ [x.R, x.C], o g = 1 ∨ o g = 3 + 2 * i := by
    intro g hg
    rcases List.mem_append.1 hg with hg | hg
    · exact .inr (hpo g hg)
    · left
      simp at hg
      rcases hg with rfl | rfl
      · exact h.bo _ (by simp [Buf.all, Buf.fp])
      · exact h.bo _ (by simp [Buf.all, Buf.fp])
  refine ⟨rfl, x', r', e1, e4, fun a b => ?_, _, hk, hS⟩
  refine ⟨hb, hsh, by rw [e2]; exact h.bo, ?_, ?_⟩
  · intro j q hq
    rcases set_get hq with ⟨rfl, rfl, _⟩ | ⟨hj, hq⟩
    · refine ⟨⟨fun hr' => by rw [hr] at hr'; simp at hr', fun _ => ⟨by rw [e1, heff.len]; exact hw', ⟨hsim'.reads, hsim'.adds, hsim'.nn, hsim'.got, hsim'.len, hsim'.zt, hsim'.addn, hsim'.range, hsim'.st⟩⟩⟩, ?_⟩
      intro g hg
      unfold Pl.fp at hg
      rw [if_neg (by simp [hr])] at hg
      exact hpo g (by rw [← e3]; exact hg)
    · obtain ⟨hqp, hqo⟩ := h.pls j q hq
      have hqk := hqp.keep hk (fun g hg hm => by
        have := hqo g hg
        rcases hS g hm with h1 | h1 <;> omega)
      refine ⟨⟨fun hr' => ⟨by rw [e1, heff.len]; exact (hqk.r hr').1, (hqk.r hr').2.other heff.len⟩, fun hr' => ⟨by rw [e1, heff.len]; exact (hqk.w hr').1, (hqk.w hr').2.other heff.len ?_⟩⟩, hqo⟩
      intro hqh
      have hce := (hqk.w hr').2.holder hqh
      rcases heff.lock with h1 | ⟨h1, _⟩ | h1
      · exact h1
      · rw [hce] at h1; simp at h1
      · have := h.uniq i j p q hp hq (by unfold Pl.holds; rw [if_neg (by simp [hr])]; exact h1) (by unfold Pl.holds; rw [if_neg (by simp [hr'])]; exact hqh)
        omega
  · have key : ∀ (j : Nat) (q : Pl), j ≠ i → P[j]? = some q → q.holds = true → r'.holds = true → False := by
      intro j q hj hq hqh hrh
      have hqr : q.isR = false := by
        cases hqi : q.isR with
        | false => rfl
        | true => unfold Pl.holds at hqh; rw [if_pos hqi] at hqh; simp at hqh
      have hqh2 : q.wr.holds = true := by unfold Pl.holds at hqh; rw [if_neg (by simp [hqr])] at hqh; exact hqh
      obtain ⟨hqp, _⟩ := h.pls j q hq
      have hce := (hqp.w hqr).2.holder hqh2
      rcases hh hrh with h1 | h1
      · have := h.uniq i j p q hp hq (by unfold Pl.holds; rw [if_neg (by simp [hr])]; exact h1) hqh
        omega
      · rw [hce] at h1; simp at h1
    intro j k q s hq hs hqh hsh2
    rcases set_get hq with ⟨rfl, rfl, _⟩ | ⟨hj, hq2⟩
    · rcases set_get hs with ⟨rfl, rfl, _⟩ | ⟨hk2, hs⟩
      · rfl
      · exact (key k s hk2 hs hsh2 (by unfold Pl.holds at hqh; rw [if_neg (by simp [hr])] at hqh; exact hqh)).elim
    · rcases set_get hs with ⟨rfl, rfl, _⟩ | ⟨hk2, hs⟩
      · exact (key j q hj hq2 hqh (by unfold Pl.holds at hsh2; rw [if_neg (by simp [hr])] at hsh2; exact hsh2)).elim
      · exact h.uniq j k q s hq2 hs hqh hsh2

/-- A reader of the scene moves. -/
theorem scp_move_r {w : World} {o : Nat → Nat} {x : Buf} {ce : Ce} {n : Nat} {P : List Pl} (h : ScP w o x ce n P) {i : Nat} {p : Pl} (hp : P[i]? = some p) (hr : p.isR = true) :
    Calls Try.prog 17 #[.pointer (some ⟨p.rd.p, 0, none⟩)] w fun e w' => e = .returned (.tuple #[.int .i64 (p.m.step ce).1, .int .i64 0]) ∧ (p.m.step ce).2.2 = ce ∧
      ∃ (r' : Rd), r'.p = p.rd.p ∧ (∀ a b, ScP w' (fun g => if g < w.heap.size then o g else 3 + 2 * i) x ce n (P.set i { p with rd := r', m := { (p.m.step ce).2.1 with lv := a, gv := b } })) ∧ ∃ S, Keep S w w' ∧ ∀ g ∈ S, o g = 3 + 2 * i := by
  obtain ⟨hpr, hpo⟩ := h.pls i p hp
  obtain ⟨hw, hsim⟩ := hpr.r hr
  have hfp : p.fp = p.rd.fp := by unfold Pl.fp; rw [if_pos hr]
  rw [hfp] at hpo
  obtain ⟨hfit, _, hv, hce, hsim'⟩ := simR_step h.sh hsim
  have hX : ∀ a, U64 (x.at_ a) := fun a => h.sh.sc.u64 a
  have e4 : (p.rd.step x 5 ce.l.length ce.h ce.c).2.p = p.rd.p := by
    unfold Rd.step
    split <;> (try split) <;> (try split) <;> (try split) <;> rfl
  refine (rmove_ok x 2 5 ce.l.length p.rd ce.h ce.c w h.buf hw hfit hX).mono ?_
  rintro e w' ⟨rfl, v', hw', hv', hk⟩
  rw [hv]
  generalize (p.rd.step x 5 ce.l.length ce.h ce.c).2 = r' at *
  have hS : ∀ g ∈ p.rd.fp, o g = 3 + 2 * i := hpo
  refine ⟨rfl, hce, { r' with v := v' }, e4, fun a b => ?_, _, hk, hS⟩
  have hold : ∀ g, g < w.heap.size → (if g < w.heap.size then o g else 3 + 2 * i) = o g := fun g hg => by simp [hg]
  refine ⟨h.buf.keep hk (fun g hg hm => by have := h.bo g hg; have := hS g hm; omega), h.sh, fun g hg => by rw [hold g (h.buf.lt g hg)]; exact h.bo g hg, ?_, ?_⟩
  · intro j q hq
    rcases set_get hq with ⟨rfl, rfl, _⟩ | ⟨hj, hq⟩
    · refine ⟨⟨fun _ => ⟨hw', ⟨hsim'.reads, hsim'.adds, hsim'.rn, hsim'.range, hsim'.st⟩⟩, fun hr' => by rw [hr] at hr'; simp at hr'⟩, ?_⟩
      intro g hg
      unfold Pl.fp at hg
      rw [if_pos hr] at hg
      split
      · rename_i hlt
        simp [Rd.fp] at hg
        rcases hg with rfl | hg
        · exact hpo _ (by rw [e4]; simp [Rd.fp])
        · rcases hv' g hg with h1 | h1
          · exact hpo _ (by simp [Rd.fp, h1])
          · omega
      · rfl
    · obtain ⟨hqp, hqo⟩ := h.pls j q hq
      refine ⟨hqp.keep hk (fun g hg hm => by have := hqo g hg; have := hS g hm; omega), fun g hg => by rw [hold g (hqp.lt g hg)]; exact hqo g hg⟩
  · intro j k q s hq hs hqh hsh2
    rcases set_get hq with ⟨rfl, rfl, _⟩ | ⟨hj, hq⟩
    · unfold Pl.holds at hqh; rw [if_pos hr] at hqh; simp at hqh
    · rcases set_get hs with ⟨rfl, rfl, _⟩ | ⟨hk2, hs⟩
      · unfold Pl.holds at hsh2; rw [if_pos hr] at hsh2; simp at hsh2
      · exact h.uniq j k q s hq hs hqh hsh2
end Go.Proofs.Ytlgebknbfchnlaa

/- law18's scene, part 3: a move on the document's side. -/
namespace Go.Proofs.Ytlgebknbfchnlaa
set_option linter.unusedVariables false
set_option linter.unusedSimpArgs false
open Go Go.RowKit Go.Hay Go.Proofs.YtlgebknbfchnlaaW.PrintWords

theorem kstep_fp (m : Wk) (ce : Ce) : (m.step ce).2.2.fp = ce.fp ∧ (m.step ce).2.1.p = m.p ∧ (m.step ce).2.2.p = ce.p := by
  unfold Wk.step
  repeat' split
  all_goals exact ⟨rfl, rfl, rfl⟩

theorem scd_move {w : World} {o : Nat → Nat} {ce : Ce} {M : List Wk} (h : ScD w o ce M) {i : Nat} {m : Wk} (hm : M[i]? = some m) (hf : m.Fit ce) :
    Calls Try.prog 23 #[.pointer (some ⟨m.p, 0, none⟩), .pointer (some ⟨ce.p, 0, none⟩)] w fun e w' => e = .returned (.int .i64 (m.step ce).1) ∧
      ∃ lv gv, ScD w' (fun g => if g < w.heap.size then o g else 4 + 2 * i) (m.step ce).2.2 (M.set i { (m.step ce).2.1 with lv := lv, gv := gv }) ∧ ∃ S, Keep S w w' ∧ ∀ g ∈ S, o g = 2 ∨ o g = 4 + 2 * i := by
  obtain ⟨hw, ho⟩ := h.ms i m hm
  have hA : m.apart ce := fun g hg hq => by have := ho g hg; have := h.co g hq; omega
  obtain ⟨e1, e2, _⟩ := kstep_fp m ce
  refine (kmove_ok m ce w hw h.cel hA hf).mono ?_
  rintro e w' ⟨rfl, lv, gv, hm', hnew, hce', hk⟩
  have hS : ∀ g ∈ m.fp ++ ce.fp, o g = 2 ∨ o g = 4 + 2 * i := by
    intro g hg
    rcases List.mem_append.1 hg with hg | hg
    · exact .inr (ho g hg)
    · exact .inl (h.co g hg)
  have hold : ∀ g, g < w.heap.size → (if g < w.heap.size then o g else 4 + 2 * i) = o g := fun g hg => by simp [hg]
  generalize (m.step ce).2.2 = ce' at *
  generalize (m.step ce).2.1 = m' at *
  refine ⟨rfl, lv, gv, ⟨hce', fun g hg => by rw [e1] at hg; rw [hold g (h.cel.lt g hg)]; exact h.co g hg, ?_⟩, _, hk, hS⟩
  intro j q hq
  rcases set_get hq with ⟨rfl, rfl, _⟩ | ⟨hj, hq2⟩
  · refine ⟨hm', ?_⟩
    intro g hg
    split
    · rename_i hlt
      simp only [Wk.fp, List.mem_cons, List.mem_append, Option.mem_toList] at hg
      rcases hg with rfl | hg
      · rw [e2]; exact ho _ (by simp [Wk.fp])
      · rcases hnew g hg with h1 | h1
        · exact ho g h1
        · omega
    · rfl
  · obtain ⟨h1, h2⟩ := h.ms j q hq2
    refine ⟨h1.keep hk (fun g hg hm2 => ?_), fun g hg => by rw [hold g (h1.lt g hg)]; exact h2 g hg⟩
    have := h2 g hg
    rcases hS g hm2 with h3 | h3 <;> omega
end Go.Proofs.Ytlgebknbfchnlaa

/- law18's scene, part 4: its block and rows; scene.move, scene.words. -/
namespace Go.Proofs.Ytlgebknbfchnlaa
set_option linter.unusedVariables false
set_option linter.unusedSimpArgs false
open Go Go.RowKit Go.Hay Go.Proofs.YtlgebknbfchnlaaW.PrintWords

def Pl.wp (p : Pl) : Option Nat := if p.isR then none else some p.wr.p
def Pl.rp (p : Pl) : Option Nat := if p.isR then some p.rd.p else none

/-- The scene's own block and rows: b the buffer, c the cells, ws, rs, ms the pointers. -/
structure ScH (w : World) (o : Nat → Nat) (sp : Nat) (b c : Nat) (vw vr vm : Value) (ws rs ms : List (Option Nat)) : Prop where
  blk : Blk w sp 55 #[.pointer (some ⟨b, 0, none⟩), .pointer (some ⟨c, 0, none⟩), vw, vr, vm]
  rw : OwnP 28 w vw ws
  rr : OwnP 31 w vr rs
  rm : OwnP 59 w vm ms
  os : o sp = 0
  ow : ∀ g, vw.ownBlock = some g → o g = 0
  or_ : ∀ g, vr.ownBlock = some g → o g = 0
  om : ∀ g, vm.ownBlock = some g → o g = 0

theorem ScH.keep {S : List Nat} {w w' : World} {o o' : Nat → Nat} {sp b c : Nat} {vw vr vm : Value} {ws rs ms : List (Option Nat)} (h : ScH w o sp b c vw vr vm ws rs ms) (k : Keep S w w') (hS : ∀ g ∈ S, o g ≠ 0) (ho : ∀ g, g < w.heap.size → o' g = o g) : ScH w' o' sp b c vw vr vm ws rs ms :=
  ⟨h.blk.keep k (fun hm => hS _ hm h.os), h.rw.keepB k (fun g hg hm => hS g hm (h.ow g hg)), h.rr.keepB k (fun g hg hm => hS g hm (h.or_ g hg)), h.rm.keepB k (fun g hg hm => hS g hm (h.om g hg)),
    by rw [ho _ h.blk.lt]; exact h.os, fun g hg => by rw [ho g (h.rw.lt hg)]; exact h.ow g hg, fun g hg => by rw [ho g (h.rr.lt hg)]; exact h.or_ g hg, fun g hg => by rw [ho g (h.rm.lt hg)]; exact h.om g hg⟩

set_option maxRecDepth 100000 in
theorem smove_w {Q : World → Prop} {w : World} {o : Nat → Nat} {sp b c : Nat} {vw vr vm : Value} {ws rs ms : List (Option Nat)} (h : ScH w o sp b c vw vr vm ws rs ms) (i : Nat) (hi : i < ws.length) (hi2 : i < ms.length) (m : Wk) (hm : WkAt w m) (hmp : ms.getD i none = some m.p) (hr : m.reads = false) (r : Nat) (hwp : ws.getD i none = some r) (v : Int)
    (H : Calls Try.prog 15 #[.pointer (some ⟨r, 0, none⟩)] w fun e w' => e = .returned (.tuple #[.int .i64 v, .int .i64 0]) ∧ Q w') :
    Calls Try.prog 21 #[.pointer (some ⟨sp, 0, none⟩), .int .i64 i] w fun e w' => e = .returned (.tuple #[.int .i64 v, .int .i64 0]) ∧ Q w' := by
  have hc := h.blk.cell
  have hcm := hm.blk.cell
  rw [hr] at hcm
  obtain ⟨gm, cm, hvm, hgm, hm2⟩ := h.rm.at_ hi2
  obtain ⟨gw, cw, hvw, hgw, hw2⟩ := h.rw.at_ hi
  rw [hmp] at hm2
  rw [hwp] at hw2
  rw [hvm, hvw] at hc
  simp only [encP, Option.map_some] at hm2 hw2
  have H := Hid.mk H
  go_enter Try.func21, Try.ntmps21
  go_wp2_with ((go_at_call 15; refine H.out.mono ?_; rintro e w' ⟨rfl, hq⟩))
  go_ret2
  exact ⟨rfl, hq⟩

set_option maxRecDepth 100000 in
theorem smove_r {Q : World → Prop} {w : World} {o : Nat → Nat} {sp b c : Nat} {vw vr vm : Value} {ws rs ms : List (Option Nat)} (h : ScH w o sp b c vw vr vm ws rs ms) (i : Nat) (hi : i < rs.length) (hi2 : i < ms.length) (m : Wk) (hm : WkAt w m) (hmp : ms.getD i none = some m.p) (hr : m.reads = true) (r : Nat) (hwp : rs.getD i none = some r) (v : Int)
    (H : Calls Try.prog 17 #[.pointer (some ⟨r, 0, none⟩)] w fun e w' => e = .returned (.tuple #[.int .i64 v, .int .i64 0]) ∧ Q w') :
    Calls Try.prog 21 #[.pointer (some ⟨sp, 0, none⟩), .int .i64 i] w fun e w' => e = .returned (.tuple #[.int .i64 v, .int .i64 0]) ∧ Q w' := by
  have hc := h.blk.cell
  have hcm := hm.blk.cell
  rw [hr] at hcm
  obtain ⟨gm, cm, hvm, hgm, hm2⟩ := h.rm.at_ hi2
  obtain ⟨gw, cw, hvw, hgw, hw2⟩ := h.rr.at_ hi
  rw [hmp] at hm2
  rw [hwp] at hw2
  rw [hvm, hvw] at hc
  simp only [encP, Option.map_some] at hm2 hw2
  have H := Hid.mk H
  go_enter Try.func21, Try.ntmps21
  go_wp2_with ((go_at_call 17; refine H.out.mono ?_; rintro e w' ⟨rfl, hq⟩))
  go_ret2
  exact ⟨rfl, hq⟩
end Go.Proofs.Ytlgebknbfchnlaa

/- law18's scene, part 5: scene.words. -/
namespace Go.Proofs.Ytlgebknbfchnlaa
set_option linter.unusedVariables false
set_option linter.unusedSimpArgs false
open Go Go.RowKit Go.Hay Go.Proofs.YtlgebknbfchnlaaW.PrintWords

theorem Sc.run {x : Buf} {h : Bool} {c : Int} {V : List Int} (s : Sc x h c V) (h1 : 1 ≤ V.length) : x.runE 5 (V.length : Int) = 0 ∧ (x.words.drop (x.idx 5).toNat).take V.length = V := by
  have hl := s.len
  have hi := s.idx (a := 5) (by omega) (by omega)
  constructor
  · unfold Buf.runE
    rw [if_pos (s.ain (by omega) (by omega))]
    have : roomOf x.bits 5 = 59 := by rw [s.bits]; unfold roomOf offOf; simp
    rw [this, if_pos (by omega)]
  · rw [hi]
    apply List.ext_getElem?
    intro j
    by_cases hj : j < V.length
    · have h2 := s.vals j hj
      have hw := s.wlen
      rw [List.getElem?_take_of_lt hj, List.getElem?_drop]
      rw [List.getD_eq_getElem?_getD, List.getD_eq_getElem?_getD, List.getElem?_eq_getElem hj, List.getElem?_eq_getElem (show 5 + j < x.words.length by omega)] at h2
      rw [List.getElem?_eq_getElem hj, show (5 : Int).toNat + j = 5 + j from rfl, List.getElem?_eq_getElem (show 5 + j < x.words.length by omega)]
      simp at h2
      rw [h2]
    · rw [List.getElem?_eq_none (by simp; omega), List.getElem?_eq_none (by omega)]

set_option maxRecDepth 100000 in
set_option maxHeartbeats 1000000 in
theorem swords_ok {w : World} {o : Nat → Nat} {sp : Nat} {vw vr vm : Value} {ws rs ms : List (Option Nat)} {x : Buf} {ce : Ce} {h : Bool} {c : Int} {V : List Int} (hs : ScH w o sp x.b ce.p vw vr vm ws rs ms) (hx : BufAt w x) (hc : CeAt w ce) (hsc : Sc x h c V) (hl : ce.l.length = V.length) :
    Calls Try.prog 22 #[.pointer (some ⟨sp, 0, none⟩)] w fun e w' => ∃ A cap, e = .returned (.slice A V.length cap) ∧ V.length ≤ cap ∧ (Kd.int .u64).C w' A V.length V ∧ Keep [] w w' := by
  have h1 := hs.blk.cell
  have h2 := hc.blk.cell
  have h16 := hsc.len
  obtain ⟨A, cap, hv, hlc, hC, hb⟩ := hc.row.reads
  rw [hl] at hv
  rw [hv] at h2
  by_cases h0 : V.length = 0
  · have hV : V = [] := List.length_eq_zero_iff.1 h0
    subst hV
    clear hl hlc hC
    simp only [List.length_nil] at h2
    go_enter Try.func22, Try.ntmps22
    go_wp2_with fail
    go_ret
    exact ⟨none, 0, rfl, Nat.le_refl _, ⟨rfl, by simp, fun h => absurd h (by simp)⟩, Keep.refl _ _⟩
  · obtain ⟨hr, hrun⟩ := hsc.run (by omega)
    have HW := Hid.mk (fun W (hW : BufAt W x) => bwords_ok x 5 V.length W hW (by omega) hr)
    simp only [Int.toNat_natCast, hrun] at HW
    have HL := Hid.mk (show V.length ≤ 9223372036854775807 by omega)
    have HB := Hid.mk (fun W (hk : Keep [] w W) => (And.intro (hs.blk.keep hk (by simp)) (hc.blk.keep hk (by simp))))
    have hx1 : BufAt w.drew x := hx.drewN 1
    have hk1 : Keep [] w w.drew := (Keep.refl _ _).drew
    rw [hv] at HB
    have hn0 : 0 < V.length := by omega
    clear hr hrun hl hC hlc hv hsc
    generalize hN : V.length = N at *
    go_enter Try.func22, Try.ntmps22
    go_wp2_with fail
    go_region_held3 (fun w' => (w'.cell? ⟨sp, 0, none⟩ = some (.pointer (some ⟨x.b, 0, none⟩)) ∧ w'.cell? ⟨sp, 1, none⟩ = some (.pointer (some ⟨ce.p, 0, none⟩))) ∧ w'.cell? ⟨ce.p, 2, none⟩ = some (.slice A N cap)) (first | exact ⟨⟨h1 0, h1 1⟩, h2 2⟩ | exact ⟨⟨hb2.1.cell 0, hb2.1.cell 1⟩, hb2.2.cell 2⟩) ((go_at_call 41; refine (HW.out w.drew hx1).mono ?_; rintro e w' ⟨g, rfl, hg, hbk, hk⟩; have hk2 := hk1.trans hk (by simp); have hb2 := HB.out _ hk2))
    all_goals
      go_wp2_with fail
      go_ret
      exact ⟨_, N, rfl, Nat.le_refl _, hN ▸ C_of_blk hbk (by rw [hN]; exact HL.out), hk2⟩
end Go.Proofs.Ytlgebknbfchnlaa

/- law18's open: its parts. -/
namespace Go.Proofs.Ytlgebknbfchnlaa
set_option linter.unusedVariables false
set_option linter.unusedSimpArgs false
open Go Go.RowKit Go.Hay Go.Proofs.YtlgebknbfchnlaaW.PrintWords

theorem rwordsref_ok (s : ByteArray) (w : World) (hs : s.size ≤ 1000000) :
    Calls Try.prog 61 #[.string s] w fun e w' => ∃ v, e = .returned v ∧ Own .u64 22 w' w.heap.size v (wordsL s) ∧ Keep [] w w' :=
  (PInplacePlays.haycroftref01_Words.calls _ s _ w (refwords_f s hs (10 * wordsN s + 1) (by omega))).mono fun _ _ ⟨v, h1, h2, h3⟩ => ⟨v, h1, h2, Keep.of_below h3 []⟩

set_option maxRecDepth 100000 in
theorem of_ok (s : ByteArray) (w : World) (hs : s.size ≤ 128) :
    Calls Try.prog 59 #[.string s] w fun e w' => ∃ p v, e = .returned (.pointer (some ⟨p, 0, none⟩)) ∧ CeAt w' ⟨p, false, 0, v, wordsL s⟩ ∧ (∀ g ∈ (Ce.mk p false 0 v (wordsL s)).fp, w.heap.size ≤ g) ∧ Keep [] w w' := by
  have HW := Hid.mk (rwordsref_ok s w (by omega))
  have hl : (wordsL s).length ≤ 16 := by rw [wordsL_length]; unfold wordsN; omega
  have hU := Hid.mk (wordsL_u64 s)
  generalize wordsL s = l at *
  go_enter Try.func59, Try.ntmps59
  go_wp2_with ((go_at_call 61; refine HW.out.mono ?_; rintro e w' ⟨v, rfl, hv, hk⟩; obtain ⟨A, c, rfl, _⟩ := hv.reads))
  go_ret
  have hvk : ∀ o, Keep [] w' (w'.alloc o) := fun o => (Keep.refl _ _).alloc _
  refine ⟨w'.heap.size, .slice A l.length c, rfl, ⟨Blk.new w' 65 #[.bool false, .int .u64 0, .slice A l.length c], (hv.base0).keepB (hvk _) (by simp), hU.out, by simp, by simp, by simp; omega⟩, ?_, hk.alloc _⟩
  intro g hg
  simp only [Ce.fp, List.mem_cons, Option.mem_toList] at hg
  rcases hg with rfl | hg
  · exact hk.size
  · exact (hv.lt hg).1

theorem get_snoc {α : Type} {l : List α} {a b : α} {i : Nat} (h : (l ++ [a])[i]? = some b) : l[i]? = some b ∨ (i = l.length ∧ b = a) := by
  rw [List.getElem?_append] at h
  split at h
  · exact .inl h
  · rename_i hi
    right
    have hlt : i - l.length < [a].length := (List.getElem?_eq_some_iff.1 h).1
    simp at hlt
    have : i = l.length := by omega
    subst this
    simp at h
    exact ⟨rfl, h.symm⟩

/-- One more is at the record. -/
theorem ScP.push {S : List Nat} {w w' : World} {o o' : Nat → Nat} {x : Buf} {ce : Ce} {n : Nat} {P : List Pl} (h : ScP w o x ce n P) (k : Keep S w w') (hS : ∀ g ∈ S, o g = 0) (ho : ∀ g, g < w.heap.size → o' g = o g) {p : Pl} (hp : PrAt w' x ce n p) (hpo : ∀ g ∈ p.fp, o' g = 3 + 2 * P.length) (hh : p.holds = false) : ScP w' o' x ce n (P ++ [p]) := by
  have h2 := h.keep k (fun g hg => ⟨by rw [hS g hg]; omega, fun i => by rw [hS g hg]; omega⟩) ho
  refine ⟨h2.buf, h2.sh, h2.bo, ?_, ?_⟩
  · intro i q hq
    rcases get_snoc hq with hq | ⟨rfl, rfl⟩
    · exact h2.pls i q hq
    · exact ⟨hp, hpo⟩
  · intro i j q s hq hs hqh hsh
    rcases get_snoc hq with hq | ⟨rfl, rfl⟩
    · rcases get_snoc hs with hs | ⟨rfl, rfl⟩
      · exact h2.uniq i j q s hq hs hqh hsh
      · rw [hh] at hsh; simp at hsh
    · rw [hh] at hqh; simp at hqh
theorem ScD.push {S : List Nat} {w w' : World} {o o' : Nat → Nat} {ce : Ce} {M : List Wk} (h : ScD w o ce M) (k : Keep S w w') (hS : ∀ g ∈ S, o g = 0) (ho : ∀ g, g < w.heap.size → o' g = o g) {m : Wk} (hm : WkAt w' m) (hmo : ∀ g ∈ m.fp, o' g = 4 + 2 * M.length) : ScD w' o' ce (M ++ [m]) := by
  have h2 := h.keep k (fun g hg => ⟨by rw [hS g hg]; omega, fun i => by rw [hS g hg]; omega⟩) ho
  refine ⟨h2.cel, h2.co, ?_⟩
  intro i q hq
  rcases get_snoc hq with hq | ⟨rfl, rfl⟩
  · exact h2.ms i q hq
  · exact ⟨hm, hmo⟩

theorem info_pw : (Try.prog.info? 28).map (fun i => (i.zero, i.size, i.bytes)) = some (some (.pointer none), 1, 8) := by kernel_rfl
theorem info_pr : (Try.prog.info? 31).map (fun i => (i.zero, i.size, i.bytes)) = some (some (.pointer none), 1, 8) := by kernel_rfl
theorem info_pk : (Try.prog.info? 59).map (fun i => (i.zero, i.size, i.bytes)) = some (some (.pointer none), 1, 8) := by kernel_rfl
theorem may_six (n : Nat) (hn : n ≤ 128) : mayB 6 1 1 n = true := by
  rw [(mayB_eq 6 1 1 n).out]
  have hr : roomOf 6 1 = 63 := by unfold roomOf offOf; simp
  rw [hr]
  unfold recSize
  rw [if_pos (by omega)]
  simp
  omega
theorem word_digit (s : ByteArray) (j m : Nat) (hm : m < 8) : wordAt s j / 256 ^ m % 256 = bt s ((8 * j + m : Nat) : Int) := by
  have h1 := wordHigh_split s j (8 - m) (by omega)
  rw [show 8 - (8 - m) = m by omega] at h1
  obtain ⟨d, hd⟩ : ∃ d, 8 - m = d + 1 := ⟨7 - m, by omega⟩
  have h2 : wordHigh s j (d + 1) = wordHigh s j d * 256 + bt s ((8 * j + (7 - d) : Nat) : Int) := rfl
  have h3 := wordLow_bd s j m
  have h4 := bt_range s ((8 * j + m : Nat) : Int)
  have hp := pow256_pos m
  rw [hd] at h1
  have h5 : wordAt s j / 256 ^ m = wordHigh s j (d + 1) := by
    rw [h1, Int.add_mul_ediv_right _ _ (by omega), Int.ediv_eq_zero_of_lt h3.1 h3.2]
    omega
  rw [h5, h2, show 7 - d = m by omega]
  omega
/-- A text's words have nothing behind its bytes. -/
theorem zt_words (s : ByteArray) : Zt s.size (wordsL s) := by
  intro i h1 h2
  rw [wordsL_length] at h2
  unfold byteAt
  have hj : i / 8 < wordsN s := by omega
  rw [show (wordsL s).getD (i / 8) 0 = wordAt s (i / 8) by rw [List.getD_eq_getElem?_getD]; simp [wordsL, hj]]
  rw [show (2 : Int) ^ (i % 8 * 8) = 256 ^ (i % 8) by rw [Nat.mul_comm, Int.pow_mul]; rfl, word_digit s (i / 8) (i % 8) (by omega), show 8 * (i / 8) + i % 8 = i by omega]
  exact bt_out s (by simpa using h1)

/-- A row of pointers is not a block of another type. -/
theorem ownP_ne {w : World} {p T T' g : Nat} {cs : Array Value} {v : Value} {xs : List (Option Nat)} (hb : Blk w p T cs) (ho : OwnP T' w v xs) (hT : T ≠ T') (hg : v.ownBlock = some g) : p ≠ g := by
  obtain ⟨cs', hc⟩ := own_typed ho.row g hg
  rintro rfl
  have h2 := hb
  unfold Blk at h2
  rw [hc] at h2
  simp at h2
  exact hT h2.2.symm
theorem ownP_ne2 {w : World} {T T' g : Nat} {v v' : Value} {xs xs' : List (Option Nat)} (h : OwnP T w v xs) (h' : OwnP T' w v' xs') (hT : T ≠ T') (hg : v.ownBlock = some g) : v'.ownBlock ≠ some g := by
  intro hg'
  obtain ⟨cs, hc⟩ := own_typed h.row g hg
  obtain ⟨cs', hc'⟩ := own_typed h'.row g hg'
  rw [hc] at hc'
  simp at hc'
  exact hT hc'.2
end Go.Proofs.Ytlgebknbfchnlaa

/- law18's open, part 2: its rows grow, a player comes in. -/
namespace Go.Proofs.Ytlgebknbfchnlaa
set_option linter.unusedVariables false
set_option linter.unusedSimpArgs false
open Go Go.RowKit Go.Hay Go.Proofs.YtlgebknbfchnlaaW.PrintWords

theorem Keep.grown {w w1 : World} {row : Option Nat} (h : w.grownBy w1 row) : Keep row.toList w w1 :=
  ⟨h.os, h.tape, h.output, h.size, fun b hb hS => h.block b hb (by rintro rfl; exact hS (by simp))⟩

/-- The scene's block and rows, without owners. -/
structure ScB (w : World) (sp : Nat) (b c : Nat) (vw vr vm : Value) (ws rs ms : List (Option Nat)) : Prop where
  blk : Blk w sp 55 #[.pointer (some ⟨b, 0, none⟩), .pointer (some ⟨c, 0, none⟩), vw, vr, vm]
  rw : OwnP 28 w vw ws
  rr : OwnP 31 w vr rs
  rm : OwnP 59 w vm ms

theorem ScH.scb {w : World} {o : Nat → Nat} {sp b c : Nat} {vw vr vm : Value} {ws rs ms : List (Option Nat)} (h : ScH w o sp b c vw vr vm ws rs ms) : ScB w sp b c vw vr vm ws rs ms := ⟨h.blk, h.rw, h.rr, h.rm⟩
theorem ScB.keep {S : List Nat} {w w' : World} {sp b c : Nat} {vw vr vm : Value} {ws rs ms : List (Option Nat)} (h : ScB w sp b c vw vr vm ws rs ms) (k : Keep S w w') (h0 : sp ∉ S) (h1 : ∀ g, vw.ownBlock = some g → g ∉ S) (h2 : ∀ g, vr.ownBlock = some g → g ∉ S) (h3 : ∀ g, vm.ownBlock = some g → g ∉ S) : ScB w' sp b c vw vr vm ws rs ms :=
  ⟨h.blk.keep k h0, h.rw.keepB k h1, h.rr.keepB k h2, h.rm.keepB k h3⟩

theorem ScB.at_w {W w1 : World} {sp b c : Nat} {vw vr vm : Value} {ws rs ms : List (Option Nat)} (h : ScB W sp b c vw vr vm ws rs ms) (hg : W.grownBy w1 vw.ownBlock) : Blk w1 sp 55 #[.pointer (some ⟨b, 0, none⟩), .pointer (some ⟨c, 0, none⟩), vw, vr, vm] :=
  h.blk.keep (Keep.grown hg) (fun hm => by simp at hm; exact ownP_ne h.blk h.rw (by decide) hm rfl)
theorem ScB.at_r {W w1 : World} {sp b c : Nat} {vw vr vm : Value} {ws rs ms : List (Option Nat)} (h : ScB W sp b c vw vr vm ws rs ms) (hg : W.grownBy w1 vr.ownBlock) : Blk w1 sp 55 #[.pointer (some ⟨b, 0, none⟩), .pointer (some ⟨c, 0, none⟩), vw, vr, vm] :=
  h.blk.keep (Keep.grown hg) (fun hm => by simp at hm; exact ownP_ne h.blk h.rr (by decide) hm rfl)
theorem ScB.at_m {W w1 : World} {sp b c : Nat} {vw vr vm : Value} {ws rs ms : List (Option Nat)} (h : ScB W sp b c vw vr vm ws rs ms) (hg : W.grownBy w1 vm.ownBlock) : Blk w1 sp 55 #[.pointer (some ⟨b, 0, none⟩), .pointer (some ⟨c, 0, none⟩), vw, vr, vm] :=
  h.blk.keep (Keep.grown hg) (fun hm => by simp at hm; exact ownP_ne h.blk h.rm (by decide) hm rfl)

theorem ScB.push_w {W w1 : World} {sp b c : Nat} {vw vr vm v1 : Value} {ws rs ms ws' : List (Option Nat)} (h : ScB W sp b c vw vr vm ws rs ms) (ho : OwnP 28 w1 v1 ws') (hg : W.grownBy w1 vw.ownBlock) :
    ScB (w1.setCell ⟨sp, 2, none⟩ v1) sp b c v1 vr vm ws' rs ms ∧ Keep (sp :: vw.ownBlock.toList) W (w1.setCell ⟨sp, 2, none⟩ v1) := by
  have k := Keep.grown hg
  have hb := h.at_w hg
  have hr := h.rr.keepB k (fun g hr hm => by simp at hm; exact ownP_ne2 h.rr h.rw (by decide) hr hm)
  have hm := h.rm.keepB k (fun g hr hm => by simp at hm; exact ownP_ne2 h.rm h.rw (by decide) hr hm)
  have ks : Keep [sp] w1 (w1.setCell ⟨sp, 2, none⟩ v1) := (Keep.refl _ _).set (by simp) _ _
  refine ⟨⟨by simpa using hb.set 2 v1, ho.keepB ks (fun g hv hq => ?_), hr.keepB ks (fun g hv hq => ?_), hm.keepB ks (fun g hv hq => ?_)⟩, (k.mono (fun b hb => .inl (List.mem_cons_of_mem _ hb))).trans ks (by simp)⟩
  · simp at hq; subst hq; exact ownP_ne hb ho (by decide) hv rfl
  · simp at hq; subst hq; exact ownP_ne hb hr (by decide) hv rfl
  · simp at hq; subst hq; exact ownP_ne hb hm (by decide) hv rfl
theorem ScB.push_r {W w1 : World} {sp b c : Nat} {vw vr vm v1 : Value} {ws rs ms rs' : List (Option Nat)} (h : ScB W sp b c vw vr vm ws rs ms) (ho : OwnP 31 w1 v1 rs') (hg : W.grownBy w1 vr.ownBlock) :
    ScB (w1.setCell ⟨sp, 3, none⟩ v1) sp b c vw v1 vm ws rs' ms ∧ Keep (sp :: vr.ownBlock.toList) W (w1.setCell ⟨sp, 3, none⟩ v1) := by
  have k := Keep.grown hg
  have hb := h.at_r hg
  have hr := h.rw.keepB k (fun g hr hm => by simp at hm; exact ownP_ne2 h.rw h.rr (by decide) hr hm)
  have hm := h.rm.keepB k (fun g hr hm => by simp at hm; exact ownP_ne2 h.rm h.rr (by decide) hr hm)
  have ks : Keep [sp] w1 (w1.setCell ⟨sp, 3, none⟩ v1) := (Keep.refl _ _).set (by simp) _ _
  refine ⟨⟨by simpa using hb.set 3 v1, hr.keepB ks (fun g hv hq => ?_), ho.keepB ks (fun g hv hq => ?_), hm.keepB ks (fun g hv hq => ?_)⟩, (k.mono (fun b hb => .inl (List.mem_cons_of_mem _ hb))).trans ks (by simp)⟩
  · simp at hq; subst hq; exact ownP_ne hb hr (by decide) hv rfl
  · simp at hq; subst hq; exact ownP_ne hb ho (by decide) hv rfl
  · simp at hq; subst hq; exact ownP_ne hb hm (by decide) hv rfl
theorem ScB.push_m {W w1 : World} {sp b c : Nat} {vw vr vm v1 : Value} {ws rs ms ms' : List (Option Nat)} (h : ScB W sp b c vw vr vm ws rs ms) (ho : OwnP 59 w1 v1 ms') (hg : W.grownBy w1 vm.ownBlock) :
    ScB (w1.setCell ⟨sp, 4, none⟩ v1) sp b c vw vr v1 ws rs ms' ∧ Keep (sp :: vm.ownBlock.toList) W (w1.setCell ⟨sp, 4, none⟩ v1) := by
  have k := Keep.grown hg
  have hb := h.at_m hg
  have hr := h.rw.keepB k (fun g hr hm => by simp at hm; exact ownP_ne2 h.rw h.rm (by decide) hr hm)
  have hm := h.rr.keepB k (fun g hr hm => by simp at hm; exact ownP_ne2 h.rr h.rm (by decide) hr hm)
  have ks : Keep [sp] w1 (w1.setCell ⟨sp, 4, none⟩ v1) := (Keep.refl _ _).set (by simp) _ _
  refine ⟨⟨by simpa using hb.set 4 v1, hr.keepB ks (fun g hv hq => ?_), hm.keepB ks (fun g hv hq => ?_), ho.keepB ks (fun g hv hq => ?_)⟩, (k.mono (fun b hb => .inl (List.mem_cons_of_mem _ hb))).trans ks (by simp)⟩
  · simp at hq; subst hq; exact ownP_ne hb hr (by decide) hv rfl
  · simp at hq; subst hq; exact ownP_ne hb hm (by decide) hv rfl
  · simp at hq; subst hq; exact ownP_ne hb ho (by decide) hv rfl

theorem OwnP.slice_n {T : Nat} {w : World} {v : Value} {xs : List (Option Nat)} (h : OwnP T w v xs) (m : Nat) (hm : xs.length = m) : ∃ A c, v = .slice A m c := by
  obtain ⟨A, c, hv, _⟩ := h.slice
  exact ⟨A, c, hm ▸ hv⟩
theorem row_at {B B' : Nat} (h : B = B') : Value.slice (some ⟨B, 0, none⟩) 1 1 = Value.slice (some ⟨B', 0, none⟩) 1 1 := by rw [h]
/-- Where a row's new block lies. -/
def NewRow (v v1 : Value) (B : Nat) : Prop := ∀ g, v1.ownBlock = some g → v.ownBlock = some g ∨ B ≤ g
theorem NewRow.of {v v1 : Value} {B B0 : Nat} (h : v1.ownBlock = v.ownBlock ∨ ∃ b, v1.ownBlock = some b ∧ B ≤ b) (hB : B0 ≤ B) : NewRow v v1 B0 := by
  intro g hg
  rcases h with h | ⟨b, h, hb⟩
  · exact .inl (h ▸ hg)
  · right
    rw [h] at hg
    cases hg
    omega

/-- A player comes in. -/
theorem open_push {wr wv wz : World} {o : Nat → Nat} {x : Buf} {ce : Ce} {n sp : Nat} {P : List Pl} {vw vr vm vw' vr' vm' : Value} {ws rs ms : List (Option Nat)} (hP : ScP wr o x ce n P) (hD : ScD wr o ce (P.map (·.m))) (hH : ScH wr o sp x.b ce.p vw vr vm ws rs ms)
    (k1 : Keep [] wr wv) {p : Pl} (hp : PrAt wv x ce n p) (hm : WkAt wv p.m) (hpf : ∀ g ∈ p.fp, wr.heap.size ≤ g) (hmf : ∀ g ∈ p.m.fp, wr.heap.size ≤ g ∧ g ∉ p.fp) (hh : p.holds = false)
    (k2 : Keep (sp :: (vw.ownBlock.toList ++ (vr.ownBlock.toList ++ vm.ownBlock.toList))) wv wz) {ws' rs' ms' : List (Option Nat)} (hB : ScB wz sp x.b ce.p vw' vr' vm' ws' rs' ms') (n1 : NewRow vw vw' wv.heap.size) (n2 : NewRow vr vr' wv.heap.size) (n3 : NewRow vm vm' wv.heap.size) :
    ∃ o', (∀ g, g < wr.heap.size → o' g = o g) ∧ ScP wz o' x ce n (P ++ [p]) ∧ ScD wz o' ce ((P ++ [p]).map (·.m)) ∧ ScH wz o' sp x.b ce.p vw' vr' vm' ws' rs' ms' := by
  refine ⟨fun g => if g < wr.heap.size then o g else if g ∈ p.fp then 3 + 2 * P.length else if g ∈ p.m.fp then 4 + 2 * P.length else 0, ?_⟩
  generalize ho' : (fun g => if g < wr.heap.size then o g else if g ∈ p.fp then 3 + 2 * P.length else if g ∈ p.m.fp then 4 + 2 * P.length else 0) = o'
  have hold : ∀ g, g < wr.heap.size → o' g = o g := fun g hg => by subst ho'; simp [hg]
  have hpt : ∀ g ∈ p.fp, o' g = 3 + 2 * P.length := fun g hg => by
    have := hpf g hg
    subst ho'; simp [hg, show ¬ g < wr.heap.size by omega]
  have hmt : ∀ g ∈ p.m.fp, o' g = 4 + 2 * P.length := fun g hg => by
    obtain ⟨h1, h2⟩ := hmf g hg
    subst ho'; simp [hg, h2, show ¬ g < wr.heap.size by omega]
  have hpl := hp.lt
  have hml := hm.lt
  have hnew : ∀ g, wv.heap.size ≤ g → o' g = 0 := fun g hg => by
    have hk := k1.size
    have h1 : g ∉ p.fp := fun hq => by have := hpl g hq; omega
    have h2 : g ∉ p.m.fp := fun hq => by have := hml g hq; omega
    subst ho'; simp [h1, h2, show ¬ g < wr.heap.size by omega]
  have hSl : ∀ g ∈ sp :: (vw.ownBlock.toList ++ (vr.ownBlock.toList ++ vm.ownBlock.toList)), g < wr.heap.size ∧ o g = 0 := by
    intro g hg
    simp at hg
    rcases hg with rfl | hg | hg | hg
    · exact ⟨hH.blk.lt, hH.os⟩
    · exact ⟨hH.rw.lt hg, hH.ow g hg⟩
    · exact ⟨hH.rr.lt hg, hH.or_ g hg⟩
    · exact ⟨hH.rm.lt hg, hH.om g hg⟩
  have kk : Keep (sp :: (vw.ownBlock.toList ++ (vr.ownBlock.toList ++ vm.ownBlock.toList))) wr wz := (k1.mono (by simp)).trans k2 (fun b hb => .inl hb)
  have offp : ∀ g ∈ p.fp, g ∉ sp :: (vw.ownBlock.toList ++ (vr.ownBlock.toList ++ vm.ownBlock.toList)) := fun g hg hq => by
    have := hSl g hq
    have := hpf g hg
    omega
  have offm : ∀ g ∈ p.m.fp, g ∉ sp :: (vw.ownBlock.toList ++ (vr.ownBlock.toList ++ vm.ownBlock.toList)) := fun g hg hq => by
    have := hSl g hq
    have := hmf g hg
    omega
  have hrow : ∀ {v v' : Value}, (∀ g, v.ownBlock = some g → o g = 0 ∧ g < wr.heap.size) → NewRow v v' wv.heap.size → ∀ g, v'.ownBlock = some g → o' g = 0 := by
    intro v v' h1 h2 g hg
    rcases h2 g hg with h3 | h3
    · obtain ⟨h4, h5⟩ := h1 g h3
      rw [hold g h5]; exact h4
    · exact hnew g h3
  refine ⟨hold, hP.push kk (fun g hg => (hSl g hg).2) hold (hp.keep k2 offp) hpt hh, ?_, ⟨hB.blk, hB.rw, hB.rr, hB.rm, ?_, ?_, ?_, ?_⟩⟩
  · rw [List.map_append]
    exact hD.push kk (fun g hg => (hSl g hg).2) hold (hm.keep k2 offm) (by rw [List.length_map]; exact hmt)
  · rw [hold _ hH.blk.lt]; exact hH.os
  · exact hrow (fun g hg => ⟨hH.ow g hg, hH.rw.lt hg⟩) n1
  · exact hrow (fun g hg => ⟨hH.or_ g hg, hH.rr.lt hg⟩) n2
  · exact hrow (fun g hg => ⟨hH.om g hg, hH.rm.lt hg⟩) n3
abbrev Act18 := Int × (ByteArray × Int)
def actK : Kd Act18 := Kd.pair (Kd.int .i64) (Kd.pair Kd.string (Kd.int .u64))

/-- An act's cells. -/
theorem actK_at {w : World} {A : Option Addr} {n : Nat} {l : List Act18} (h : actK.C w A n l) {j : Nat} (hj : j < n) : ∃ ad, A = some ad ∧ w.cell? (ad.add (j * 3)) = some (.int .i64 (l.getD j (0, ⟨#[]⟩, 0)).1) ∧ w.cell? (ad.add (j * 3 + 1)) = some (.string (l.getD j (0, ⟨#[]⟩, 0)).2.1) ∧ w.cell? (ad.add (j * 3 + 2)) = some (.int .u64 (l.getD j (0, ⟨#[]⟩, 0)).2.2) := by
  obtain ⟨ad, c, hA, hc, hk, hcell⟩ := ReadsRow.get_ h (0, ⟨#[]⟩, 0) (j : Int) (by omega) (by omega)
  refine ⟨ad, hA, ?_⟩
  simp only [Int.toNat_natCast] at hk hcell
  generalize l.getD j (0, ⟨#[]⟩, 0) = a at *
  obtain ⟨k, v, u⟩ := a
  obtain ⟨c1, c2, rfl, h1, c3, c4, rfl, h2, h3⟩ := hk
  have e1 : c1 = [Value.int .i64 k] := h1
  have e2 : c3 = [Value.string v] := h2
  have e3 : c4 = [Value.int .u64 u] := h3
  subst e1 e2 e3
  have hz : actK.sz = 3 := rfl
  rw [hz] at hcell
  exact ⟨by simpa using hcell 0 _ rfl, by simpa using hcell 1 _ rfl, by simpa using hcell 2 _ rfl⟩

/-- Who comes of an act: is it a reader, does it add, what. -/
def specOf (n : Nat) (a : Act18) : Option (Bool × Bool × Int) := if a.1 = 1 then some (false, false, 0) else if a.1 = 2 then (if n = 8 then some (false, true, a.2.2) else none) else some (true, false, 0)
/-- A player at its start. -/
structure Start (p : Pl) (sp : Bool × Bool × Int) : Prop where
  isR : p.isR = sp.1
  adds : p.m.adds = sp.2.1
  n : p.m.n = sp.2.2
  ws : p.isR = false → p.wr.state = 0
  rs : p.isR = true → p.rd.state = 0
  moves : p.m.moves = 0
  reads : p.m.reads = p.isR

/-- What stands when k acts are taken. -/
structure OpenR (w wr : World) (sp : Nat) (x : Buf) (ce : Ce) (n : Nat) (k : Nat) (acts : List Act18) : Prop where
  keep : Keep [] w wr
  st : ∃ o P vw vr vm, (∀ g, g < w.heap.size → o g = 99) ∧ ScP wr o x ce n P ∧ ScD wr o ce (P.map (·.m)) ∧ ScH wr o sp x.b ce.p vw vr vm (P.map Pl.wp) (P.map Pl.rp) (P.map fun p => some p.m.p) ∧
    P.length = ((acts.take k).filterMap (specOf n)).length ∧ (∀ (i : Nat) (p : Pl), P[i]? = some p → ∃ q, ((acts.take k).filterMap (specOf n))[i]? = some q ∧ Start p q)

theorem filterMap_step {α β : Type} (f : α → Option β) (l : List α) (k : Nat) (d : α) (hk : k < l.length) : (l.take (k + 1)).filterMap f = (l.take k).filterMap f ++ (f (l.getD k d)).toList := by
  rw [List.take_succ_eq_append_getElem hk, List.filterMap_append, List.getD_eq_getElem?_getD, List.getElem?_eq_getElem hk]
  cases h : f l[k] <;> simp [h]

/-- A player comes of an act. -/
theorem OpenR.step {w wr wv wz : World} {o : Nat → Nat} {x : Buf} {ce : Ce} {n sp k : Nat} {acts : List Act18} {P : List Pl} {vw vr vm vw' vr' vm' : Value} {ws rs ms : List (Option Nat)} (hkw : Keep [] w wr) (hold : ∀ g, g < w.heap.size → o g = 99)
    (hlen : P.length = ((acts.take k).filterMap (specOf n)).length) (hst : ∀ (i : Nat) (p : Pl), P[i]? = some p → ∃ q, ((acts.take k).filterMap (specOf n))[i]? = some q ∧ Start p q)
    (hP : ScP wr o x ce n P) (hD : ScD wr o ce (P.map (·.m))) (hH : ScH wr o sp x.b ce.p vw vr vm ws rs ms)
    (k1 : Keep [] wr wv) {p : Pl} (hp : PrAt wv x ce n p) (hm : WkAt wv p.m) (hpf : ∀ g ∈ p.fp, wr.heap.size ≤ g) (hmf : ∀ g ∈ p.m.fp, wr.heap.size ≤ g ∧ g ∉ p.fp) (hh : p.holds = false)
    (k2 : Keep (sp :: (vw.ownBlock.toList ++ (vr.ownBlock.toList ++ vm.ownBlock.toList))) wv wz) (hB : ScB wz sp x.b ce.p vw' vr' vm' (P.map Pl.wp ++ [p.wp]) (P.map Pl.rp ++ [p.rp]) (P.map (fun p => some p.m.p) ++ [some p.m.p]))
    (n1 : NewRow vw vw' wv.heap.size) (n2 : NewRow vr vr' wv.heap.size) (n3 : NewRow vm vm' wv.heap.size)
    (hk : k < acts.length) {act : Act18} (hact : acts.getD k (0, ⟨#[]⟩, 0) = act) {q : Bool × Bool × Int} (hq : specOf n act = some q) (hs : Start p q) : OpenR w wz sp x ce n (k + 1) acts := by
  obtain ⟨o', h0, h1, h2, h3⟩ := open_push hP hD hH k1 hp hm hpf hmf hh k2 hB n1 n2 n3
  have hf := filterMap_step (specOf n) acts k (0, ⟨#[]⟩, 0) hk
  rw [hact, hq] at hf
  simp only [Option.toList_some] at hf
  have hw := k1.size
  have hw2 := hkw.size
  refine ⟨(hkw.trans k1 (by simp)).trans k2 (fun g hg => ?_), o', P ++ [p], vw', vr', vm', fun g hg => by rw [h0 g (by omega)]; exact hold g hg, h1, h2, by simpa using h3, by rw [hf]; simp [hlen], ?_⟩
  · right
    have hz : o g = 0 := by
      simp at hg
      rcases hg with rfl | hg | hg | hg
      · exact hH.os
      · exact hH.ow g hg
      · exact hH.or_ g hg
      · exact hH.om g hg
    refine Nat.not_lt.1 (fun hlt => ?_)
    rw [hold g hlt] at hz
    omega
  · intro i p' hp'
    rw [hf]
    rcases get_snoc hp' with hp' | ⟨rfl, rfl⟩
    · obtain ⟨q', h4, h5⟩ := hst i p' hp'
      exact ⟨q', by rw [List.getElem?_append_left (List.getElem?_eq_some_iff.1 h4).1]; exact h4, h5⟩
    · exact ⟨q, by rw [hlen]; simp, hs⟩
/-- Nothing comes of an act. -/
theorem OpenR.skip {w wr wv : World} {x : Buf} {ce : Ce} {n sp k : Nat} {acts : List Act18} (h : OpenR w wr sp x ce n k acts) (k1 : Keep [] wr wv) (hk : k < acts.length) {act : Act18} (hact : acts.getD k (0, ⟨#[]⟩, 0) = act) (hq : specOf n act = none) : OpenR w wv sp x ce n (k + 1) acts := by
  obtain ⟨hkw, o, P, vw, vr, vm, hold, hP, hD, hH, hlen, hst⟩ := h
  have hf := filterMap_step (specOf n) acts k (0, ⟨#[]⟩, 0) hk
  rw [hact, hq] at hf
  simp only [Option.toList_none, List.append_nil] at hf
  exact ⟨hkw.trans k1 (by simp), o, P, vw, vr, vm, hold, hP.keep k1 (by simp) (fun _ _ => rfl), hD.keep k1 (by simp) (fun _ _ => rfl), hH.keep k1 (by simp) (fun _ _ => rfl), by rw [hf]; exact hlen, by rw [hf]; exact hst⟩
end Go.Proofs.Ytlgebknbfchnlaa

/- law18's open: the walk. -/
namespace Go.Proofs.Ytlgebknbfchnlaa
set_option linter.unusedVariables false
set_option linter.unusedSimpArgs false
open Go Go.RowKit Go.Hay Go.Proofs.YtlgebknbfchnlaaW.PrintWords

theorem lit2 : (1 : Int) + 1 = 2 := rfl
theorem lit5 : (1 : Int) + (3 + (1 + 7) / 8) = 5 := rfl
/-- The document's part of a player, as it is made. -/
def wk0 (p : Nat) (reads adds : Bool) (n : Int) (lv : Value) (l : List Int) : Wk := ⟨p, reads, adds, n, lv, l, 0, false, 0, .slice none 0 0, []⟩
theorem wk0_at {w : World} {p : Nat} {reads adds : Bool} {n : Int} {lv : Value} {l : List Int} (hb : Blk w p 58 #[.bool reads, .bool adds, .int .u64 n, lv, .int .i64 0, .bool false, .int .u64 0, .slice none 0 0]) (hl : Own .u64 22 w 0 lv l) (hU : ∀ y ∈ l, U64 y) (hn : U64 n) (h9 : l.length ≤ 100) : WkAt w (wk0 p reads adds n lv l) :=
  ⟨hb, hl, Own.nil _ _ _ _, hU, by simp [wk0], hn, by simp [wk0, Value.ownBlock], by simp [wk0], h9, by simp [wk0]⟩

/-- What open leaves. -/
def Opened (w w' : World) (sp : Nat) (l : List Int) (n na : Nat) (acts : List Act18) : Prop := ∃ x cp v, Sc x false 0 l ∧ OpenR w w' sp x ⟨cp, false, 0, v, l⟩ n (min na 6) acts

set_option maxRecDepth 100000 in
set_option maxHeartbeats 8000000 in
theorem open_ok (s : ByteArray) (A : Option Addr) (na ca : Nat) (acts : List Act18) (w : World) (hl : actK.C w A na acts) (hs : s.size ≤ 128) (hU : ∀ a ∈ acts, U64 a.2.2) :
    Calls Try.prog 19 #[.string s, .slice A na ca] w fun e w' => ∃ sp, e = .returned (.tuple #[.pointer (some ⟨sp, 0, none⟩), .bool true]) ∧ Opened w w' sp (wordsL s) s.size na acts := by
  have HB := Hid.mk (fun W => begin_ok s W hs)
  have HO := Hid.mk (fun W => of_ok s W hs)
  have HZ := Hid.mk (zt_words s)
  have HLw := Hid.mk (show (wordsL s).length = (s.size + 7) / 8 by rw [wordsL_length]; rfl)
  have HLA := Hid.mk hl.1
  have HLn := Hid.mk (show na ≤ 9223372036854775807 from hl.2.1)
  generalize wordsL s = l at *
  go_enter Try.func19, Try.ntmps19
  go_wp2_with (first
    | (go_at_call 44; refine (HB.out _).mono ?_; rintro e w1 ⟨x, rfl, hx, hsc, hnew, hk1⟩)
    | (go_at_call 59; refine (HO.out _).mono ?_; rintro e w2 ⟨cp, v, rfl, hce, hcn, hk2⟩))
  go_loopw [9] (fun iv wr => ∃ k : Nat, k ≤ na ∧ k ≤ 6 ∧ iv = .int .i64 k ∧ OpenR w wr w2.heap.size x ⟨cp, false, 0, v, l⟩ s.size k acts) (fun iv _ => na - (intOf iv).toNat)
  case atStart =>
    have hcn2 : ∀ g ∈ (Ce.mk cp false 0 v l).fp, w.heap.size ≤ g := fun g hg => Nat.le_trans hk1.size (hcn g hg)
    refine ⟨0, Nat.zero_le _, by omega, rfl, ⟨((hk1.trans hk2 (by simp)).alloc _), fun g => if g < w.heap.size then 99 else if g ∈ x.all then 1 else if g ∈ (Ce.mk cp false 0 v l).fp then 2 else 0, [], .slice none 0 0, .slice none 0 0, .slice none 0 0, fun g hg => by simp [hg], ?_, ?_, ?_, by simp, by simp⟩⟩
    · refine ⟨hx.keep (hk2.alloc _) (by simp), ⟨hsc, HZ.out, HLw.out, hs⟩, fun g hg => by have := hnew g hg; simp [hg]; omega, by simp, by simp⟩
    · refine ⟨hce.keep ((Keep.refl [] w2).alloc _) (by simp), fun g hg => ?_, by simp⟩
      have h1 : g ∉ x.all := fun hm => Nat.not_lt.2 (hcn g hg) (hx.lt g hm)
      have h2 := hcn2 g hg
      simp [h1, hg]; omega
    · refine ⟨Blk.new w2 55 #[.pointer (some ⟨x.b, 0, none⟩), .pointer (some ⟨cp, 0, none⟩), .slice none 0 0, .slice none 0 0, .slice none 0 0], Kd.R_nil _ _ _ _ _, Kd.R_nil _ _ _ _ _, Kd.R_nil _ _ _ _ _, ?_, by simp [Value.ownBlock], by simp [Value.ownBlock], by simp [Value.ownBlock]⟩
      have h1 : w2.heap.size ∉ x.all := fun hm => by have := hx.lt _ hm; have := hk2.size; omega
      have h2 : w2.heap.size ∉ (Ce.mk cp false 0 v l).fp := fun hm => by have := hce.lt _ hm; omega
      have h3 : ¬ w2.heap.size < w.heap.size := by have := hk1.size; have := hk2.size; omega
      simp [h1, h2, h3]
  case round =>
    obtain ⟨k, hk, hk6, rfl, hrel⟩ := hrel
    have HR := Hid.mk hrel
    clear hrel
    by_cases hlt : k < na
    · by_cases hl6 : k < 6
      · obtain ⟨hkp, o, P, vw, vr, vm, hold, hP, hD, hH, hlen, hst⟩ := HR.out
        have hP6 : P.length ≤ 6 := by rw [hlen]; exact Nat.le_trans (List.length_filterMap_le _ _) (Nat.le_trans (List.length_take_le _ _) hk6)
        have HLen := Hid.mk hlen
        have HSt := Hid.mk hst
        have HOld := Hid.mk hold
        clear hlen hst hold
        have hUa : U64 (acts.getD k (0, ⟨#[]⟩, 0)).2.2 := hU _ (by rw [List.getD_eq_getElem?_getD, List.getElem?_eq_getElem (by rw [HLA.out]; exact hlt)]; simp)
        have hCw : ∀ W, Keep [] wr W → actK.C W A na acts := fun W hW => Kd.C_below hl (hkp.trans hW (by simp)).below
        obtain ⟨ad, rfl, -⟩ := actK_at hl hlt
        generalize hact : acts.getD k (0, ⟨#[]⟩, 0) = act at *
        obtain ⟨kd, sv, un⟩ := act
        have HCell := Hid.mk (fun (W : World) (hW : Keep [] wr W) => show W.cell? (ad.add (k * 3)) = some (.int .i64 kd) ∧ W.cell? ⟨(ad.add (k * 3)).block, (ad.add (k * 3)).off + 1, none⟩ = some (.string sv) ∧ W.cell? ⟨(ad.add (k * 3)).block, (ad.add (k * 3)).off + 2, none⟩ = some (.int .u64 un) by
          obtain ⟨ad', e, h1, h2, h3⟩ := actK_at (hCw W hW) hlt
          injection e with e
          subst e
          rw [hact] at h1 h2 h3
          refine ⟨h1, ?_, ?_⟩
          · rw [← add_field _ _ 1 (by omega)]; exact h2
          · rw [← add_field _ _ 2 (by omega)]; exact h3)
        have hbuf := hP.buf
        obtain ⟨Aw, cw, hvw, -⟩ := hH.rw.slice
        obtain ⟨Ar, cr, hvr, -⟩ := hH.rr.slice
        obtain ⟨Am, cm, hvm, -⟩ := hH.rm.slice
        rw [List.length_map] at hvw hvr hvm
        subst hvw hvr hvm
        have HAct := Hid.mk hact
        clear hact hCw hl
        have a1 : (wr.alloc (.cells #[.bool false, .bool false, .int .u64 0, .slice none 0 0, .int .i64 0, .bool false, .int .u64 0, .slice none 0 0] 58)).cell? (ad.add (k * 3)) = some (.int .i64 kd) := (HCell.out _ ((Keep.refl [] wr).alloc _)).1
        have a2 : (wr.alloc (.cells #[.bool false, .bool false, .int .u64 0, .slice none 0 0, .int .i64 0, .bool false, .int .u64 0, .slice none 0 0] 58)).cell? ⟨(ad.add (k * 3)).block, (ad.add (k * 3)).off + 1, none⟩ = some (.string sv) := (HCell.out _ ((Keep.refl [] wr).alloc _)).2.1
        have a3 : (wr.alloc (.cells #[.bool false, .bool false, .int .u64 0, .slice none 0 0, .int .i64 0, .bool false, .int .u64 0, .slice none 0 0] 58)).cell? ⟨(ad.add (k * 3)).block, (ad.add (k * 3)).off + 2, none⟩ = some (.int .u64 un) := (HCell.out _ ((Keep.refl [] wr).alloc _)).2.2
        have hMb := fun (W : World) (h : Keep [] (wr.alloc (.cells #[.bool false, .bool false, .int .u64 0, .slice none 0 0, .int .i64 0, .bool false, .int .u64 0, .slice none 0 0] 58)) W) => (Blk.new wr 58 #[.bool false, .bool false, .int .u64 0, .slice none 0 0, .int .i64 0, .bool false, .int .u64 0, .slice none 0 0]).keep h (by simp)
        have HMb := Hid.mk hMb
        clear hMb
        by_cases h1 : kd = 1
        · have hbf1 : BufAt (wr.alloc (.cells #[.bool false, .bool false, .int .u64 0, .slice none 0 0, .int .i64 0, .bool false, .int .u64 0, .slice none 0 0] 58)) x := hbuf.keep ((Keep.refl [] wr).alloc _) (by simp)
          obtain ⟨fv, hff, hfs⟩ := reffit_f sv s.size hs
          have HFit := Hid.mk (fun W => PInplacePlays.haycroftlaw18_fit.calls sv s.size fv W hff)
          have HNW := Hid.mk (fun W (hW : BufAt W x) => newWriter_ok x 1 1 fv W hW (by omega) (by unfold U64; omega) (by omega) (by rw [hsc.bits, hfs]; exact may_six _ hs))
          rw [lit2, lit5] at HNW
          have HWd := Hid.mk (fun W => rwordsref_ok fv W (by omega))
          have HFw := Hid.mk (show (wordsL fv).length = (s.size + 7) / 8 by rw [wordsL_length]; unfold wordsN; rw [hfs])
          have HFz := Hid.mk (show Zt s.size (wordsL fv) by rw [← hfs]; exact zt_words fv)
          have HFu := Hid.mk (wordsL_u64 fv)
          have HFn := Hid.mk (show wordsN fv = (s.size + 7) / 8 by unfold wordsN; rw [hfs])
          rw [HFn.out] at HNW
          have HFs := Hid.mk hfs
          clear hff hfs a3
          generalize wordsL fv = fl at *
          go_upto_if 103 with (first
            | (go_at_call 60; refine (HFit.out _).mono ?_; rintro e w4 ⟨rfl, hk4⟩; have hk4 := Keep.of_below hk4 [])
            | (go_at_call 11; refine (HNW.out w4 (hbf1.keep hk4 (by simp))).mono ?_; rintro e w5 ⟨wp, wv0, rfl, hwr, hwn, hk5⟩)
            | (go_at_call 61; refine (HWd.out w5).mono ?_; rintro e w6 ⟨lv, rfl, hlv, hk6⟩; obtain ⟨A6, c6, rfl, -, -, -⟩ := Own.reads hlv; have hkm := (hk4.trans hk5 (by simp)).trans hk6 (by simp); have hbm := HMb.out _ hkm; have hcm := hbm.cell; have hfm := hbm.froz))
          have hz4 := hk4.size
          have hz5 := hk5.size
          have hk0 : Keep [] wr (w6.setCell ⟨wr.heap.size, 3, none⟩ (.slice A6 fl.length c6)) := (((Keep.refl [] wr).alloc _).trans hkm (by simp)).set (.inr (Nat.le_refl _)) _ _
          have hkl : Keep [wr.heap.size] w6 (w6.setCell ⟨wr.heap.size, 3, none⟩ (.slice A6 fl.length c6)) := (Keep.refl _ _).set (by simp) _ _
          have hWr : WrAt (w6.setCell ⟨wr.heap.size, 3, none⟩ (.slice A6 fl.length c6)) x.b 2 5 ((s.size + 7) / 8) (Wr.fresh wp wv0 fl) := (hwr.keep hk6 (by simp)).keep hkl (fun g hg hm => by have := hwn g hg; simp at hm hz4; omega)
          have hlw5 := hwr.lt
          have hlr := (hlv.base0).keepB hkl (fun g hg hm => by have := (hlv.lt hg).1; simp at hm hz4; omega)
          have hWk := wk0_at (hbm.set 3 (.slice A6 fl.length c6)) hlr HFu.out (show U64 0 by unfold U64; omega) (by rw [HFw.out]; omega)
          have hlb : ∀ g, (Value.slice A6 fl.length c6).ownBlock = some g → w5.heap.size ≤ g := fun g hg => (hlv.lt hg).1
          clear hcm hfm hbm hwr hlv hk6 hkl hlr
          generalize w6.setCell ⟨wr.heap.size, 3, none⟩ (.slice A6 fl.length c6) = wv at *
          have hPr : PrAt wv x ⟨cp, false, 0, v, l⟩ s.size ⟨false, Wr.fresh wp wv0 fl, Rd.fresh 0 0, wk0 wr.heap.size false false 0 (.slice A6 fl.length c6) fl⟩ := ⟨by simp, fun _ => ⟨by rw [show (Ce.mk cp false 0 v l).l.length = (s.size + 7) / 8 from HLw.out]; exact hWr, ⟨rfl, rfl, rfl, rfl, HFw.out.trans HLw.out.symm, HFz.out, by simp [Wr.fresh], HFu.out, .inl ⟨rfl, rfl, rfl, rfl, fun _ => rfl⟩⟩⟩⟩
          have hPf : ∀ g ∈ (Pl.mk false (Wr.fresh wp wv0 fl) (Rd.fresh 0 0) (wk0 wr.heap.size false false 0 (.slice A6 fl.length c6) fl)).fp, wr.heap.size ≤ g := by intro g hg; have hg2 : g ∈ (Wr.fresh wp wv0 fl).fp := hg; have := hwn g hg2; simp at hz4; omega
          have hMf : ∀ g ∈ (wk0 wr.heap.size false false 0 (.slice A6 fl.length c6) fl).fp, wr.heap.size ≤ g ∧ g ∉ (Pl.mk false (Wr.fresh wp wv0 fl) (Rd.fresh 0 0) (wk0 wr.heap.size false false 0 (.slice A6 fl.length c6) fl)).fp := by
            intro g hg
            have hg2 : g = wr.heap.size ∨ (Value.slice A6 fl.length c6).ownBlock = some g := by
              unfold Wk.fp wk0 at hg
              simpa [Value.ownBlock] using hg
            rcases hg2 with rfl | hg2
            · exact ⟨Nat.le_refl _, fun hm => by have hm2 : wr.heap.size ∈ (Wr.fresh wp wv0 fl).fp := hm; have := hwn _ hm2; simp at hz4; omega⟩
            · have := hlb g hg2
              refine ⟨by simp at hz4; omega, fun hm => ?_⟩
              have hm2 : g ∈ (Wr.fresh wp wv0 fl).fp := hm
              have := hlw5 g hm2
              omega
          have HStep := Hid.mk (fun (wz : World) (vw' vr' vm' : Value) (k2 : Keep (w2.heap.size :: ((Value.slice Aw P.length cw).ownBlock.toList ++ ((Value.slice Ar P.length cr).ownBlock.toList ++ (Value.slice Am P.length cm).ownBlock.toList))) wv wz)
              (hB : ScB wz w2.heap.size x.b cp vw' vr' vm' (P.map Pl.wp ++ [some wp]) (P.map Pl.rp ++ [none]) (P.map (fun p => some p.m.p) ++ [some wr.heap.size])) (n1 : NewRow (.slice Aw P.length cw) vw' wv.heap.size) (n2 : NewRow (.slice Ar P.length cr) vr' wv.heap.size) (n3 : NewRow (.slice Am P.length cm) vm' wv.heap.size) =>
              OpenR.step (p := ⟨false, Wr.fresh wp wv0 fl, Rd.fresh 0 0, wk0 wr.heap.size false false 0 (.slice A6 fl.length c6) fl⟩) (q := (false, false, 0)) (act := (kd, sv, un)) hkp HOld.out HLen.out HSt.out hP hD hH hk0 hPr hWk hPf hMf rfl k2 hB n1 n2 n3 (by rw [HLA.out]; exact hlt) HAct.out (by unfold specOf; rw [if_pos h1]) ⟨rfl, rfl, rfl, fun _ => rfl, by simp, rfl, rfl⟩)
          have hB0 := hH.scb.keep hk0 (by simp) (by simp) (by simp) (by simp)
          have hc0 := hB0.blk.cell
          have hf0 := hB0.blk.froz
          go_wp2_with (first
            | (at_builtin; refine Kd.R_append (Kd.scalar encP (fun _ => rfl)) 0 rfl (.tmp 109) (.tmp 111) 51 28 (.pointer none) 8 rfl Try.underlying51 info_pw rfl (by decide) (by omega) (.slice Aw P.length cw) (P.map Pl.wp) (some wp) [encP (some wp)] (fun _ => True) (fun _ => False) rfl (by first | rfl | (refine row_at ?_; simp)) rfl (fun _ hk => hk.elim) (fun _ _ => trivial) hB0.rw (Below.refl 0 _) (Nat.zero_le _) (by simp; omega) ?_; intro v1 y1 ho1 _ hg1 hat1; obtain ⟨A1, c1, rfl⟩ := OwnP.slice_n ho1 (P.length + 1) (by simp); have hbb1 := ScB.at_w hB0 hg1; have hbc1 := hbb1.cell; have hbf1 := hbb1.froz; obtain ⟨hB1, hK1⟩ := ScB.push_w hB0 ho1 hg1; have hsc1 := hB1.blk.cell; have hsf1 := hB1.blk.froz; have hz1 := hK1.size)
            | (at_builtin; refine Kd.R_append (Kd.scalar encP (fun _ => rfl)) 0 rfl (.tmp 119) (.tmp 121) 52 31 (.pointer none) 8 rfl Try.underlying52 info_pr rfl (by decide) (by omega) (.slice Ar P.length cr) (P.map Pl.rp) none [encP none] (fun _ => True) (fun _ => False) rfl (by first | rfl | (refine row_at ?_; simp)) rfl (fun _ hk => hk.elim) (fun _ _ => trivial) hB1.rr (Below.refl 0 _) (Nat.zero_le _) (by simp; omega) ?_; intro v2 y2 ho2 _ hg2 hat2; obtain ⟨A2, c2, rfl⟩ := OwnP.slice_n ho2 (P.length + 1) (by simp); have hbb2 := ScB.at_r hB1 hg2; have hbc2 := hbb2.cell; have hbf2 := hbb2.froz; obtain ⟨hB2, hK2⟩ := ScB.push_r hB1 ho2 hg2; have hsc2 := hB2.blk.cell; have hsf2 := hB2.blk.froz; have hz2 := hK2.size)
            | (at_builtin; refine Kd.R_append (Kd.scalar encP (fun _ => rfl)) 0 rfl (.tmp 129) (.tmp 131) 53 59 (.pointer none) 8 rfl Try.underlying53 info_pk rfl (by decide) (by omega) (.slice Am P.length cm) (P.map fun (p : Pl) => some p.m.p) (some wr.heap.size) [encP (some wr.heap.size)] (fun _ => True) (fun _ => False) rfl (by first | rfl | (refine row_at ?_; simp)) rfl (fun _ hk => hk.elim) (fun _ _ => trivial) hB2.rm (Below.refl 0 _) (Nat.zero_le _) (by simp; omega) ?_; intro v3 y3 ho3 _ hg3 hat3; obtain ⟨A3, c3, rfl⟩ := OwnP.slice_n ho3 (P.length + 1) (by simp); have hbb3 := ScB.at_m hB2 hg3; have hbc3 := hbb3.cell; have hbf3 := hbb3.froz; obtain ⟨hB3, hK3⟩ := ScB.push_m hB2 ho3 hg3; have hsc3 := hB3.blk.cell; have hsf3 := hB3.blk.froz; have hz3 := hK3.size))
          go_roundw
          case rel =>
            have hK12 := (hK1.mono (S' := w2.heap.size :: ((Value.slice Aw P.length cw).ownBlock.toList ++ ((Value.slice Ar P.length cr).ownBlock.toList ++ (Value.slice Am P.length cm).ownBlock.toList))) (fun g hg => .inl (by simp only [List.mem_cons, List.mem_append, Option.mem_toList] at hg ⊢; rcases hg with hg | hg <;> simp [hg]))).trans hK2 (fun g hg => .inl (by simp only [List.mem_cons, List.mem_append, Option.mem_toList] at hg ⊢; rcases hg with hg | hg <;> simp [hg]))
            exact ⟨k + 1, by omega, by omega, by go_num, HStep.out _ _ _ _ (hK12.trans hK3 (fun g hg => .inl (by simp only [List.mem_cons, List.mem_append, Option.mem_toList] at hg ⊢; rcases hg with hg | hg <;> simp [hg]))) hB3 (NewRow.of hat1 (by omega)) (NewRow.of hat2 (by simp at hz1 ⊢; omega)) (NewRow.of hat3 (by simp at hz1 hz2 ⊢; omega))⟩
          case measure => simp [intOf]; omega
        · by_cases h2 : kd = 2
          · by_cases h8 : s.size = 8
            · have hd8 : ((s.size : Int) != 8) = false := by rw [h8]; rfl
              have H8 := Hid.mk h8
              clear h8
              have hUn : U64 un := hUa
              have HUn := Hid.mk hUn
              have hbf1 : BufAt (wr.alloc (.cells #[.bool false, .bool false, .int .u64 0, .slice none 0 0, .int .i64 0, .bool false, .int .u64 0, .slice none 0 0] 58)) x := hbuf.keep ((Keep.refl [] wr).alloc _) (by simp)
              have HNA := Hid.mk (newAdder_ok x 1 1 un _ hbf1 (by omega) (by unfold U64; omega) hUn (by rw [hsc.bits]; exact may_six 8 (by omega)))
              rw [lit2, lit5] at HNA
              clear a2 hUa hUn
              go_upto_if 103 with ((go_at_call 13; refine (HNA.out).mono ?_; rintro e w4 ⟨wp, wv0, fl, rfl, hfl, hwr, hwn, hk4⟩; have hfl := Hid.mk hfl; have hbm := HMb.out _ hk4; have hcm := hbm.cell; have hfm := hbm.froz; have a4 := (HCell.out (w4.setCell ⟨wr.heap.size, 1, none⟩ (.bool true)) ((((Keep.refl [] wr).alloc _).trans hk4 (by simp)).set (.inr (Nat.le_refl _)) _ _)).2.2; have hcm2 := (hbm.set 1 (.bool true)).cell; have hfm2 := (hbm.set 1 (.bool true)).froz))
              have hz4 := hk4.size
              have hk0 : Keep [] wr ((w4.setCell ⟨wr.heap.size, 1, none⟩ (.bool true)).setCell ⟨wr.heap.size, 2, none⟩ (.int .u64 un)) := ((((Keep.refl [] wr).alloc _).trans hk4 (by simp)).set (.inr (Nat.le_refl _)) _ _).set (.inr (Nat.le_refl _)) _ _
              have hkl : Keep [wr.heap.size] w4 ((w4.setCell ⟨wr.heap.size, 1, none⟩ (.bool true)).setCell ⟨wr.heap.size, 2, none⟩ (.int .u64 un)) := ((Keep.refl _ _).set (by simp) _ _).set (by simp) _ _
              have hWr : WrAt ((w4.setCell ⟨wr.heap.size, 1, none⟩ (.bool true)).setCell ⟨wr.heap.size, 2, none⟩ (.int .u64 un)) x.b 2 5 1 (Wr.adder wp wv0 fl un) := hwr.keep hkl (fun g hg hm => by have := hwn g hg; simp at hm this; omega)
              have hWk := wk0_at ((hbm.set 1 (.bool true)).set 2 (.int .u64 un)) (Own.nil _ _ _ _) (by simp) HUn.out (by simp)
              clear hcm hfm hbm hwr hkl hcm2 hfm2 a4
              generalize (w4.setCell ⟨wr.heap.size, 1, none⟩ (.bool true)).setCell ⟨wr.heap.size, 2, none⟩ (.int .u64 un) = wv at *
              have hPr : PrAt wv x ⟨cp, false, 0, v, l⟩ s.size ⟨false, Wr.adder wp wv0 fl un, Rd.fresh 0 0, wk0 wr.heap.size false true un (.slice none 0 0) []⟩ := by
                have e1 : (Ce.mk cp false 0 v l).l.length = 1 := HLw.out.trans (by rw [H8.out])
                refine ⟨by simp, fun _ => ⟨by rw [e1]; exact hWr, ⟨rfl, rfl, rfl, rfl, hfl.out.trans e1.symm, ?_, fun _ => H8.out, hWr.range, .inl ⟨rfl, rfl, rfl, rfl, by simp [Wr.adder]⟩⟩⟩⟩
                rw [H8.out]
                exact Zt.one (Nat.le_of_eq hfl.out)
              have hPf : ∀ g ∈ (Pl.mk false (Wr.adder wp wv0 fl un) (Rd.fresh 0 0) (wk0 wr.heap.size false true un (.slice none 0 0) [])).fp, wr.heap.size ≤ g := by intro g hg; have hg2 : g ∈ (Wr.adder wp wv0 fl un).fp := hg; have := hwn g hg2; simp at this; omega
              have hMf : ∀ g ∈ (wk0 wr.heap.size false true un (.slice none 0 0) []).fp, wr.heap.size ≤ g ∧ g ∉ (Pl.mk false (Wr.adder wp wv0 fl un) (Rd.fresh 0 0) (wk0 wr.heap.size false true un (.slice none 0 0) [])).fp := by
                intro g hg
                have hg2 : g = wr.heap.size := by
                  unfold Wk.fp wk0 at hg
                  simpa [Value.ownBlock] using hg
                subst hg2
                exact ⟨Nat.le_refl _, fun hm => by have hm2 : wr.heap.size ∈ (Wr.adder wp wv0 fl un).fp := hm; have := hwn _ hm2; simp at this; omega⟩
              have HStep := Hid.mk (fun (wz : World) (vw' vr' vm' : Value) (k2 : Keep (w2.heap.size :: ((Value.slice Aw P.length cw).ownBlock.toList ++ ((Value.slice Ar P.length cr).ownBlock.toList ++ (Value.slice Am P.length cm).ownBlock.toList))) wv wz)
                  (hB : ScB wz w2.heap.size x.b cp vw' vr' vm' (P.map Pl.wp ++ [some wp]) (P.map Pl.rp ++ [none]) (P.map (fun p => some p.m.p) ++ [some wr.heap.size])) (n1 : NewRow (.slice Aw P.length cw) vw' wv.heap.size) (n2 : NewRow (.slice Ar P.length cr) vr' wv.heap.size) (n3 : NewRow (.slice Am P.length cm) vm' wv.heap.size) =>
                  OpenR.step (p := ⟨false, Wr.adder wp wv0 fl un, Rd.fresh 0 0, wk0 wr.heap.size false true un (.slice none 0 0) []⟩) (q := (false, true, un)) (act := (kd, sv, un)) hkp HOld.out HLen.out HSt.out hP hD hH hk0 hPr hWk hPf hMf rfl k2 hB n1 n2 n3 (by rw [HLA.out]; exact hlt) HAct.out (by unfold specOf; rw [if_neg h1, if_pos h2, if_pos H8.out]) ⟨rfl, rfl, rfl, fun _ => rfl, by simp, rfl, rfl⟩)
              have hB0 := hH.scb.keep hk0 (by simp) (by simp) (by simp) (by simp)
              have hc0 := hB0.blk.cell
              have hf0 := hB0.blk.froz
              go_wp2_with (first
                | (at_builtin; refine Kd.R_append (Kd.scalar encP (fun _ => rfl)) 0 rfl (.tmp 109) (.tmp 111) 51 28 (.pointer none) 8 rfl Try.underlying51 info_pw rfl (by decide) (by omega) (.slice Aw P.length cw) (P.map Pl.wp) (some wp) [encP (some wp)] (fun _ => True) (fun _ => False) rfl (by first | rfl | (refine row_at ?_; simp)) rfl (fun _ hk => hk.elim) (fun _ _ => trivial) hB0.rw (Below.refl 0 _) (Nat.zero_le _) (by simp; omega) ?_; intro v1 y1 ho1 _ hg1 hat1; obtain ⟨A1, c1, rfl⟩ := OwnP.slice_n ho1 (P.length + 1) (by simp); have hbb1 := ScB.at_w hB0 hg1; have hbc1 := hbb1.cell; have hbf1 := hbb1.froz; obtain ⟨hB1, hK1⟩ := ScB.push_w hB0 ho1 hg1; have hsc1 := hB1.blk.cell; have hsf1 := hB1.blk.froz; have hz1 := hK1.size)
                | (at_builtin; refine Kd.R_append (Kd.scalar encP (fun _ => rfl)) 0 rfl (.tmp 119) (.tmp 121) 52 31 (.pointer none) 8 rfl Try.underlying52 info_pr rfl (by decide) (by omega) (.slice Ar P.length cr) (P.map Pl.rp) none [encP none] (fun _ => True) (fun _ => False) rfl (by first | rfl | (refine row_at ?_; simp)) rfl (fun _ hk => hk.elim) (fun _ _ => trivial) hB1.rr (Below.refl 0 _) (Nat.zero_le _) (by simp; omega) ?_; intro v2 y2 ho2 _ hg2 hat2; obtain ⟨A2, c2, rfl⟩ := OwnP.slice_n ho2 (P.length + 1) (by simp); have hbb2 := ScB.at_r hB1 hg2; have hbc2 := hbb2.cell; have hbf2 := hbb2.froz; obtain ⟨hB2, hK2⟩ := ScB.push_r hB1 ho2 hg2; have hsc2 := hB2.blk.cell; have hsf2 := hB2.blk.froz; have hz2 := hK2.size)
                | (at_builtin; refine Kd.R_append (Kd.scalar encP (fun _ => rfl)) 0 rfl (.tmp 129) (.tmp 131) 53 59 (.pointer none) 8 rfl Try.underlying53 info_pk rfl (by decide) (by omega) (.slice Am P.length cm) (P.map fun (p : Pl) => some p.m.p) (some wr.heap.size) [encP (some wr.heap.size)] (fun _ => True) (fun _ => False) rfl (by first | rfl | (refine row_at ?_; simp)) rfl (fun _ hk => hk.elim) (fun _ _ => trivial) hB2.rm (Below.refl 0 _) (Nat.zero_le _) (by simp; omega) ?_; intro v3 y3 ho3 _ hg3 hat3; obtain ⟨A3, c3, rfl⟩ := OwnP.slice_n ho3 (P.length + 1) (by simp); have hbb3 := ScB.at_m hB2 hg3; have hbc3 := hbb3.cell; have hbf3 := hbb3.froz; obtain ⟨hB3, hK3⟩ := ScB.push_m hB2 ho3 hg3; have hsc3 := hB3.blk.cell; have hsf3 := hB3.blk.froz; have hz3 := hK3.size))
              go_roundw
              case rel =>
                have hK12 := (hK1.mono (S' := w2.heap.size :: ((Value.slice Aw P.length cw).ownBlock.toList ++ ((Value.slice Ar P.length cr).ownBlock.toList ++ (Value.slice Am P.length cm).ownBlock.toList))) (fun g hg => .inl (by simp only [List.mem_cons, List.mem_append, Option.mem_toList] at hg ⊢; rcases hg with hg | hg <;> simp [hg]))).trans hK2 (fun g hg => .inl (by simp only [List.mem_cons, List.mem_append, Option.mem_toList] at hg ⊢; rcases hg with hg | hg <;> simp [hg]))
                exact ⟨k + 1, by omega, by omega, by go_num, HStep.out _ _ _ _ (hK12.trans hK3 (fun g hg => .inl (by simp only [List.mem_cons, List.mem_append, Option.mem_toList] at hg ⊢; rcases hg with hg | hg <;> simp [hg]))) hB3 (NewRow.of hat1 (by omega)) (NewRow.of hat2 (by simp at hz1 ⊢; omega)) (NewRow.of hat3 (by simp at hz1 hz2 ⊢; omega))⟩
              case measure => simp [intOf]; omega
            · have hd8 : ((s.size : Int) != 8) = true := by rw [bne_iff_ne]; omega
              have H8 := Hid.mk h8
              clear h8
              clear a2 a3
              go_wp2_with fail
              go_roundw
              case rel => exact ⟨k + 1, by omega, by omega, by go_num, HR.out.skip ((Keep.refl [] wr).alloc _) (by rw [HLA.out]; exact hlt) HAct.out (by unfold specOf; rw [if_neg h1, if_pos h2, if_neg H8.out])⟩
              case measure => simp [intOf]; omega
          · have HNR := Hid.mk (fun obj => newReader_ok x 1 1 s.size (wr.alloc obj) (hbuf.keep ((Keep.refl [] wr).alloc obj) (by simp)) (by omega) (by unfold U64; omega) (by rw [hsc.bits]; exact may_six _ hs))
            rw [lit2, lit5] at HNR
            clear a2 a3
            go_upto_if 103 with ((go_at_call 12; refine (HNR.out _).mono ?_; rintro e w4 ⟨rp, rfl, hrd, hrp, hk4⟩; have hbm := HMb.out _ hk4; have hcm := hbm.cell; have hfm := hbm.froz))
            have hk0 : Keep [] wr (w4.setCell ⟨wr.heap.size, 0, none⟩ (.bool true)) := (((Keep.refl [] wr).alloc _).trans hk4 (by simp)).set (.inr (Nat.le_refl _)) _ _
            have hRd : RdAt (w4.setCell ⟨wr.heap.size, 0, none⟩ (.bool true)) x.b 2 5 ((s.size + 7) / 8) (Rd.fresh rp s.size) := hrd.keep (S := [wr.heap.size]) ((Keep.refl _ _).set (by simp) _ _) (by intro g hg; simp [Rd.fp, Rd.fresh, Value.ownBlock] at hg; subst hg; simp at hrp ⊢; omega)
            have hWk := wk0_at (hbm.set 0 (.bool true)) (Own.nil _ _ _ _) (by simp) (show U64 0 by unfold U64; omega) (by simp)
            have hrp2 : wr.heap.size < rp := by simp at hrp; omega
            clear hcm hfm hbm hrd hk4 hrp
            generalize w4.setCell ⟨wr.heap.size, 0, none⟩ (.bool true) = wv at *
            have hPr : PrAt wv x ⟨cp, false, 0, v, l⟩ s.size ⟨true, Wr.fresh 0 (.slice none 0 0) [], Rd.fresh rp s.size, wk0 wr.heap.size true false 0 (.slice none 0 0) []⟩ := ⟨fun _ => ⟨by rw [show (Ce.mk cp false 0 v l).l.length = (s.size + 7) / 8 from HLw.out]; exact hRd, ⟨rfl, rfl, rfl, by simp [Rd.fresh], .inl ⟨rfl, rfl, rfl, rfl, by simp [Rd.fresh], by simp [wk0]⟩⟩⟩, by simp⟩
            have hPf : ∀ g ∈ (Pl.mk true (Wr.fresh 0 (.slice none 0 0) []) (Rd.fresh rp s.size) (wk0 wr.heap.size true false 0 (.slice none 0 0) [])).fp, wr.heap.size ≤ g := by intro g hg; simp [Pl.fp, Rd.fp, Rd.fresh, Value.ownBlock] at hg; omega
            have hMf : ∀ g ∈ (wk0 wr.heap.size true false 0 (.slice none 0 0) []).fp, wr.heap.size ≤ g ∧ g ∉ (Pl.mk true (Wr.fresh 0 (.slice none 0 0) []) (Rd.fresh rp s.size) (wk0 wr.heap.size true false 0 (.slice none 0 0) [])).fp := by intro g hg; simp [Wk.fp, wk0, Value.ownBlock] at hg; subst hg; simp [Pl.fp, Rd.fp, Rd.fresh, Value.ownBlock]; omega
            have HStep := Hid.mk (fun (wz : World) (vw' vr' vm' : Value) (k2 : Keep (w2.heap.size :: ((Value.slice Aw P.length cw).ownBlock.toList ++ ((Value.slice Ar P.length cr).ownBlock.toList ++ (Value.slice Am P.length cm).ownBlock.toList))) wv wz)
                (hB : ScB wz w2.heap.size x.b cp vw' vr' vm' (P.map Pl.wp ++ [none]) (P.map Pl.rp ++ [some rp]) (P.map (fun p => some p.m.p) ++ [some wr.heap.size])) (n1 : NewRow (.slice Aw P.length cw) vw' wv.heap.size) (n2 : NewRow (.slice Ar P.length cr) vr' wv.heap.size) (n3 : NewRow (.slice Am P.length cm) vm' wv.heap.size) =>
                OpenR.step (p := ⟨true, Wr.fresh 0 (.slice none 0 0) [], Rd.fresh rp s.size, wk0 wr.heap.size true false 0 (.slice none 0 0) []⟩) (q := (true, false, 0)) (act := (kd, sv, un)) hkp HOld.out HLen.out HSt.out hP hD hH hk0 hPr hWk hPf hMf rfl k2 hB n1 n2 n3 (by rw [HLA.out]; exact hlt) HAct.out (by unfold specOf; rw [if_neg h1, if_neg h2]) ⟨rfl, rfl, rfl, by simp, fun _ => rfl, rfl, rfl⟩)
            have hB0 := hH.scb.keep hk0 (by simp) (by simp) (by simp) (by simp)
            have hc0 := hB0.blk.cell
            have hf0 := hB0.blk.froz
            go_wp2_with (first
              | (at_builtin; refine Kd.R_append (Kd.scalar encP (fun _ => rfl)) 0 rfl (.tmp 109) (.tmp 111) 51 28 (.pointer none) 8 rfl Try.underlying51 info_pw rfl (by decide) (by omega) (.slice Aw P.length cw) (P.map Pl.wp) none [encP none] (fun _ => True) (fun _ => False) rfl (by first | rfl | (refine row_at ?_; simp)) rfl (fun _ hk => hk.elim) (fun _ _ => trivial) hB0.rw (Below.refl 0 _) (Nat.zero_le _) (by simp; omega) ?_; intro v1 y1 ho1 _ hg1 hat1; obtain ⟨A1, c1, rfl⟩ := OwnP.slice_n ho1 (P.length + 1) (by simp); have hbb1 := ScB.at_w hB0 hg1; have hbc1 := hbb1.cell; have hbf1 := hbb1.froz; obtain ⟨hB1, hK1⟩ := ScB.push_w hB0 ho1 hg1; have hsc1 := hB1.blk.cell; have hsf1 := hB1.blk.froz; have hz1 := hK1.size)
              | (at_builtin; refine Kd.R_append (Kd.scalar encP (fun _ => rfl)) 0 rfl (.tmp 119) (.tmp 121) 52 31 (.pointer none) 8 rfl Try.underlying52 info_pr rfl (by decide) (by omega) (.slice Ar P.length cr) (P.map Pl.rp) (some rp) [encP (some rp)] (fun _ => True) (fun _ => False) rfl (by first | rfl | (refine row_at ?_; simp)) rfl (fun _ hk => hk.elim) (fun _ _ => trivial) hB1.rr (Below.refl 0 _) (Nat.zero_le _) (by simp; omega) ?_; intro v2 y2 ho2 _ hg2 hat2; obtain ⟨A2, c2, rfl⟩ := OwnP.slice_n ho2 (P.length + 1) (by simp); have hbb2 := ScB.at_r hB1 hg2; have hbc2 := hbb2.cell; have hbf2 := hbb2.froz; obtain ⟨hB2, hK2⟩ := ScB.push_r hB1 ho2 hg2; have hsc2 := hB2.blk.cell; have hsf2 := hB2.blk.froz; have hz2 := hK2.size)
              | (at_builtin; refine Kd.R_append (Kd.scalar encP (fun _ => rfl)) 0 rfl (.tmp 129) (.tmp 131) 53 59 (.pointer none) 8 rfl Try.underlying53 info_pk rfl (by decide) (by omega) (.slice Am P.length cm) (P.map fun (p : Pl) => some p.m.p) (some wr.heap.size) [encP (some wr.heap.size)] (fun _ => True) (fun _ => False) rfl (by first | rfl | (refine row_at ?_; simp)) rfl (fun _ hk => hk.elim) (fun _ _ => trivial) hB2.rm (Below.refl 0 _) (Nat.zero_le _) (by simp; omega) ?_; intro v3 y3 ho3 _ hg3 hat3; obtain ⟨A3, c3, rfl⟩ := OwnP.slice_n ho3 (P.length + 1) (by simp); have hbb3 := ScB.at_m hB2 hg3; have hbc3 := hbb3.cell; have hbf3 := hbb3.froz; obtain ⟨hB3, hK3⟩ := ScB.push_m hB2 ho3 hg3; have hsc3 := hB3.blk.cell; have hsf3 := hB3.blk.froz; have hz3 := hK3.size))
            go_roundw
            case rel =>
              have hK12 := (hK1.mono (S' := w2.heap.size :: ((Value.slice Aw P.length cw).ownBlock.toList ++ ((Value.slice Ar P.length cr).ownBlock.toList ++ (Value.slice Am P.length cm).ownBlock.toList))) (fun g hg => .inl (by simp only [List.mem_cons, List.mem_append, Option.mem_toList] at hg ⊢; rcases hg with hg | hg <;> simp [hg]))).trans hK2 (fun g hg => .inl (by simp only [List.mem_cons, List.mem_append, Option.mem_toList] at hg ⊢; rcases hg with hg | hg <;> simp [hg]))
              exact ⟨k + 1, by omega, by omega, by go_num, HStep.out _ _ _ _ (hK12.trans hK3 (fun g hg => .inl (by simp only [List.mem_cons, List.mem_append, Option.mem_toList] at hg ⊢; rcases hg with hg | hg <;> simp [hg]))) hB3 (NewRow.of hat1 (by omega)) (NewRow.of hat2 (by simp at hz1 ⊢; omega)) (NewRow.of hat3 (by simp at hz1 hz2 ⊢; omega))⟩
            case measure => simp [intOf]; omega
      · go_wp2_with fail
        go_ret2
        exact ⟨_, rfl, x, cp, v, hsc, by rw [show min na 6 = k by omega]; exact HR.out⟩
    · go_wp2_with fail
      go_ret2
      exact ⟨_, rfl, x, cp, v, hsc, by rw [show min na 6 = k by omega]; exact HR.out⟩
end Go.Proofs.Ytlgebknbfchnlaa

/- law18's plays: the state between calls, and what each call does to it. -/
namespace Go.Proofs.Ytlgebknbfchnlaa
set_option linter.unusedVariables false
set_option linter.unusedSimpArgs false
open Go Go.RowKit Go.Hay Go.Proofs.YtlgebknbfchnlaaW.PrintWords

/-- The scene, on both sides: ce, P the program's (with its ghosts), ch, M the document's as it lies in memory. -/
structure St (w0 w : World) (n sp b cp : Nat) (vw vr vm : Value) (ws rs : List (Option Nat)) (ce : Ce) (P : List Pl) (ch : Ce) (M : List Wk) : Prop where
  keep : Keep [] w0 w
  ex : ∃ o x, x.b = b ∧ ch.p = cp ∧ (∀ g, g < w0.heap.size → o g = 99) ∧ ScP w o x ce n P ∧ ScD w o ch M ∧ ScH w o sp b cp vw vr vm ws rs (M.map fun m => some m.p)
  pw : P.map Pl.wp = ws
  pr : P.map Pl.rp = rs
  len : P.length = M.length
  six : M.length ≤ 6
  reads : ∀ (i : Nat) (p : Pl) (m : Wk), P[i]? = some p → M[i]? = some m → m.reads = p.isR
  clen : ch.l.length = ce.l.length

theorem St.kept {w0 w w' : World} {n sp b cp : Nat} {vw vr vm : Value} {ws rs : List (Option Nat)} {ce : Ce} {P : List Pl} {ch : Ce} {M : List Wk} (h : St w0 w n sp b cp vw vr vm ws rs ce P ch M) (k : Keep [] w w') : St w0 w' n sp b cp vw vr vm ws rs ce P ch M := by
  obtain ⟨o, x, h1, h2, h3, h4, h5, h6⟩ := h.ex
  exact ⟨h.keep.trans k (by simp), ⟨o, x, h1, h2, h3, h4.keep k (by simp) (fun _ _ => rfl), h5.keep k (by simp) (fun _ _ => rfl), h6.keep k (by simp) (fun _ _ => rfl)⟩, h.pw, h.pr, h.len, h.six, h.reads, h.clen⟩
theorem St.drewN {w0 w : World} {n sp b cp : Nat} {vw vr vm : Value} {ws rs : List (Option Nat)} {ce : Ce} {P : List Pl} {ch : Ce} {M : List Wk} (h : St w0 w n sp b cp vw vr vm ws rs ce P ch M) (k : Nat) : St w0 (w.drewN k) n sp b cp vw vr vm ws rs ce P ch M := h.kept ((Keep.refl [] w).drewN k)
theorem St.drew {w0 w : World} {n sp b cp : Nat} {vw vr vm : Value} {ws rs : List (Option Nat)} {ce : Ce} {P : List Pl} {ch : Ce} {M : List Wk} (h : St w0 w n sp b cp vw vr vm ws rs ce P ch M) : St w0 w.drew n sp b cp vw vr vm ws rs ce P ch M := h.kept ((Keep.refl [] w).drew)

/-- The scene's block. -/
theorem St.scene {w0 w : World} {n sp b cp : Nat} {vw vr vm : Value} {ws rs : List (Option Nat)} {ce : Ce} {P : List Pl} {ch : Ce} {M : List Wk} (h : St w0 w n sp b cp vw vr vm ws rs ce P ch M) : Blk w sp 55 #[.pointer (some ⟨b, 0, none⟩), .pointer (some ⟨cp, 0, none⟩), vw, vr, vm] := by
  obtain ⟨o, x, h1, h2, h3, h4, h5, h6⟩ := h.ex
  exact h6.blk
theorem St.wl {w0 w : World} {n sp b cp : Nat} {vw vr vm : Value} {ws rs : List (Option Nat)} {ce : Ce} {P : List Pl} {ch : Ce} {M : List Wk} (h : St w0 w n sp b cp vw vr vm ws rs ce P ch M) : ws.length = M.length ∧ rs.length = M.length := by
  rw [← h.pw, ← h.pr, List.length_map, List.length_map, h.len]
  exact ⟨rfl, rfl⟩
theorem slice_inj {a a' : Option Addr} {l l' c c' : Nat} (h : Value.slice a l c = .slice a' l' c') : a = a' := by injection h
theorem St.at_w {w0 w : World} {n sp b cp g l c : Nat} {vr vm : Value} {ws rs : List (Option Nat)} {ce : Ce} {P : List Pl} {ch : Ce} {M : List Wk} (h : St w0 w n sp b cp (.slice (some ⟨g, 0, none⟩) l c) vr vm ws rs ce P ch M) {i : Nat} (hi : i < M.length) : w.cell? ⟨g, i, none⟩ = some (encP (ws.getD i none)) := by
  obtain ⟨o, x, h1, h2, h3, h4, h5, h6⟩ := h.ex
  obtain ⟨g', c', e, _, hc⟩ := h6.rw.at_ (j := i) (by rw [h.wl.1]; exact hi)
  have := slice_inj e
  simp at this
  subst this
  exact hc
theorem St.at_r {w0 w : World} {n sp b cp g l c : Nat} {vw vm : Value} {ws rs : List (Option Nat)} {ce : Ce} {P : List Pl} {ch : Ce} {M : List Wk} (h : St w0 w n sp b cp vw (.slice (some ⟨g, 0, none⟩) l c) vm ws rs ce P ch M) {i : Nat} (hi : i < M.length) : w.cell? ⟨g, i, none⟩ = some (encP (rs.getD i none)) := by
  obtain ⟨o, x, h1, h2, h3, h4, h5, h6⟩ := h.ex
  obtain ⟨g', c', e, _, hc⟩ := h6.rr.at_ (j := i) (by rw [h.wl.2]; exact hi)
  have := slice_inj e
  simp at this
  subst this
  exact hc
theorem getD_map_some {α β : Type} (f : α → β) (l : List α) (i : Nat) (a : α) (h : l[i]? = some a) : (l.map fun x => some (f x)).getD i none = some (f a) := by
  rw [List.getD_eq_getElem?_getD, List.getElem?_map, h]; rfl
theorem St.at_m {w0 w : World} {n sp b cp g l c : Nat} {vw vr : Value} {ws rs : List (Option Nat)} {ce : Ce} {P : List Pl} {ch : Ce} {M : List Wk} (h : St w0 w n sp b cp vw vr (.slice (some ⟨g, 0, none⟩) l c) ws rs ce P ch M) {i : Nat} {m : Wk} (hm : M[i]? = some m) : w.cell? ⟨g, i, none⟩ = some (.pointer (some ⟨m.p, 0, none⟩)) := by
  obtain ⟨o, x, h1, h2, h3, h4, h5, h6⟩ := h.ex
  obtain ⟨g', c', e, _, hc⟩ := h6.rm.at_ (j := i) (by rw [List.length_map]; exact (List.getElem?_eq_some_iff.1 hm).1)
  have := slice_inj e
  simp at this
  subst this
  rw [getD_map_some _ _ _ _ hm] at hc
  exact hc
/-- The rows of pointers, as slices. -/
theorem St.slices {w0 w : World} {n sp b cp : Nat} {vw vr vm : Value} {ws rs : List (Option Nat)} {ce : Ce} {P : List Pl} {ch : Ce} {M : List Wk} (h : St w0 w n sp b cp vw vr vm ws rs ce P ch M) (h0 : 0 < M.length) :
    (∃ g c, vw = .slice (some ⟨g, 0, none⟩) M.length c) ∧ (∃ g c, vr = .slice (some ⟨g, 0, none⟩) M.length c) ∧ (∃ g c, vm = .slice (some ⟨g, 0, none⟩) M.length c) := by
  obtain ⟨o, x, h1, h2, h3, h4, h5, h6⟩ := h.ex
  obtain ⟨l1, l2⟩ := h.wl
  obtain ⟨g1, c1, e1, _, _⟩ := h6.rw.at_ (j := 0) (by omega)
  obtain ⟨g2, c2, e2, _, _⟩ := h6.rr.at_ (j := 0) (by omega)
  obtain ⟨g3, c3, e3, _, _⟩ := h6.rm.at_ (j := 0) (by rw [List.length_map]; exact h0)
  rw [l1] at e1
  rw [l2] at e2
  rw [List.length_map] at e3
  exact ⟨⟨g1, c1, e1⟩, ⟨g2, c2, e2⟩, ⟨g3, c3, e3⟩⟩
theorem St.slices0 {w0 w : World} {n sp b cp : Nat} {vw vr vm : Value} {ws rs : List (Option Nat)} {ce : Ce} {P : List Pl} {ch : Ce} {M : List Wk} (h : St w0 w n sp b cp vw vr vm ws rs ce P ch M) :
    (∃ A c, vw = .slice A M.length c) ∧ (∃ A c, vr = .slice A M.length c) ∧ (∃ A c, vm = .slice A M.length c) := by
  obtain ⟨o, x, h1, h2, h3, h4, h5, h6⟩ := h.ex
  obtain ⟨l1, l2⟩ := h.wl
  obtain ⟨A1, c1, e1, _⟩ := h6.rw.slice
  obtain ⟨A2, c2, e2, _⟩ := h6.rr.slice
  obtain ⟨A3, c3, e3, _⟩ := h6.rm.slice
  rw [l1] at e1
  rw [l2] at e2
  rw [List.length_map] at e3
  exact ⟨⟨A1, c1, e1⟩, ⟨A2, c2, e2⟩, ⟨A3, c3, e3⟩⟩
/-- The document's cells and players in memory. -/
theorem St.doc {w0 w : World} {n sp b cp : Nat} {vw vr vm : Value} {ws rs : List (Option Nat)} {ce : Ce} {P : List Pl} {ch : Ce} {M : List Wk} (h : St w0 w n sp b cp vw vr vm ws rs ce P ch M) : CeAt w ch ∧ ch.p = cp ∧ ∀ (i : Nat) (m : Wk), M[i]? = some m → WkAt w m := by
  obtain ⟨o, x, h1, h2, h3, h4, h5, h6⟩ := h.ex
  exact ⟨h5.cel, h2, fun i m hm => (h5.ms i m hm).1⟩
theorem St.player {w0 w : World} {n sp b cp : Nat} {vw vr vm : Value} {ws rs : List (Option Nat)} {ce : Ce} {P : List Pl} {ch : Ce} {M : List Wk} (h : St w0 w n sp b cp vw vr vm ws rs ce P ch M) {i : Nat} {p : Pl} (hp : P[i]? = some p) : ∃ x, x.b = b ∧ BufAt w x ∧ Sh x ce n ∧ PrAt w x ce n p := by
  obtain ⟨o, x, h1, h2, h3, h4, h5, h6⟩ := h.ex
  exact ⟨x, h1, h4.buf, h4.sh, (h4.pls i p hp).1⟩
theorem St.buf {w0 w : World} {n sp b cp : Nat} {vw vr vm : Value} {ws rs : List (Option Nat)} {ce : Ce} {P : List Pl} {ch : Ce} {M : List Wk} (h : St w0 w n sp b cp vw vr vm ws rs ce P ch M) : ∃ x, x.b = b ∧ BufAt w x ∧ Sh x ce n := by
  obtain ⟨o, x, h1, h2, h3, h4, h5, h6⟩ := h.ex
  exact ⟨x, h1, h4.buf, h4.sh⟩
theorem St.wp {w0 w : World} {n sp b cp : Nat} {vw vr vm : Value} {ws rs : List (Option Nat)} {ce : Ce} {P : List Pl} {ch : Ce} {M : List Wk} (h : St w0 w n sp b cp vw vr vm ws rs ce P ch M) {i : Nat} {p : Pl} (hp : P[i]? = some p) : ws.getD i none = p.wp ∧ rs.getD i none = p.rp := by
  rw [← h.pw, ← h.pr, List.getD_eq_getElem?_getD, List.getD_eq_getElem?_getD, List.getElem?_map, List.getElem?_map, hp]
  exact ⟨rfl, rfl⟩

theorem map_set_same {α β : Type} (f : α → β) (l : List α) (i : Nat) (a b : α) (h : l[i]? = some a) (e : f b = f a) : (l.set i b).map f = l.map f := by
  rw [List.map_set, e]
  apply List.ext_getElem?
  intro j
  rw [List.getElem?_set]
  split
  · rename_i hij
    subst hij
    rw [List.getElem?_map, h]
    have := (List.getElem?_eq_some_iff.1 h).1
    simp [this]
  · rfl

/-- Other ghosts of where the document's rows lie. -/
def Pl.gh (p : Pl) (a b : Value) : Pl := { p with m := { p.m with lv := a, gv := b } }
theorem ScP.ghost {w : World} {o : Nat → Nat} {x : Buf} {ce : Ce} {n : Nat} {P : List Pl} {i : Nat} {q : Pl} (h : ScP w o x ce n (P.set i q)) (a b : Value) : ScP w o x ce n (P.set i (q.gh a b)) := by
  have key : ∀ (j : Nat) (r : Pl), (P.set i (q.gh a b))[j]? = some r → ∃ r', (P.set i q)[j]? = some r' ∧ r.fp = r'.fp ∧ r.holds = r'.holds ∧ (PrAt w x ce n r' → PrAt w x ce n r) := by
    intro j r hr
    rcases set_get hr with ⟨rfl, rfl, hl⟩ | ⟨hj, hr⟩
    · refine ⟨q, by rw [List.getElem?_set]; simp [hl], rfl, rfl, fun hp => ⟨fun e => ⟨(hp.r e).1, ?_⟩, fun e => ⟨(hp.w e).1, ?_⟩⟩⟩
      · obtain ⟨h1, h2, h3, h4, h5⟩ := (hp.r e).2
        exact ⟨h1, h2, h3, h4, h5⟩
      · obtain ⟨h1, h2, h3, h4, h5, h6, h7, h8, h9⟩ := (hp.w e).2
        exact ⟨h1, h2, h3, h4, h5, h6, h7, h8, h9⟩
    · refine ⟨r, ?_, rfl, rfl, id⟩
      rw [List.getElem?_set]
      rw [if_neg (fun e => hj e.symm)]
      exact hr
  refine ⟨h.buf, h.sh, h.bo, fun j r hr => ?_, fun j k r s hr hs hrh hsh => ?_⟩
  · obtain ⟨r', h1, h2, _, h4⟩ := key j r hr
    obtain ⟨h5, h6⟩ := h.pls j r' h1
    exact ⟨h4 h5, by rw [h2]; exact h6⟩
  · obtain ⟨r', h1, _, h2, _⟩ := key j r hr
    obtain ⟨s', h3, _, h4, _⟩ := key k s hs
    exact h.uniq j k r' s' h1 h3 (by rw [← h2]; exact hrh) (by rw [← h4]; exact hsh)

/-- A player's next state, on the program's side: which its own part is, is told by SimR or SimW. -/
structure Moved (p q : Pl) (ce : Ce) : Prop where
  isR : q.isR = p.isR
  wp : q.wp = p.wp
  rp : q.rp = p.rp
  m : q.m = (p.m.step ce).2.1

theorem scp_fit {w : World} {o : Nat → Nat} {x : Buf} {ce : Ce} {n : Nat} {P : List Pl} (h : ScP w o x ce n P) {i : Nat} {p : Pl} (hp : P[i]? = some p) : p.m.Fit ce ∧ (p.m.step ce).2.2.l.length = ce.l.length ∧ p.m.reads = p.isR := by
  obtain ⟨hpr, _⟩ := h.pls i p hp
  cases hr : p.isR with
  | true =>
    obtain ⟨_, hs⟩ := hpr.r hr
    obtain ⟨_, h1, _, h2, _⟩ := simR_step h.sh hs
    exact ⟨h1, by rw [h2], hs.reads⟩
  | false =>
    obtain ⟨_, hs⟩ := hpr.w hr
    obtain ⟨_, h1, _, _, _, h2⟩ := simW_step h.sh hs
    exact ⟨h1, h2.len, hs.reads⟩

theorem old_off {w0 : World} {o : Nat → Nat} (hold : ∀ g, g < w0.heap.size → o g = 99) {g : Nat} (h : o g ≠ 99) : g ∈ ([] : List Nat) ∨ w0.heap.size ≤ g := by
  right
  exact Nat.not_lt.1 (fun hl => h (hold g hl))

/-- scene.move. -/
theorem st_move {w0 w : World} {n sp b cp : Nat} {vw vr vm : Value} {ws rs : List (Option Nat)} {ce : Ce} {P : List Pl} {ch : Ce} {M : List Wk} (h : St w0 w n sp b cp vw vr vm ws rs ce P ch M) {i : Nat} {p : Pl} (hp : P[i]? = some p) :
    Calls Try.prog 21 #[.pointer (some ⟨sp, 0, none⟩), .int .i64 i] w fun e w' => e = .returned (.tuple #[.int .i64 (p.m.step ce).1, .int .i64 0]) ∧
      ∃ q, Moved p q ce ∧ St w0 w' n sp b cp vw vr vm ws rs (p.m.step ce).2.2 (P.set i q) ch M := by
  obtain ⟨o, x, h1, h2, h3, h4, h5, h6⟩ := h.ex
  subst h1 h2
  obtain ⟨l1, l2⟩ := h.wl
  have hiP := (List.getElem?_eq_some_iff.1 hp).1
  have hiM : i < M.length := by rw [← h.len]; exact hiP
  obtain ⟨m, hm⟩ : ∃ m, M[i]? = some m := ⟨_, List.getElem?_eq_getElem hiM⟩
  have hrd := h.reads i p m hp hm
  obtain ⟨hwp, hrp⟩ := h.wp hp
  have hmp := getD_map_some (fun m : Wk => m.p) M i m hm
  obtain ⟨hwk, _⟩ := h5.ms i m hm
  obtain ⟨_, hlen, _⟩ := scp_fit h4 hp
  have close : ∀ (w' : World) (o' : Nat → Nat) (x' : Buf) (q : Pl) (S : List Nat), x'.b = x.b → Moved p q ce → (∀ g, g < w.heap.size → o' g = o g) → Keep S w w' → (∀ g ∈ S, o g = 1 ∨ o g = 3 + 2 * i) → ScP w' o' x' (p.m.step ce).2.2 n (P.set i q) →
      St w0 w' n sp x.b ch.p vw vr vm ws rs (p.m.step ce).2.2 (P.set i q) ch M := by
    intro w' o' x' q S e1 hq ho hk hS hP
    refine ⟨h.keep.trans hk (fun g hg => old_off h3 (by rcases hS g hg with e | e <;> rw [e] <;> have := h.six <;> omega)), ⟨o', x', e1, rfl, fun g hg => by rw [ho g (by have := h.keep.size; omega)]; exact h3 g hg, hP, ?_, ?_⟩, ?_, ?_, by simpa using h.len, h.six, ?_, h.clen.trans hlen.symm⟩
    · exact h5.keep hk (fun g hg => ⟨by rcases hS g hg with e | e <;> rw [e] <;> omega, fun j => by rcases hS g hg with e | e <;> rw [e] <;> omega⟩) ho
    · exact h6.keep hk (fun g hg => by rcases hS g hg with e | e <;> rw [e] <;> omega) ho
    · rw [map_set_same _ _ _ _ _ hp hq.wp]; exact h.pw
    · rw [map_set_same _ _ _ _ _ hp hq.rp]; exact h.pr
    · intro j r s hr hs
      rcases set_get hr with ⟨rfl, rfl, _⟩ | ⟨hj, hr⟩
      · rw [hq.isR]; exact h.reads j p s hp hs
      · exact h.reads j r s hr hs
  cases hr : p.isR with
  | false =>
    have hwp' : ws.getD i none = some p.wr.p := by rw [hwp]; unfold Pl.wp; rw [if_neg (by simp [hr])]
    refine smove_w (Q := fun w' => ∃ q, Moved p q ce ∧ St w0 w' n sp x.b ch.p vw vr vm ws rs (p.m.step ce).2.2 (P.set i q) ch M) h6 i (by omega) (by simpa using hiM) m hwk hmp (by rw [hrd, hr]) p.wr.p hwp' _ ((scp_move_w h4 hp hr).mono ?_)
    rintro e w' ⟨rfl, x', r', e1, e2, hP, S, hk, hS⟩
    have hq : Moved p { p with wr := r', m := { (p.m.step ce).2.1 with lv := (p.m.step ce).2.1.lv, gv := (p.m.step ce).2.1.gv } } ce := ⟨rfl, by simp [Pl.wp, hr, e2], by simp [Pl.rp, hr], rfl⟩
    exact ⟨rfl, _, hq, close w' o x' _ S e1 hq (fun _ _ => rfl) hk hS (hP _ _)⟩
  | true =>
    have hrp' : rs.getD i none = some p.rd.p := by rw [hrp]; unfold Pl.rp; rw [if_pos hr]
    refine smove_r (Q := fun w' => ∃ q, Moved p q ce ∧ St w0 w' n sp x.b ch.p vw vr vm ws rs (p.m.step ce).2.2 (P.set i q) ch M) h6 i (by omega) (by simpa using hiM) m hwk hmp (by rw [hrd, hr]) p.rd.p hrp' _ ((scp_move_r h4 hp hr).mono ?_)
    rintro e w' ⟨rfl, hce, r', e2, hP, S, hk, hS⟩
    have hq : Moved p { p with rd := r', m := { (p.m.step ce).2.1 with lv := (p.m.step ce).2.1.lv, gv := (p.m.step ce).2.1.gv } } ce := ⟨rfl, by simp [Pl.wp, hr], by simp [Pl.rp, hr, e2], rfl⟩
    exact ⟨rfl, _, hq, close w' (fun g => if g < w.heap.size then o g else 3 + 2 * i) x _ S rfl hq (fun g hg => by simp [hg]) hk (fun g hg => .inr (hS g hg)) (by rw [hce]; exact hP _ _)⟩

/-- The document's Move. -/
theorem st_doc {w0 w : World} {n sp b cp : Nat} {vw vr vm : Value} {ws rs : List (Option Nat)} {ce : Ce} {P : List Pl} {ch : Ce} {M : List Wk} {i : Nat} {q : Pl} (h : St w0 w n sp b cp vw vr vm ws rs ce (P.set i q) ch M) (hi : i < P.length) {m : Wk} (hm : M[i]? = some m) (hf : m.Fit ch) (hl : (m.step ch).2.2.l.length = ch.l.length) (hrs : (m.step ch).2.1.reads = m.reads) :
    Calls Try.prog 23 #[.pointer (some ⟨m.p, 0, none⟩), .pointer (some ⟨cp, 0, none⟩)] w fun e w' => e = .returned (.int .i64 (m.step ch).1) ∧
      ∃ lv gv, St w0 w' n sp b cp vw vr vm ws rs ce (P.set i (q.gh lv gv)) (m.step ch).2.2 (M.set i { (m.step ch).2.1 with lv := lv, gv := gv }) := by
  obtain ⟨o, x, h1, h2, h3, h4, h5, h6⟩ := h.ex
  subst h1 h2
  obtain ⟨k1, k2, k3⟩ := kstep_fp m ch
  refine (scd_move h5 hm hf).mono ?_
  rintro e w' ⟨rfl, lv, gv, hD, S, hk, hS⟩
  refine ⟨rfl, lv, gv, h.keep.trans hk (fun g hg => old_off h3 (by have := h.six; have := (List.getElem?_eq_some_iff.1 hm).1; rcases hS g hg with e | e <;> rw [e] <;> omega)), ⟨_, x, rfl, k3, fun g hg => ?_, ?_, hD, ?_⟩, ?_, ?_, ?_, by simpa using h.six, ?_, ?_⟩
  · have := h.keep.size
    rw [if_pos (by omega)]
    exact h3 g hg
  · exact (h4.keep hk (fun g hg => ⟨by rcases hS g hg with e | e <;> rw [e] <;> omega, fun j => by rcases hS g hg with e | e <;> rw [e] <;> omega⟩) (fun g hg => by simp [hg])).ghost lv gv
  · rw [map_set_same (fun m : Wk => some m.p) M i m { (m.step ch).2.1 with lv := lv, gv := gv } hm (congrArg some k2)]
    exact h6.keep hk (fun g hg => by rcases hS g hg with e | e <;> rw [e] <;> omega) (fun g hg => by simp [hg])
  · rw [← h.pw, List.map_set, List.map_set]; rfl
  · rw [← h.pr, List.map_set, List.map_set]; rfl
  · simpa using h.len
  · intro j r s hr hs
    have hrP : ∃ r', (P.set i q)[j]? = some r' ∧ r'.isR = r.isR := by
      rcases set_get hr with ⟨rfl, rfl, hl⟩ | ⟨hj, hr⟩
      · exact ⟨q, by rw [List.getElem?_set]; simp [hl], rfl⟩
      · exact ⟨r, by rw [List.getElem?_set, if_neg (fun e => hj e.symm)]; exact hr, rfl⟩
    obtain ⟨r', hr1, hr2⟩ := hrP
    rw [← hr2]
    rcases set_get hs with ⟨rfl, rfl, _⟩ | ⟨hj, hs⟩
    · show (m.step ch).2.1.reads = _
      rw [hrs]
      exact h.reads _ r' m hr1 hm
    · exact h.reads j r' s hr1 hs
  · rw [hl]; exact h.clen

/-- scene.words. -/
theorem st_words {w0 w : World} {n sp b cp : Nat} {vw vr vm : Value} {ws rs : List (Option Nat)} {ce : Ce} {P : List Pl} {ch : Ce} {M : List Wk} (h : St w0 w n sp b cp vw vr vm ws rs ce P ch M) :
    Calls Try.prog 22 #[.pointer (some ⟨sp, 0, none⟩)] w fun e w' => ∃ A cap, e = .returned (.slice A ce.l.length cap) ∧ ce.l.length ≤ cap ∧ (Kd.int .u64).C w' A ce.l.length ce.l ∧ Keep [] w w' := by
  obtain ⟨o, x, h1, h2, h3, h4, h5, h6⟩ := h.ex
  subst h1 h2
  exact swords_ok h6 h4.buf h5.cel h4.sh.sc h.clen
end Go.Proofs.Ytlgebknbfchnlaa

/- law18's plays, part 2: what is asked of a state. -/
namespace Go.Proofs.Ytlgebknbfchnlaa
set_option linter.unusedVariables false
set_option linter.unusedSimpArgs false
open Go Go.RowKit Go.Hay Go.Proofs.YtlgebknbfchnlaaW.PrintWords

theorem SimW.holds_eq {r : Wr} {m : Wk} {ce : Ce} {n : Nat} (h : SimW r m ce n) : r.holds = m.holds := by
  unfold Wr.holds Wk.holds
  rw [h.reads]
  rcases h.st with ⟨h1, h2, h3, _⟩ | ⟨⟨_, _, h3⟩, ⟨h1, _, h2, _⟩ | ⟨h1, h2, _⟩ | ⟨h1, h2, _⟩⟩ | ⟨h1, h2⟩
  · simp [h1, h2]
  · simp [h1, h2, h3]
  · have : 0 < m.moves := by rw [h2]; split <;> omega
    simp [h1, h3, this]
  · have : 0 < m.moves := by rw [h2]; split <;> omega
    simp [h1, h3, this]
  · simp [h1, h2]
/-- What a reader has read. -/
theorem SimR.val_eq {r : Rd} {m : Wk} {ce : Ce} {n : Nat} (h : SimR r m ce n) (hl : ce.l.length = (n + 7) / 8) (hn : n ≤ 128) : (m.done = false → r.val = ⟨#[]⟩) ∧ (m.done = true → ∃ k, PInplacePlays.haycroftref18_Text.f k m.got (n : Int) = some r.val) := by
  rcases h.st with ⟨h1, h2, h3, h4, _⟩ | ⟨h1, h2, h3, h4, _⟩ | ⟨h1, h2, h3, h4, h5, h6, _⟩
  · exact ⟨fun _ => h4, fun hd => by rw [h3] at hd; simp at hd⟩
  · exact ⟨fun _ => h4, fun hd => by rw [h3] at hd; simp at hd⟩
  · refine ⟨fun hd => by rw [h2] at hd; simp at hd, fun _ => ⟨18 * r.l.length + 11, ?_⟩⟩
    rw [h5, h3]
    exact reftext18_f r.l n (by omega) h.range (by omega) h6

theorem lk_hi {h : Bool} {c : Int} (h0 : 0 ≤ c) (h1 : c < 4294967296) : (h = true → 9223372036854775808 ≤ LK h c) ∧ (h = false → LK h c < 9223372036854775808) ∧ LK h c % 4294967296 = c ∧ 0 ≤ LK h c := by
  unfold LK
  cases h <;> simp <;> omega

/-- The state that open leaves. -/
theorem Opened.st {w0 w : World} {sp : Nat} {l : List Int} {n na : Nat} {acts : List Act18} (h : Opened w0 w sp l n na acts) (_hn : l.length = (n + 7) / 8) :
    ∃ (b cp : Nat) (v vw vr vm : Value) (P : List Pl), St w0 w n sp b cp vw vr vm (P.map Pl.wp) (P.map Pl.rp) ⟨cp, false, 0, v, l⟩ P ⟨cp, false, 0, v, l⟩ (P.map (·.m)) ∧
      P.length = ((acts.take (min na 6)).filterMap (specOf n)).length ∧ (∀ (i : Nat) (p : Pl), P[i]? = some p → ∃ q, ((acts.take (min na 6)).filterMap (specOf n))[i]? = some q ∧ Start p q) := by
  obtain ⟨x, cp, v, hsc, hk, o, P, vw, vr, vm, hold, hP, hD, hH, hlen, hst⟩ := h
  have h6 : P.length ≤ 6 := by
    rw [hlen]
    exact Nat.le_trans (List.length_filterMap_le _ _) (Nat.le_trans (List.length_take_le _ _) (by omega))
  refine ⟨x.b, cp, v, vw, vr, vm, P, ⟨hk, ⟨o, x, rfl, rfl, hold, hP, hD, by rw [List.map_map]; exact hH⟩, rfl, rfl, by simp, by simpa using h6, ?_, rfl⟩, hlen, hst⟩
  intro i p m hp hm
  rw [List.getElem?_map, hp] at hm
  simp at hm
  subst hm
  exact (scp_fit hP hp).2.2

/-- Between two moves of one player. -/
theorem step_v (m : Wk) (ce : Ce) : (m.step ce).2.2.v = ce.v ∧ (m.step ce).2.2.p = ce.p ∧ (m.step ce).2.1.reads = m.reads := by
  unfold Wk.step
  repeat' split
  all_goals exact ⟨rfl, rfl, rfl⟩
theorem map_set_m (P : List Pl) (j : Nat) (q : Pl) (a b : Value) (m : Wk) (h : q.m = m) : (P.set j (q.gh a b)).map (·.m) = (P.map (·.m)).set j { m with lv := a, gv := b } := by
  rw [List.map_set, ← h]; rfl
/-- The document's cells, by what lies there. -/
theorem St.cells {w0 w : World} {n sp b cp : Nat} {vw vr vm v : Value} {ws rs : List (Option Nat)} {ce : Ce} {P : List Pl} {ch : Ce} {M : List Wk} (h : St w0 w n sp b cp vw vr vm ws rs ce P ch M) (hv : ch.v = v) : Blk w cp 65 #[.bool ch.h, .int .u64 ch.c, v] := by
  obtain ⟨h1, h2, _⟩ := h.doc
  rw [← h2, ← hv]
  exact h1.blk
theorem St.fit {w0 w : World} {n sp b cp : Nat} {vw vr vm : Value} {ws rs : List (Option Nat)} {ce : Ce} {P : List Pl} {ch : Ce} {M : List Wk} (h : St w0 w n sp b cp vw vr vm ws rs ce P ch M) {i : Nat} {p : Pl} (hp : P[i]? = some p) : p.m.Fit ce ∧ (p.m.step ce).2.2.l.length = ce.l.length ∧ p.m.reads = p.isR := by
  obtain ⟨o, x, h1, h2, h3, h4, h5, h6⟩ := h.ex
  exact scp_fit h4 hp
/-- What a round reads of the scene. -/
theorem St.held {w0 w : World} {n sp b cp gk L ck : Nat} {vw vr v : Value} {ws rs : List (Option Nat)} {ce : Ce} {P : List Pl} {ch : Ce} {M : List Wk} (h : St w0 w n sp b cp vw vr (.slice (some ⟨gk, 0, none⟩) L ck) ws rs ce P ch M) (hv : ch.v = v) {j mp : Nat} {m : Wk} (hm : M[j]? = some m) (hmp : m.p = mp) :
    (w.cell? ⟨sp, 4, none⟩ = some (.slice (some ⟨gk, 0, none⟩) L ck) ∧ w.cell? ⟨sp, 1, none⟩ = some (.pointer (some ⟨cp, 0, none⟩))) ∧ (w.cell? ⟨gk, j, none⟩ = some (.pointer (some ⟨mp, 0, none⟩)) ∧ w.cell? ⟨cp, 2, none⟩ = some v) := by
  have h1 := h.scene.cell
  have h2 := h.at_m hm
  rw [hmp] at h2
  exact ⟨⟨h1 4, h1 1⟩, h2, (h.cells hv).cell 2⟩
theorem St.same {w0 w : World} {n sp b cp : Nat} {vw vr vm : Value} {ws rs : List (Option Nat)} {ce : Ce} {P : List Pl} {ch : Ce} {M : List Wk} (h : St w0 w n sp b cp vw vr vm ws rs ce P ch M) {Ac : Option Addr} {L c : Nat} (hv : ch.v = .slice Ac L c) (hl : ch.l.length = L) (he : ch.l = ce.l) {A3 : Option Addr} {c3 : Nat} (h3 : ce.l.length ≤ c3) (hC : (Kd.int .u64).C w A3 ce.l.length ce.l) :
    Calls Try.prog 24 #[.slice A3 ce.l.length c3, .slice Ac L c] w fun e w' => e = .returned (.bool true) ∧ Drawn w w' := by
  obtain ⟨h1, _, _⟩ := h.doc
  obtain ⟨A', c', e1, e2, e3, _⟩ := h1.row.reads
  rw [hv] at e1
  injection e1 with e4 e5 e6
  subst e4 e5 e6
  have hq := PInplacePlays.haycroftref01_Same.calls _ A3 c3 ce.l Ac c ch.l (decide (ce.l = ch.l)) w hC h3 e3 e2 (refsame_f ce.l ch.l (by rw [← he]; have := h1.ll; omega))
  rw [decide_eq_true he.symm] at hq
  exact hq.mono fun _ _ h => ⟨h.1, by obtain ⟨k, hk⟩ := h.2; exact ⟨k, hk⟩⟩
/-- A player's two moves, one after the other. -/
theorem st_move2 {w0 w : World} {n sp b cp : Nat} {vw vr vm : Value} {ws rs : List (Option Nat)} {ce : Ce} {P : List Pl} {ch : Ce} {M : List Wk} {i : Nat} {p : Pl} (hp : P[i]? = some p) (h : St w0 w n sp b cp vw vr vm ws rs ce P ch M) :
    Calls Try.prog 21 #[.pointer (some ⟨sp, 0, none⟩), .int .i64 i] w fun e w' => e = .returned (.tuple #[.int .i64 (p.m.step ce).1, .int .i64 0]) ∧
      ∃ q, q.isR = p.isR ∧ q.m = (p.m.step ce).2.1 ∧ St w0 w' n sp b cp vw vr vm ws rs (p.m.step ce).2.2 (P.set i q) ch M :=
  (st_move h hp).mono fun _ _ ⟨h1, q, h2, h3⟩ => ⟨h1, q, h2.isR, h2.m, h3⟩
theorem st_doc2 {w0 w : World} {n sp b cp : Nat} {vw vr vm : Value} {ws rs : List (Option Nat)} {ce : Ce} {P : List Pl} {i : Nat} {p q : Pl} (hp : P[i]? = some p) (hf : p.m.Fit ce) (hl : (p.m.step ce).2.2.l.length = ce.l.length) (hq : q.m = (p.m.step ce).2.1) (h : St w0 w n sp b cp vw vr vm ws rs (p.m.step ce).2.2 (P.set i q) ce (P.map (·.m))) :
    Calls Try.prog 23 #[.pointer (some ⟨p.m.p, 0, none⟩), .pointer (some ⟨cp, 0, none⟩)] w fun e w' => e = .returned (.int .i64 (p.m.step ce).1) ∧
      ∃ lv gv, St w0 w' n sp b cp vw vr vm ws rs (p.m.step ce).2.2 (P.set i (q.gh lv gv)) (p.m.step ce).2.2 ((P.set i (q.gh lv gv)).map (·.m)) := by
  have hm : (P.map (·.m))[i]? = some p.m := by rw [List.getElem?_map, hp]; rfl
  refine (st_doc h (List.getElem?_eq_some_iff.1 hp).1 hm hf hl (step_v _ _).2.2).mono ?_
  rintro e w' ⟨rfl, lv, gv, h1⟩
  exact ⟨rfl, lv, gv, by rw [map_set_m P i q lv gv _ hq]; exact h1⟩
theorem St.view {w0 w : World} {n sp b cp gw gr gk L cw cr ck j : Nat} {v : Value} {ws rs : List (Option Nat)} {ce : Ce} {P : List Pl} {ch : Ce} (h : St w0 w n sp b cp (.slice (some ⟨gw, 0, none⟩) L cw) (.slice (some ⟨gr, 0, none⟩) L cr) (.slice (some ⟨gk, 0, none⟩) L ck) ws rs ce P ch (P.map (·.m))) (hv : ch.v = v) {p : Pl} (hp : P[j]? = some p) :
    (∀ o, w.cell? ⟨sp, o, none⟩ = (#[.pointer (some ⟨b, 0, none⟩), .pointer (some ⟨cp, 0, none⟩), .slice (some ⟨gw, 0, none⟩) L cw, .slice (some ⟨gr, 0, none⟩) L cr, .slice (some ⟨gk, 0, none⟩) L ck] : Array Value)[o]?) ∧
      w.cell? ⟨gw, j, none⟩ = some (encP p.wp) ∧ w.cell? ⟨gr, j, none⟩ = some (encP p.rp) ∧ w.cell? ⟨gk, j, none⟩ = some (.pointer (some ⟨p.m.p, 0, none⟩)) ∧ WkAt w p.m ∧ (∀ o, w.cell? ⟨cp, o, none⟩ = (#[.bool ch.h, .int .u64 ch.c, v] : Array Value)[o]?) := by
  have hm : (P.map (·.m))[j]? = some p.m := by rw [List.getElem?_map, hp]; rfl
  have hjM := (List.getElem?_eq_some_iff.1 hm).1
  obtain ⟨h1, h2⟩ := h.wp hp
  exact ⟨h.scene.cell, by rw [← h1]; exact h.at_w hjM, by rw [← h2]; exact h.at_r hjM, h.at_m hm, h.doc.2.2 j _ hm, (h.cells hv).cell⟩
/-- The lock's word. -/
theorem St.load {w0 w : World} {n sp b cp : Nat} {vw vr vm : Value} {ws rs : List (Option Nat)} {ce : Ce} {P : List Pl} {ch : Ce} {M : List Wk} (h : St w0 w n sp b cp vw vr vm ws rs ce P ch M) :
    (Calls Try.prog 27 #[.pointer (some ⟨b, 0, none⟩), .int .u64 2] w fun e w' => e = .returned (.tuple #[.int .u64 (LK ce.h ce.c), .int .i64 0]) ∧ Drawn w w') ∧ 0 ≤ ce.c ∧ ce.c < 4294967296 := by
  obtain ⟨x, h1, h2, h3⟩ := h.buf
  subst h1
  have := bload_ok x 2 w h2 (by omega) (h3.sc.ain (by omega) (by omega))
  rw [h3.sc.at_lock] at this
  exact ⟨this, h3.sc.c0, h3.sc.c1⟩
end Go.Proofs.Ytlgebknbfchnlaa
