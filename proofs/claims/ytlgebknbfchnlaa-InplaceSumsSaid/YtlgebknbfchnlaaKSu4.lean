/- InplaceSums holds: each number is added once, and whoever moves alone is done soon; no conditions. (part 4 of 4 of its proof.) -/
import Derived.Test.YtlgebknbfchnlaaKSu3
import Derived.Deep.CutBlock
import Derived.Deep.DeepCutAuto
import Derived.Test.YtlgebknbfchnlaaWWords
import Derived.Deep.Slices
import Derived.ChangeArms
import Derived.WideShapes
import Derived.Test.YtlgebknbfchnlaaRows
import Derived.WalkKit
import Derived.ProofKit
import Derived.OpenShut
import Derived.ShutString
import Derived.ChangeOld
import Derived.Below
import Derived.SizedLaws

/- law18's plays: the state, with blocks beside the scene. -/
namespace Go.Proofs.Ytlgebknbfchnlaa
set_option linter.unusedVariables false
set_option linter.unusedSimpArgs false
open Go Go.RowKit Go.Hay Go.Proofs.YtlgebknbfchnlaaW.PrintWords

structure StX (X : List Nat) (w0 w : World) (n sp b cp : Nat) (vw vr vm : Value) (ws rs : List (Option Nat)) (ce : Ce) (P : List Pl) (ch : Ce) (M : List Wk) : Prop where
  keep : Keep [] w0 w
  ex : ∃ o x, x.b = b ∧ ch.p = cp ∧ (∀ g, g < w0.heap.size → o g = 99) ∧ (∀ g ∈ X, g < w.heap.size ∧ o g = 98) ∧ ScP w o x ce n P ∧ ScD w o ch M ∧ ScH w o sp b cp vw vr vm ws rs (M.map fun m => some m.p)
  pw : P.map Pl.wp = ws
  pr : P.map Pl.rp = rs
  len : P.length = M.length
  six : M.length ≤ 6
  reads : ∀ (i : Nat) (p : Pl) (m : Wk), P[i]? = some p → M[i]? = some m → m.reads = p.isR
  clen : ch.l.length = ce.l.length

theorem StX.kept {X : List Nat} {w0 w w' : World} {n sp b cp : Nat} {vw vr vm : Value} {ws rs : List (Option Nat)} {ce : Ce} {P : List Pl} {ch : Ce} {M : List Wk} (h : StX X w0 w n sp b cp vw vr vm ws rs ce P ch M) (k : Keep [] w w') : StX X w0 w' n sp b cp vw vr vm ws rs ce P ch M := by
  obtain ⟨o, x, h1, h2, h3, h3x, h4, h5, h6⟩ := h.ex
  exact ⟨h.keep.trans k (by simp), ⟨o, x, h1, h2, h3, fun g hg => ⟨Nat.lt_of_lt_of_le (h3x g hg).1 k.size, (h3x g hg).2⟩, h4.keep k (by simp) (fun _ _ => rfl), h5.keep k (by simp) (fun _ _ => rfl), h6.keep k (by simp) (fun _ _ => rfl)⟩, h.pw, h.pr, h.len, h.six, h.reads, h.clen⟩
theorem StX.drewN {X : List Nat} {w0 w : World} {n sp b cp : Nat} {vw vr vm : Value} {ws rs : List (Option Nat)} {ce : Ce} {P : List Pl} {ch : Ce} {M : List Wk} (h : StX X w0 w n sp b cp vw vr vm ws rs ce P ch M) (k : Nat) : StX X w0 (w.drewN k) n sp b cp vw vr vm ws rs ce P ch M := h.kept ((Keep.refl [] w).drewN k)
theorem StX.drew {X : List Nat} {w0 w : World} {n sp b cp : Nat} {vw vr vm : Value} {ws rs : List (Option Nat)} {ce : Ce} {P : List Pl} {ch : Ce} {M : List Wk} (h : StX X w0 w n sp b cp vw vr vm ws rs ce P ch M) : StX X w0 w.drew n sp b cp vw vr vm ws rs ce P ch M := h.kept ((Keep.refl [] w).drew)

theorem StX.scene {X : List Nat} {w0 w : World} {n sp b cp : Nat} {vw vr vm : Value} {ws rs : List (Option Nat)} {ce : Ce} {P : List Pl} {ch : Ce} {M : List Wk} (h : StX X w0 w n sp b cp vw vr vm ws rs ce P ch M) : Blk w sp 55 #[.pointer (some ⟨b, 0, none⟩), .pointer (some ⟨cp, 0, none⟩), vw, vr, vm] := by
  obtain ⟨o, x, h1, h2, h3, h3x, h4, h5, h6⟩ := h.ex
  exact h6.blk
theorem StX.wl {X : List Nat} {w0 w : World} {n sp b cp : Nat} {vw vr vm : Value} {ws rs : List (Option Nat)} {ce : Ce} {P : List Pl} {ch : Ce} {M : List Wk} (h : StX X w0 w n sp b cp vw vr vm ws rs ce P ch M) : ws.length = M.length ∧ rs.length = M.length := by
  rw [← h.pw, ← h.pr, List.length_map, List.length_map, h.len]
  exact ⟨rfl, rfl⟩
theorem StX.at_w {X : List Nat} {w0 w : World} {n sp b cp g l c : Nat} {vr vm : Value} {ws rs : List (Option Nat)} {ce : Ce} {P : List Pl} {ch : Ce} {M : List Wk} (h : StX X w0 w n sp b cp (.slice (some ⟨g, 0, none⟩) l c) vr vm ws rs ce P ch M) {i : Nat} (hi : i < M.length) : w.cell? ⟨g, i, none⟩ = some (encP (ws.getD i none)) := by
  obtain ⟨o, x, h1, h2, h3, h3x, h4, h5, h6⟩ := h.ex
  obtain ⟨g', c', e, _, hc⟩ := h6.rw.at_ (j := i) (by rw [h.wl.1]; exact hi)
  have := slice_inj e
  simp at this
  subst this
  exact hc
theorem StX.at_r {X : List Nat} {w0 w : World} {n sp b cp g l c : Nat} {vw vm : Value} {ws rs : List (Option Nat)} {ce : Ce} {P : List Pl} {ch : Ce} {M : List Wk} (h : StX X w0 w n sp b cp vw (.slice (some ⟨g, 0, none⟩) l c) vm ws rs ce P ch M) {i : Nat} (hi : i < M.length) : w.cell? ⟨g, i, none⟩ = some (encP (rs.getD i none)) := by
  obtain ⟨o, x, h1, h2, h3, h3x, h4, h5, h6⟩ := h.ex
  obtain ⟨g', c', e, _, hc⟩ := h6.rr.at_ (j := i) (by rw [h.wl.2]; exact hi)
  have := slice_inj e
  simp at this
  subst this
  exact hc
theorem StX.at_m {X : List Nat} {w0 w : World} {n sp b cp g l c : Nat} {vw vr : Value} {ws rs : List (Option Nat)} {ce : Ce} {P : List Pl} {ch : Ce} {M : List Wk} (h : StX X w0 w n sp b cp vw vr (.slice (some ⟨g, 0, none⟩) l c) ws rs ce P ch M) {i : Nat} {m : Wk} (hm : M[i]? = some m) : w.cell? ⟨g, i, none⟩ = some (.pointer (some ⟨m.p, 0, none⟩)) := by
  obtain ⟨o, x, h1, h2, h3, h3x, h4, h5, h6⟩ := h.ex
  obtain ⟨g', c', e, _, hc⟩ := h6.rm.at_ (j := i) (by rw [List.length_map]; exact (List.getElem?_eq_some_iff.1 hm).1)
  have := slice_inj e
  simp at this
  subst this
  rw [getD_map_some _ _ _ _ hm] at hc
  exact hc
theorem StX.slices {X : List Nat} {w0 w : World} {n sp b cp : Nat} {vw vr vm : Value} {ws rs : List (Option Nat)} {ce : Ce} {P : List Pl} {ch : Ce} {M : List Wk} (h : StX X w0 w n sp b cp vw vr vm ws rs ce P ch M) (h0 : 0 < M.length) :
    (∃ g c, vw = .slice (some ⟨g, 0, none⟩) M.length c) ∧ (∃ g c, vr = .slice (some ⟨g, 0, none⟩) M.length c) ∧ (∃ g c, vm = .slice (some ⟨g, 0, none⟩) M.length c) := by
  obtain ⟨o, x, h1, h2, h3, h3x, h4, h5, h6⟩ := h.ex
  obtain ⟨l1, l2⟩ := h.wl
  obtain ⟨g1, c1, e1, _, _⟩ := h6.rw.at_ (j := 0) (by omega)
  obtain ⟨g2, c2, e2, _, _⟩ := h6.rr.at_ (j := 0) (by omega)
  obtain ⟨g3, c3, e3, _, _⟩ := h6.rm.at_ (j := 0) (by rw [List.length_map]; exact h0)
  rw [l1] at e1
  rw [l2] at e2
  rw [List.length_map] at e3
  exact ⟨⟨g1, c1, e1⟩, ⟨g2, c2, e2⟩, ⟨g3, c3, e3⟩⟩
theorem StX.slices0 {X : List Nat} {w0 w : World} {n sp b cp : Nat} {vw vr vm : Value} {ws rs : List (Option Nat)} {ce : Ce} {P : List Pl} {ch : Ce} {M : List Wk} (h : StX X w0 w n sp b cp vw vr vm ws rs ce P ch M) :
    (∃ A c, vw = .slice A M.length c) ∧ (∃ A c, vr = .slice A M.length c) ∧ (∃ A c, vm = .slice A M.length c) := by
  obtain ⟨o, x, h1, h2, h3, h3x, h4, h5, h6⟩ := h.ex
  obtain ⟨l1, l2⟩ := h.wl
  obtain ⟨A1, c1, e1, _⟩ := h6.rw.slice
  obtain ⟨A2, c2, e2, _⟩ := h6.rr.slice
  obtain ⟨A3, c3, e3, _⟩ := h6.rm.slice
  rw [l1] at e1
  rw [l2] at e2
  rw [List.length_map] at e3
  exact ⟨⟨A1, c1, e1⟩, ⟨A2, c2, e2⟩, ⟨A3, c3, e3⟩⟩
theorem StX.doc {X : List Nat} {w0 w : World} {n sp b cp : Nat} {vw vr vm : Value} {ws rs : List (Option Nat)} {ce : Ce} {P : List Pl} {ch : Ce} {M : List Wk} (h : StX X w0 w n sp b cp vw vr vm ws rs ce P ch M) : CeAt w ch ∧ ch.p = cp ∧ ∀ (i : Nat) (m : Wk), M[i]? = some m → WkAt w m := by
  obtain ⟨o, x, h1, h2, h3, h3x, h4, h5, h6⟩ := h.ex
  exact ⟨h5.cel, h2, fun i m hm => (h5.ms i m hm).1⟩
theorem StX.player {X : List Nat} {w0 w : World} {n sp b cp : Nat} {vw vr vm : Value} {ws rs : List (Option Nat)} {ce : Ce} {P : List Pl} {ch : Ce} {M : List Wk} (h : StX X w0 w n sp b cp vw vr vm ws rs ce P ch M) {i : Nat} {p : Pl} (hp : P[i]? = some p) : ∃ x, x.b = b ∧ BufAt w x ∧ Sh x ce n ∧ PrAt w x ce n p := by
  obtain ⟨o, x, h1, h2, h3, h3x, h4, h5, h6⟩ := h.ex
  exact ⟨x, h1, h4.buf, h4.sh, (h4.pls i p hp).1⟩
theorem StX.buf {X : List Nat} {w0 w : World} {n sp b cp : Nat} {vw vr vm : Value} {ws rs : List (Option Nat)} {ce : Ce} {P : List Pl} {ch : Ce} {M : List Wk} (h : StX X w0 w n sp b cp vw vr vm ws rs ce P ch M) : ∃ x, x.b = b ∧ BufAt w x ∧ Sh x ce n := by
  obtain ⟨o, x, h1, h2, h3, h3x, h4, h5, h6⟩ := h.ex
  exact ⟨x, h1, h4.buf, h4.sh⟩
theorem StX.wp {X : List Nat} {w0 w : World} {n sp b cp : Nat} {vw vr vm : Value} {ws rs : List (Option Nat)} {ce : Ce} {P : List Pl} {ch : Ce} {M : List Wk} (h : StX X w0 w n sp b cp vw vr vm ws rs ce P ch M) {i : Nat} {p : Pl} (hp : P[i]? = some p) : ws.getD i none = p.wp ∧ rs.getD i none = p.rp := by
  rw [← h.pw, ← h.pr, List.getD_eq_getElem?_getD, List.getD_eq_getElem?_getD, List.getElem?_map, List.getElem?_map, hp]
  exact ⟨rfl, rfl⟩

theorem stx_move {X : List Nat} {w0 w : World} {n sp b cp : Nat} {vw vr vm : Value} {ws rs : List (Option Nat)} {ce : Ce} {P : List Pl} {ch : Ce} {M : List Wk} (h : StX X w0 w n sp b cp vw vr vm ws rs ce P ch M) {i : Nat} {p : Pl} (hp : P[i]? = some p) :
    Calls Try.prog 21 #[.pointer (some ⟨sp, 0, none⟩), .int .i64 i] w fun e w' => e = .returned (.tuple #[.int .i64 (p.m.step ce).1, .int .i64 0]) ∧
      ∃ q, Moved p q ce ∧ StX X w0 w' n sp b cp vw vr vm ws rs (p.m.step ce).2.2 (P.set i q) ch M ∧ ∀ g ∈ X, w'.heap[g]? = w.heap[g]? := by
  obtain ⟨o, x, h1, h2, h3, h3x, h4, h5, h6⟩ := h.ex
  subst h1 h2
  obtain ⟨l1, l2⟩ := h.wl
  have hiP := (List.getElem?_eq_some_iff.1 hp).1
  have hiM : i < M.length := by rw [← h.len]; exact hiP
  obtain ⟨m, hm⟩ : ∃ m, M[i]? = some m := ⟨_, List.getElem?_eq_getElem hiM⟩
  have hrd := h.reads i p m hp hm
  obtain ⟨hwp, hrp⟩ := h.wp hp
  have hmp := getD_map_some (fun m : Wk => m.p) M i m hm
  obtain ⟨hwk, _⟩ := h5.ms i m hm
  obtain ⟨_, hlen, _⟩ := scp_fit h4 hp
  have close : ∀ (w' : World) (o' : Nat → Nat) (x' : Buf) (q : Pl) (S : List Nat), x'.b = x.b → Moved p q ce → (∀ g, g < w.heap.size → o' g = o g) → Keep S w w' → (∀ g ∈ S, o g = 1 ∨ o g = 3 + 2 * i) → ScP w' o' x' (p.m.step ce).2.2 n (P.set i q) →
      StX X w0 w' n sp x.b ch.p vw vr vm ws rs (p.m.step ce).2.2 (P.set i q) ch M := by
    intro w' o' x' q S e1 hq ho hk hS hP
    refine ⟨h.keep.trans hk (fun g hg => old_off h3 (by rcases hS g hg with e | e <;> rw [e] <;> have := h.six <;> omega)), ⟨o', x', e1, rfl, fun g hg => by rw [ho g (by have := h.keep.size; omega)]; exact h3 g hg, fun g hg => ⟨Nat.lt_of_lt_of_le (h3x g hg).1 hk.size, by rw [ho g (h3x g hg).1]; exact (h3x g hg).2⟩, hP, ?_, ?_⟩, ?_, ?_, by simpa using h.len, h.six, ?_, h.clen.trans hlen.symm⟩
    · exact h5.keep hk (fun g hg => ⟨by rcases hS g hg with e | e <;> rw [e] <;> omega, fun j => by rcases hS g hg with e | e <;> rw [e] <;> omega⟩) ho
    · exact h6.keep hk (fun g hg => by rcases hS g hg with e | e <;> rw [e] <;> omega) ho
    · rw [map_set_same _ _ _ _ _ hp hq.wp]; exact h.pw
    · rw [map_set_same _ _ _ _ _ hp hq.rp]; exact h.pr
    · intro j r s hr hs
      rcases set_get hr with ⟨rfl, rfl, _⟩ | ⟨hj, hr⟩
      · rw [hq.isR]; exact h.reads j p s hp hs
      · exact h.reads j r s hr hs
  have hX : ∀ (w' : World) (S : List Nat), Keep S w w' → (∀ g ∈ S, o g = 1 ∨ o g = 3 + 2 * i) → ∀ g ∈ X, w'.heap[g]? = w.heap[g]? := fun w' S hk hS g hg => hk.block g (h3x g hg).1 (fun hm => by have e2 := (h3x g hg).2; rcases hS g hm with e | e <;> omega)
  cases hr : p.isR with
  | false =>
    have hwp' : ws.getD i none = some p.wr.p := by rw [hwp]; unfold Pl.wp; rw [if_neg (by simp [hr])]
    refine smove_w (Q := fun w' => ∃ q, Moved p q ce ∧ StX X w0 w' n sp x.b ch.p vw vr vm ws rs (p.m.step ce).2.2 (P.set i q) ch M ∧ ∀ g ∈ X, w'.heap[g]? = w.heap[g]?) h6 i (by omega) (by simpa using hiM) m hwk hmp (by rw [hrd, hr]) p.wr.p hwp' _ ((scp_move_w h4 hp hr).mono ?_)
    rintro e w' ⟨rfl, x', r', e1, e2, hP, S, hk, hS⟩
    have hq : Moved p { p with wr := r', m := { (p.m.step ce).2.1 with lv := (p.m.step ce).2.1.lv, gv := (p.m.step ce).2.1.gv } } ce := ⟨rfl, by simp [Pl.wp, hr, e2], by simp [Pl.rp, hr], rfl⟩
    exact ⟨rfl, _, hq, close w' o x' _ S e1 hq (fun _ _ => rfl) hk hS (hP _ _), hX w' S hk hS⟩
  | true =>
    have hrp' : rs.getD i none = some p.rd.p := by rw [hrp]; unfold Pl.rp; rw [if_pos hr]
    refine smove_r (Q := fun w' => ∃ q, Moved p q ce ∧ StX X w0 w' n sp x.b ch.p vw vr vm ws rs (p.m.step ce).2.2 (P.set i q) ch M ∧ ∀ g ∈ X, w'.heap[g]? = w.heap[g]?) h6 i (by omega) (by simpa using hiM) m hwk hmp (by rw [hrd, hr]) p.rd.p hrp' _ ((scp_move_r h4 hp hr).mono ?_)
    rintro e w' ⟨rfl, hce, r', e2, hP, S, hk, hS⟩
    have hq : Moved p { p with rd := r', m := { (p.m.step ce).2.1 with lv := (p.m.step ce).2.1.lv, gv := (p.m.step ce).2.1.gv } } ce := ⟨rfl, by simp [Pl.wp, hr], by simp [Pl.rp, hr, e2], rfl⟩
    exact ⟨rfl, _, hq, close w' (fun g => if g < w.heap.size then o g else 3 + 2 * i) x _ S rfl hq (fun g hg => by simp [hg]) hk (fun g hg => .inr (hS g hg)) (by rw [hce]; exact hP _ _), hX w' S hk (fun g hg => .inr (hS g hg))⟩

theorem stx_words {X : List Nat} {w0 w : World} {n sp b cp : Nat} {vw vr vm : Value} {ws rs : List (Option Nat)} {ce : Ce} {P : List Pl} {ch : Ce} {M : List Wk} (h : StX X w0 w n sp b cp vw vr vm ws rs ce P ch M) :
    Calls Try.prog 22 #[.pointer (some ⟨sp, 0, none⟩)] w fun e w' => ∃ A cap, e = .returned (.slice A ce.l.length cap) ∧ ce.l.length ≤ cap ∧ (Kd.int .u64).C w' A ce.l.length ce.l ∧ Keep [] w w' := by
  obtain ⟨o, x, h1, h2, h3, h3x, h4, h5, h6⟩ := h.ex
  subst h1 h2
  exact swords_ok h6 h4.buf h5.cel h4.sh.sc h.clen


theorem St.x {w0 w : World} {n sp b cp : Nat} {vw vr vm : Value} {ws rs : List (Option Nat)} {ce : Ce} {P : List Pl} {ch : Ce} {M : List Wk} (h : St w0 w n sp b cp vw vr vm ws rs ce P ch M) : StX [] w0 w n sp b cp vw vr vm ws rs ce P ch M := by
  obtain ⟨o, x, h1, h2, h3, h4, h5, h6⟩ := h.ex
  exact ⟨h.keep, ⟨o, x, h1, h2, h3, by simp, h4, h5, h6⟩, h.pw, h.pr, h.len, h.six, h.reads, h.clen⟩
/-- A new block beside the scene. -/
theorem StX.grow {X : List Nat} {w0 w : World} {n sp b cp : Nat} {vw vr vm : Value} {ws rs : List (Option Nat)} {ce : Ce} {P : List Pl} {ch : Ce} {M : List Wk} (h : StX X w0 w n sp b cp vw vr vm ws rs ce P ch M) (obj : Obj) : StX (w.heap.size :: X) w0 (w.alloc obj) n sp b cp vw vr vm ws rs ce P ch M := by
  obtain ⟨o, x, h1, h2, h3, h3x, h4, h5, h6⟩ := h.ex
  have k : Keep [] w (w.alloc obj) := (Keep.refl _ _).alloc _
  have ho : ∀ g, g < w.heap.size → (fun g => if g < w.heap.size then o g else 98) g = o g := fun g hg => by simp [hg]
  refine ⟨h.keep.trans k (by simp), ⟨_, x, h1, h2, fun g hg => (ho g (by have := h.keep.size; omega)).trans (h3 g hg), ?_, h4.keep k (by simp) ho, h5.keep k (by simp) ho, h6.keep k (by simp) ho⟩, h.pw, h.pr, h.len, h.six, h.reads, h.clen⟩
  intro g hg
  rcases List.mem_cons.1 hg with rfl | hg
  · exact ⟨by simp, by simp⟩
  · obtain ⟨a, b⟩ := h3x g hg
    exact ⟨by simp; omega, (ho g a).trans b⟩
/-- A store into such a block. -/
theorem StX.set {X : List Nat} {w0 w : World} {n sp b cp : Nat} {vw vr vm : Value} {ws rs : List (Option Nat)} {ce : Ce} {P : List Pl} {ch : Ce} {M : List Wk} (h : StX X w0 w n sp b cp vw vr vm ws rs ce P ch M) {g : Nat} (hg : g ∈ X) (i : Nat) (u : Value) : StX X w0 (w.setCell ⟨g, i, none⟩ u) n sp b cp vw vr vm ws rs ce P ch M := by
  obtain ⟨o, x, h1, h2, h3, h3x, h4, h5, h6⟩ := h.ex
  have k : Keep [g] w (w.setCell ⟨g, i, none⟩ u) := (Keep.refl _ _).set (by simp) _ _
  obtain ⟨a, c⟩ := h3x g hg
  have hlen : ∀ (j : Nat) (p : Pl), P[j]? = some p → j < 6 := fun j p hp => by have := (List.getElem?_eq_some_iff.1 hp).1; have := h.len; have := h.six; omega
  have hlenM : ∀ (j : Nat) (m : Wk), M[j]? = some m → j < 6 := fun j p hp => by have := (List.getElem?_eq_some_iff.1 hp).1; have := h.six; omega
  refine ⟨h.keep.trans k (fun e he => by simp at he; subst he; exact old_off h3 (by omega)), ⟨o, x, h1, h2, h3, fun e he => by simpa using h3x e he, ?_, ?_, h6.keep k (fun e he => by simp at he; subst he; omega) (fun _ _ => rfl)⟩, h.pw, h.pr, h.len, h.six, h.reads, h.clen⟩
  · refine ⟨h4.buf.keep k (fun e he hm => by simp at hm; subst hm; have := h4.bo e he; omega), h4.sh, h4.bo, fun j p hp => ?_, h4.uniq⟩
    obtain ⟨q1, q2⟩ := h4.pls j p hp
    exact ⟨q1.keep k (fun e he hm => by simp at hm; subst hm; have := q2 e he; omega), q2⟩
  · refine ⟨h5.cel.keep k (fun e he hm => by simp at hm; subst hm; have := h5.co e he; omega), h5.co, fun j m hm2 => ?_⟩
    obtain ⟨q1, q2⟩ := h5.ms j m hm2
    have := hlenM j m hm2
    exact ⟨q1.keep k (fun e he hm => by simp at hm; subst hm; have := q2 e he; omega), q2⟩
end Go.Proofs.Ytlgebknbfchnlaa

/- The plain law of sums: additions and readings at one word, each move by itself. No program in sight. -/
namespace Go.Proofs.Ytlgebknbfchnlaa
set_option linter.unusedVariables false
set_option linter.unusedSimpArgs false
open Go Go.RowKit Go.Hay Go.Proofs.YtlgebknbfchnlaaW.PrintWords

/-- Somebody who adds and has written. -/
def Wk.wrote (m : Wk) : Bool := !m.reads && decide (m.moves = 3) && !m.done
/-- Where the players and the word stand; sum: what it was, and all that is done. -/
structure SumInv (M : List Wk) (ce : Ce) (sum : Int) : Prop where
  one : ce.l.length = 1
  vu : U64 (ce.l.getD 0 0)
  su : U64 sum
  nu : ∀ (i : Nat) (m : Wk), M[i]? = some m → U64 m.n
  kind : ∀ (i : Nat) (m : Wk), M[i]? = some m → (m.reads = true ∧ m.n = 0 ∧ m.moves ≤ 2) ∨ (m.reads = false ∧ m.adds = true ∧ m.moves ≤ 3)
  pend : ∀ (i : Nat) (m : Wk), M[i]? = some m → m.reads = false → m.done = false → m.moves = 2 → m.l = [IntKind.u64.wrap (ce.l.getD 0 0 + m.n)]
  pend3 : ∀ (i : Nat) (m : Wk), M[i]? = some m → m.reads = false → m.done = false → m.moves = 3 → m.l.length = 1
  tot : (∃ (i : Nat) (m : Wk), M[i]? = some m ∧ m.wrote = true ∧ ce.l.getD 0 0 = IntKind.u64.wrap (sum + m.n)) ∨ ((∀ (i : Nat) (m : Wk), M[i]? = some m → m.wrote = false) ∧ ce.l.getD 0 0 = sum)
  uniq : ∀ (i j : Nat) (m k : Wk), M[i]? = some m → M[j]? = some k → m.holds = true → k.holds = true → i = j
  lock : ce.h = true ↔ ∃ (i : Nat) (m : Wk), M[i]? = some m ∧ m.holds = true

theorem Wk.holds_iff (m : Wk) : m.holds = true ↔ m.reads = false ∧ 0 < m.moves ∧ m.done = false := by
  unfold Wk.holds
  cases m.reads <;> cases m.done <;> simp
theorem Wk.wrote_iff (m : Wk) : m.wrote = true ↔ m.reads = false ∧ m.moves = 3 ∧ m.done = false := by
  unfold Wk.wrote
  cases m.reads <;> cases m.done <;> simp
theorem Wk.wrote_holds {m : Wk} (h : m.wrote = true) : m.holds = true := by
  rw [Wk.wrote_iff] at h
  rw [Wk.holds_iff]
  exact ⟨h.1, by omega, h.2.2⟩

/-- What a step leaves of a player. -/
theorem step_keeps (m : Wk) (ce : Ce) : (m.step ce).2.1.n = m.n ∧ (m.step ce).2.1.adds = m.adds ∧ (m.step ce).2.1.reads = m.reads := by
  unfold Wk.step
  repeat' split
  all_goals exact ⟨rfl, rfl, rfl⟩

/-- A step of an adder, case by case. -/
theorem step_add {m : Wk} {ce : Ce} (hr : m.reads = false) (ha : m.adds = true) (hd : m.done = false) :
    (m.moves = 0 → ce.h = true → m.step ce = (3, m, ce)) ∧ (m.moves = 0 → ce.h = false → m.step ce = (1, { m with moves := 1 }, { ce with h := true })) ∧
    (m.moves = 1 → m.step ce = (1, { m with l := [IntKind.u64.wrap (ce.l.getD 0 0 + m.n)], moves := 2 }, ce)) ∧
    (m.moves = 2 → m.l.length = 1 → m.step ce = (1, { m with moves := 3 }, { ce with l := ce.l.set 0 (m.l.getD 0 0) })) ∧
    (m.moves = 3 → m.l.length = 1 → m.step ce = (2, { m with done := true }, { ce with h := false, c := (ce.c + 1) % 4294967296 })) := by
  refine ⟨fun h0 hh => ?_, fun h0 hh => ?_, fun h0 => ?_, fun h0 hl => ?_, fun h0 hl => ?_⟩
  · unfold Wk.step; simp [hr, hd, h0, hh]
  · unfold Wk.step; simp [hr, hd, h0, hh]
  · unfold Wk.step; simp [hr, hd, h0, ha]
  · unfold Wk.step; simp [hr, hd, h0, ha, hl]
  · unfold Wk.step; simp [hr, hd, h0, ha, hl]
theorem step_read {m : Wk} {ce : Ce} (hr : m.reads = true) (hd : m.done = false) (h1 : ce.l.length = 1) :
    (m.moves = 0 → ce.h = true → m.step ce = (3, m, ce)) ∧ (m.moves = 0 → ce.h = false → m.step ce = (1, { m with seen := ce.c, got := [], moves := 1 }, ce)) ∧
    (m.moves = 1 → m.step ce = (1, { m with got := m.got ++ [ce.l.getD 0 0], moves := 2 }, ce)) ∧
    (m.moves = 2 → ce.h = true ∨ ce.c ≠ m.seen → m.step ce = (3, { m with moves := 0 }, ce)) ∧
    (m.moves = 2 → ¬ (ce.h = true ∨ ce.c ≠ m.seen) → m.step ce = (2, { m with done := true }, ce)) := by
  refine ⟨fun h0 hh => ?_, fun h0 hh => ?_, fun h0 => ?_, fun h0 hl => ?_, fun h0 hl => ?_⟩
  · unfold Wk.step; simp [hr, hd, h0, hh]
  · unfold Wk.step; simp [hr, hd, h0, hh]
  · unfold Wk.step; simp [hr, hd, h0, h1]
  · unfold Wk.step; rw [if_neg (by simp [hd]), if_pos hr, if_neg (by omega), if_neg (by omega), if_pos hl]
  · unfold Wk.step; rw [if_neg (by simp [hd]), if_pos hr, if_neg (by omega), if_neg (by omega), if_neg hl]

theorem get_set_other {α : Type} {l : List α} {i j : Nat} {a b : α} (h : l[j]? = some b) (hj : j ≠ i) : (l.set i a)[j]? = some b := by
  rw [List.getElem?_set, if_neg (fun e => hj e.symm)]; exact h
theorem get_set_here {α : Type} {l : List α} {i : Nat} {a b : α} (h : l[i]? = some b) : (l.set i a)[i]? = some a := by
  rw [List.getElem?_set_self (List.getElem?_eq_some_iff.1 h).1]

/-- A move that leaves the word and the lock as they are, and who holds, and who has written. -/
theorem SumInv.quiet {M : List Wk} {ce : Ce} {sum : Int} (h : SumInv M ce sum) {i : Nat} {m m' : Wk} (hm : M[i]? = some m) (hn : m'.n = m.n) (hk : (m'.reads = true ∧ m'.n = 0 ∧ m'.moves ≤ 2) ∨ (m'.reads = false ∧ m'.adds = true ∧ m'.moves ≤ 3)) (hh : m'.holds = m.holds) (hw : m'.wrote = m.wrote)
    (h2 : m'.reads = false → m'.done = false → m'.moves = 2 → m'.l = [IntKind.u64.wrap (ce.l.getD 0 0 + m'.n)]) (h3 : m'.reads = false → m'.done = false → m'.moves = 3 → m'.l.length = 1) : SumInv (M.set i m') ce sum := by
  refine ⟨h.one, h.vu, h.su, ?_, ?_, ?_, ?_, ?_, ?_, ?_⟩
  · intro j k hk2
    rcases set_get hk2 with ⟨rfl, rfl, _⟩ | ⟨_, hk2⟩
    · rw [hn]; exact h.nu _ _ hm
    · exact h.nu _ _ hk2
  · intro j k hk2
    rcases set_get hk2 with ⟨rfl, rfl, _⟩ | ⟨_, hk2⟩
    · exact hk
    · exact h.kind _ _ hk2
  · intro j k hk2
    rcases set_get hk2 with ⟨rfl, rfl, _⟩ | ⟨_, hk2⟩
    · exact h2
    · exact h.pend _ _ hk2
  · intro j k hk2
    rcases set_get hk2 with ⟨rfl, rfl, _⟩ | ⟨_, hk2⟩
    · exact h3
    · exact h.pend3 _ _ hk2
  · rcases h.tot with ⟨j, k, h4, h5, h6⟩ | ⟨h4, h5⟩
    · left
      by_cases hj : j = i
      · subst hj
        rw [hm] at h4
        cases h4
        exact ⟨j, m', get_set_here hm, by rw [hw]; exact h5, by rw [hn]; exact h6⟩
      · exact ⟨j, k, get_set_other h4 hj, h5, h6⟩
    · right
      refine ⟨fun j k hk2 => ?_, h5⟩
      rcases set_get hk2 with ⟨rfl, rfl, _⟩ | ⟨_, hk2⟩
      · rw [hw]; exact h4 _ _ hm
      · exact h4 _ _ hk2
  · intro a b k l ha hb hka hlb
    have key : ∀ (j : Nat) (k : Wk), (M.set i m')[j]? = some k → k.holds = true → ∃ k', M[j]? = some k' ∧ k'.holds = true := by
      intro j k hk2 hkh
      rcases set_get hk2 with ⟨rfl, rfl, _⟩ | ⟨_, hk2⟩
      · exact ⟨m, hm, by rw [← hh]; exact hkh⟩
      · exact ⟨k, hk2, hkh⟩
    obtain ⟨k', e1, e2⟩ := key a k ha hka
    obtain ⟨l', e3, e4⟩ := key b l hb hlb
    exact h.uniq a b k' l' e1 e3 e2 e4
  · rw [h.lock]
    constructor
    · rintro ⟨j, k, h4, h5⟩
      by_cases hj : j = i
      · subst hj
        rw [hm] at h4
        cases h4
        exact ⟨j, m', get_set_here hm, by rw [hh]; exact h5⟩
      · exact ⟨j, k, get_set_other h4 hj, h5⟩
    · rintro ⟨j, k, h4, h5⟩
      rcases set_get h4 with ⟨rfl, rfl, _⟩ | ⟨_, h4⟩
      · exact ⟨_, m, hm, by rw [← hh]; exact h5⟩
      · exact ⟨j, k, h4, h5⟩

/-- The sum behind a move. -/
def sumNext (sum : Int) (m m' : Wk) : Int := if m.done = false ∧ m'.done = true then IntKind.u64.wrap (sum + m.n) else sum
theorem wrap_zero {s : Int} (h : U64 s) : IntKind.u64.wrap (s + 0) = s := by
  unfold U64 at h
  rw [Int.add_zero]
  simp [IntKind.wrap, IntKind.signed, IntKind.bits]
  omega

theorem set_self {α : Type} {l : List α} {i : Nat} {a : α} (h : l[i]? = some a) : l.set i a = l := by
  apply List.ext_getElem?
  intro j
  by_cases hj : j = i
  · subst hj; rw [get_set_here h, h]
  · rw [List.getElem?_set, if_neg (fun e => hj e.symm)]

theorem sum_take {M : List Wk} {ce : Ce} {sum : Int} (h : SumInv M ce sum) {i : Nat} {m : Wk} (hm : M[i]? = some m) (hr : m.reads = false) (ha : m.adds = true) (hd : m.done = false) (_h0 : m.moves = 0) (hh : ce.h = false) : SumInv (M.set i { m with moves := 1 }) { ce with h := true } sum := by
  have no : ∀ (j : Nat) (k : Wk), M[j]? = some k → k.holds = false := by
    intro j k hk
    cases hkh : k.holds with
    | false => rfl
    | true => have := h.lock.2 ⟨j, k, hk, hkh⟩; rw [hh] at this; simp at this
  have nw : ∀ (j : Nat) (k : Wk), M[j]? = some k → k.wrote = false := by
    intro j k hk
    cases hkh : k.wrote with
    | false => rfl
    | true => have := no j k hk; rw [Wk.wrote_holds hkh] at this; simp at this
  have hs : ce.l.getD 0 0 = sum := by
    rcases h.tot with ⟨j, k, h4, h5, _⟩ | ⟨_, h5⟩
    · rw [nw j k h4] at h5; simp at h5
    · exact h5
  refine ⟨h.one, h.vu, h.su, ?_, ?_, ?_, ?_, .inr ⟨?_, hs⟩, ?_, ?_⟩
  · intro j k hk2
    rcases set_get hk2 with ⟨rfl, rfl, _⟩ | ⟨_, hk2⟩
    · exact h.nu _ m hm
    · exact h.nu _ _ hk2
  · intro j k hk2
    rcases set_get hk2 with ⟨rfl, rfl, _⟩ | ⟨_, hk2⟩
    · exact .inr ⟨hr, ha, by simp⟩
    · exact h.kind _ _ hk2
  · intro j k hk2
    rcases set_get hk2 with ⟨rfl, rfl, _⟩ | ⟨_, hk2⟩
    · intro _ _ h2; simp at h2
    · exact h.pend _ _ hk2
  · intro j k hk2
    rcases set_get hk2 with ⟨rfl, rfl, _⟩ | ⟨_, hk2⟩
    · intro _ _ h2; simp at h2
    · exact h.pend3 _ _ hk2
  · intro j k hk2
    rcases set_get hk2 with ⟨rfl, rfl, _⟩ | ⟨_, hk2⟩
    · simp [Wk.wrote]
    · exact nw _ _ hk2
  · intro a b k l ha2 hb hka hlb
    rcases set_get ha2 with ⟨rfl, rfl, _⟩ | ⟨_, ha2⟩
    · rcases set_get hb with ⟨rfl, rfl, _⟩ | ⟨_, hb⟩
      · rfl
      · rw [no _ _ hb] at hlb; simp at hlb
    · rw [no _ _ ha2] at hka; simp at hka
  · exact ⟨fun _ => ⟨i, _, get_set_here hm, by rw [Wk.holds_iff]; exact ⟨hr, by simp, hd⟩⟩, fun _ => rfl⟩

theorem sum_write {M : List Wk} {ce : Ce} {sum : Int} (h : SumInv M ce sum) {i : Nat} {m : Wk} (hm : M[i]? = some m) (hr : m.reads = false) (ha : m.adds = true) (hd : m.done = false) (h0 : m.moves = 2) : SumInv (M.set i { m with moves := 3 }) { ce with l := ce.l.set 0 (m.l.getD 0 0) } sum := by
  have hmh : m.holds = true := by rw [Wk.holds_iff]; exact ⟨hr, by omega, hd⟩
  have nw : ∀ (j : Nat) (k : Wk), M[j]? = some k → k.wrote = false := by
    intro j k hk
    cases hkh : k.wrote with
    | false => rfl
    | true =>
      have := h.uniq i j m k hm hk hmh (Wk.wrote_holds hkh)
      subst this
      rw [hm] at hk
      cases hk
      rw [Wk.wrote_iff] at hkh
      omega
  have hs : ce.l.getD 0 0 = sum := by
    rcases h.tot with ⟨j, k, h4, h5, _⟩ | ⟨_, h5⟩
    · rw [nw j k h4] at h5; simp at h5
    · exact h5
  have hp := h.pend i m hm hr hd h0
  have hv : (ce.l.set 0 (m.l.getD 0 0)).getD 0 0 = IntKind.u64.wrap (sum + m.n) := by
    rw [getD_set, if_pos ⟨rfl, by rw [h.one]; omega⟩, hp, hs]; rfl
  refine ⟨by simpa using h.one, ?_, h.su, ?_, ?_, ?_, ?_, .inl ⟨i, _, get_set_here hm, ?_, hv⟩, ?_, ?_⟩
  · show U64 ((ce.l.set 0 (m.l.getD 0 0)).getD 0 0)
    rw [hv]; exact wrap_U64 _
  · intro j k hk2
    rcases set_get hk2 with ⟨rfl, rfl, _⟩ | ⟨_, hk2⟩
    · exact h.nu _ m hm
    · exact h.nu _ _ hk2
  · intro j k hk2
    rcases set_get hk2 with ⟨rfl, rfl, _⟩ | ⟨_, hk2⟩
    · exact .inr ⟨hr, ha, by simp⟩
    · exact h.kind _ _ hk2
  · intro j k hk2
    rcases set_get hk2 with ⟨rfl, rfl, _⟩ | ⟨hj, hk2⟩
    · intro _ _ h2; simp at h2
    · intro k1 k2 k3
      have := h.uniq i j m k hm hk2 hmh (by rw [Wk.holds_iff]; exact ⟨k1, by omega, k2⟩)
      omega
  · intro j k hk2
    rcases set_get hk2 with ⟨rfl, rfl, _⟩ | ⟨_, hk2⟩
    · intro _ _ _; show m.l.length = 1; rw [hp]; rfl
    · exact h.pend3 _ _ hk2
  · rw [Wk.wrote_iff]; exact ⟨hr, rfl, hd⟩
  · have key : ∀ (j : Nat) (k : Wk), (M.set i { m with moves := 3 })[j]? = some k → k.holds = true → j = i := by
      intro j k hk2 hkh
      rcases set_get hk2 with ⟨rfl, rfl, _⟩ | ⟨_, hk2⟩
      · rfl
      · exact (h.uniq i j m k hm hk2 hmh hkh).symm
    intro a b k l ha2 hb hka hlb
    rw [key a k ha2 hka, key b l hb hlb]
  · rw [h.lock]
    exact ⟨fun _ => ⟨i, _, get_set_here hm, by rw [Wk.holds_iff]; exact ⟨hr, by simp, hd⟩⟩, fun _ => ⟨i, m, hm, hmh⟩⟩

theorem sum_end {M : List Wk} {ce : Ce} {sum : Int} (h : SumInv M ce sum) {i : Nat} {m : Wk} (hm : M[i]? = some m) (hr : m.reads = false) (ha : m.adds = true) (hd : m.done = false) (h0 : m.moves = 3) (c : Int) : SumInv (M.set i { m with done := true }) { ce with h := false, c := c } (IntKind.u64.wrap (sum + m.n)) := by
  have hmh : m.holds = true := by rw [Wk.holds_iff]; exact ⟨hr, by omega, hd⟩
  have hmw : m.wrote = true := by rw [Wk.wrote_iff]; exact ⟨hr, h0, hd⟩
  have hv : ce.l.getD 0 0 = IntKind.u64.wrap (sum + m.n) := by
    rcases h.tot with ⟨j, k, h4, h5, h6⟩ | ⟨h5, _⟩
    · have := h.uniq i j m k hm h4 hmh (Wk.wrote_holds h5)
      subst this
      rw [hm] at h4
      cases h4
      exact h6
    · rw [h5 i m hm] at hmw; simp at hmw
  have no : ∀ (j : Nat) (k : Wk), (M.set i { m with done := true })[j]? = some k → k.holds = false := by
    intro j k hk2
    rcases set_get hk2 with ⟨rfl, rfl, _⟩ | ⟨hj, hk2⟩
    · simp [Wk.holds]
    · cases hkh : k.holds with
      | false => rfl
      | true => have := h.uniq i j m k hm hk2 hmh hkh; omega
  refine ⟨h.one, h.vu, wrap_U64 _, ?_, ?_, ?_, ?_, .inr ⟨?_, hv⟩, ?_, ?_⟩
  · intro j k hk2
    rcases set_get hk2 with ⟨rfl, rfl, _⟩ | ⟨_, hk2⟩
    · exact h.nu _ m hm
    · exact h.nu _ _ hk2
  · intro j k hk2
    rcases set_get hk2 with ⟨rfl, rfl, _⟩ | ⟨_, hk2⟩
    · exact .inr ⟨hr, ha, by show m.moves ≤ 3; omega⟩
    · exact h.kind _ _ hk2
  · intro j k hk2
    rcases set_get hk2 with ⟨rfl, rfl, _⟩ | ⟨_, hk2⟩
    · intro _ h2 _; simp at h2
    · exact h.pend _ _ hk2
  · intro j k hk2
    rcases set_get hk2 with ⟨rfl, rfl, _⟩ | ⟨_, hk2⟩
    · intro _ h2 _; simp at h2
    · exact h.pend3 _ _ hk2
  · intro j k hk2
    cases hkh : k.wrote with
    | false => rfl
    | true => have := no j k hk2; rw [Wk.wrote_holds hkh] at this; simp at this
  · intro a b k l ha2 hb hka hlb
    rw [no _ _ ha2] at hka; simp at hka
  · constructor
    · intro h2; simp at h2
    · rintro ⟨j, k, hk2, hkh⟩; rw [no _ _ hk2] at hkh; simp at hkh

theorem sumNext_no {sum : Int} {m m' : Wk} (h : m'.done = false) : sumNext sum m m' = sum := by simp [sumNext, h]
theorem sumNext_yes {sum : Int} {m m' : Wk} (h0 : m.done = false) (h : m'.done = true) : sumNext sum m m' = IntKind.u64.wrap (sum + m.n) := by simp [sumNext, h, h0]
theorem SumInv.no {M : List Wk} {ce : Ce} {sum : Int} {m m' : Wk} (h : SumInv M ce sum) (hd : m'.done = false) : SumInv M ce (sumNext sum m m') := by rw [sumNext_no hd]; exact h
theorem SumInv.yes {M : List Wk} {ce : Ce} {sum : Int} {m m' : Wk} (h0 : m.done = false) (hd : m'.done = true) (h : SumInv M ce (IntKind.u64.wrap (sum + m.n))) : SumInv M ce (sumNext sum m m') := by rw [sumNext_yes h0 hd]; exact h
theorem SumInv.yes0 {M : List Wk} {ce : Ce} {sum : Int} {m m' : Wk} (h0 : m.done = false) (hd : m'.done = true) (hn : m.n = 0) (h : SumInv M ce sum) : SumInv M ce (sumNext sum m m') := by rw [sumNext_yes h0 hd, hn, wrap_zero h.su]; exact h
/-- Each move keeps it. -/
theorem sum_step {M : List Wk} {ce : Ce} {sum : Int} (h : SumInv M ce sum) {i : Nat} {m : Wk} (hm : M[i]? = some m) : SumInv (M.set i (m.step ce).2.1) (m.step ce).2.2 (sumNext sum m (m.step ce).2.1) := by
  cases hd : m.done with
  | true =>
    have e : m.step ce = (2, m, ce) := by unfold Wk.step; rw [if_pos hd]
    rw [e]
    show SumInv (M.set i m) ce (sumNext sum m m)
    rw [set_self hm, show sumNext sum m m = sum by simp [sumNext, hd]]; exact h
  | false =>
    rcases h.kind i m hm with ⟨hr, hn, h2⟩ | ⟨hr, ha, h3⟩
    · obtain ⟨s1, s2, s3, s4, s5⟩ := step_read hr hd h.one
      have nh : m.holds = false := by simp [Wk.holds, hr]
      have nw : m.wrote = false := by simp [Wk.wrote, hr]
      have m3 : m.moves = 0 ∨ m.moves = 1 ∨ m.moves = 2 := by omega
      rcases m3 with h0 | h0 | h0
      · cases hh : ce.h with
        | true =>
          rw [s1 h0 hh]
          refine SumInv.no ?_ hd
          show SumInv (M.set i m) ce sum
          rw [set_self hm]; exact h
        | false =>
          rw [s2 h0 hh]
          refine SumInv.no ?_ hd
          exact h.quiet hm rfl (.inl ⟨hr, hn, by simp⟩) (by simp [Wk.holds, hr]) (by simp [Wk.wrote, hr]) (fun h => by rw [show _ = true from hr] at h; simp at h) (fun h => by rw [show _ = true from hr] at h; simp at h)
      · rw [s3 h0]
        refine SumInv.no ?_ hd
        exact h.quiet hm rfl (.inl ⟨hr, hn, by simp⟩) (by simp [Wk.holds, hr]) (by simp [Wk.wrote, hr]) (fun h => by rw [show _ = true from hr] at h; simp at h) (fun h => by rw [show _ = true from hr] at h; simp at h)
      · by_cases hc : ce.h = true ∨ ce.c ≠ m.seen
        · rw [s4 h0 hc]
          refine SumInv.no ?_ hd
          exact h.quiet hm rfl (.inl ⟨hr, hn, by simp⟩) (by simp [Wk.holds, hr]) (by simp [Wk.wrote, hr]) (fun h => by rw [show _ = true from hr] at h; simp at h) (fun h => by rw [show _ = true from hr] at h; simp at h)
        · rw [s5 h0 hc]
          refine SumInv.yes0 hd rfl hn ?_
          exact h.quiet hm rfl (.inl ⟨hr, hn, by show m.moves ≤ 2; omega⟩) (by simp [Wk.holds, hr]) (by simp [Wk.wrote, hr]) (fun h => by rw [show _ = true from hr] at h; simp at h) (fun h => by rw [show _ = true from hr] at h; simp at h)
    · obtain ⟨s1, s2, s3, s4, s5⟩ := step_add (ce := ce) hr ha hd
      have m3 : m.moves = 0 ∨ m.moves = 1 ∨ m.moves = 2 ∨ m.moves = 3 := by omega
      rcases m3 with h0 | h0 | h0 | h0
      · cases hh : ce.h with
        | true =>
          rw [s1 h0 hh]
          refine SumInv.no ?_ hd
          show SumInv (M.set i m) ce sum
          rw [set_self hm]; exact h
        | false =>
          rw [s2 h0 hh]
          refine SumInv.no ?_ hd
          exact sum_take h hm hr ha hd h0 hh
      · rw [s3 h0]
        refine SumInv.no ?_ hd
        exact h.quiet hm rfl (.inr ⟨hr, ha, by simp⟩) (by simp [Wk.holds, hr, hd, h0]) (by simp [Wk.wrote, h0]) (fun _ _ _ => rfl) (fun _ _ h => by simp at h)
      · have hl : m.l.length = 1 := by rw [h.pend i m hm hr hd h0]; rfl
        rw [s4 h0 hl]
        refine SumInv.no ?_ hd
        exact sum_write h hm hr ha hd h0
      · have hl : m.l.length = 1 := h.pend3 i m hm hr hd h0
        rw [s5 h0 hl]
        refine SumInv.yes hd rfl ?_
        exact sum_end h hm hr ha hd h0 _

/-- How many moves alone bring a player to its end, at most. -/
def Wk.dist (m : Wk) (ce : Ce) : Nat :=
  if m.done = true then 0 else if m.reads = true then (if m.moves = 0 then 3 else if m.seen = ce.c then 3 - m.moves else 6 - m.moves) else 4 - m.moves
theorem dist_le {M : List Wk} {ce : Ce} {sum : Int} (h : SumInv M ce sum) {i : Nat} {m : Wk} (hm : M[i]? = some m) : m.dist ce ≤ 5 ∧ (m.dist ce = 0 ↔ m.done = true) := by
  unfold Wk.dist
  cases hd : m.done with
  | true => simp
  | false =>
    rcases h.kind i m hm with ⟨hr, hn, h2⟩ | ⟨hr, ha, h3⟩
    · rw [if_neg (by simp), if_pos hr]
      split
      · simp
      · split <;> (refine ⟨by omega, ?_⟩; simp; omega)
    · rw [if_neg (by simp), if_neg (by simp [hr])]
      refine ⟨by omega, ?_⟩
      simp; omega
/-- Who holds, or comes where nobody holds, comes nearer with each move; who is done leaves nobody holding. -/
theorem dist_step {M : List Wk} {ce : Ce} {sum : Int} (h : SumInv M ce sum) {i : Nat} {m : Wk} (hm : M[i]? = some m) (hd : m.done = false) (hf : m.holds = true ∨ ce.h = false) :
    (m.step ce).2.1.dist (m.step ce).2.2 + 1 = m.dist ce ∧ ((m.step ce).2.1.holds = true ∨ (m.step ce).2.2.h = false) ∧ ((m.step ce).1 = 2 ↔ (m.step ce).2.1.done = true) ∧ ((m.step ce).2.1.done = true → (m.step ce).2.2.h = false) := by
  rcases h.kind i m hm with ⟨hr, hn, h2⟩ | ⟨hr, ha, h3⟩
  · obtain ⟨s1, s2, s3, s4, s5⟩ := step_read hr hd h.one
    have nh : m.holds = false := by simp [Wk.holds, hr]
    have hh : ce.h = false := by
      rcases hf with hf | hf
      · rw [nh] at hf; simp at hf
      · exact hf
    have m3 : m.moves = 0 ∨ m.moves = 1 ∨ m.moves = 2 := by omega
    rcases m3 with h0 | h0 | h0
    · rw [s2 h0 hh]; simp [Wk.dist, hd, hr, h0, hh]
    · rw [s3 h0]
      refine ⟨?_, .inr hh, by simp [hd], fun h => by simp [hd] at h⟩
      simp only [Wk.dist, hd, hr, h0]
      by_cases hs : m.seen = ce.c <;> simp [hs]
    · by_cases hc : ce.h = true ∨ ce.c ≠ m.seen
      · have hs : ¬ m.seen = ce.c := by
          rcases hc with hc | hc
          · rw [hh] at hc; simp at hc
          · exact fun e => hc e.symm
        rw [s4 h0 hc]
        simp [Wk.dist, hd, hr, h0, hs, hh]
      · have hs : m.seen = ce.c := by
          apply Classical.byContradiction
          intro e
          exact hc (.inr (fun e2 => e e2.symm))
        rw [s5 h0 hc]
        simp [Wk.dist, hd, hr, h0, hs, hh]
  · obtain ⟨s1, s2, s3, s4, s5⟩ := step_add (ce := ce) hr ha hd
    have m3 : m.moves = 0 ∨ m.moves = 1 ∨ m.moves = 2 ∨ m.moves = 3 := by omega
    rcases m3 with h0 | h0 | h0 | h0
    · have hh : ce.h = false := by
        rcases hf with hf | hf
        · rw [Wk.holds_iff] at hf; omega
        · exact hf
      rw [s2 h0 hh]
      simp [Wk.dist, Wk.holds, hd, hr, h0]
    · rw [s3 h0]
      simp [Wk.dist, Wk.holds, hd, hr, h0]
    · have hl : m.l.length = 1 := by rw [h.pend i m hm hr hd h0]; rfl
      rw [s4 h0 hl]
      simp [Wk.dist, Wk.holds, hd, hr, h0]
    · have hl : m.l.length = 1 := h.pend3 i m hm hr hd h0
      rw [s5 h0 hl]
      simp [Wk.dist, Wk.holds, hd, hr, h0]
end Go.Proofs.Ytlgebknbfchnlaa

/- law18's sums: the state, with what is counted. -/
namespace Go.Proofs.Ytlgebknbfchnlaa
set_option linter.unusedVariables false
set_option linter.unusedSimpArgs false
open Go Go.RowKit Go.Hay Go.Proofs.YtlgebknbfchnlaaW.PrintWords

theorem step_done (m : Wk) (ce : Ce) : ((m.step ce).1 = 2 ↔ (m.step ce).2.1.done = true) ∧ (m.done = true → m.step ce = (2, m, ce)) := by
  constructor
  · unfold Wk.step
    by_cases hd : m.done = true
    · rw [if_pos hd]; simp [hd]
    · rw [if_neg hd]
      repeat' split
      all_goals simp [hd]
  · intro hd
    unfold Wk.step
    rw [if_pos hd]

/-- The program's side, what is over, what is summed up. -/
structure Sx (g : Nat) (w0 w : World) (sp b cp L : Nat) (vw vr vm : Value) (ws rs : List (Option Nat)) (ch : Ce) (M : List Wk) (ce : Ce) (P : List Pl) (sum : Int) : Prop where
  st : StX [g] w0 w 8 sp b cp vw vr vm ws rs ce P ch M
  inv : SumInv (P.map (·.m)) ce sum
  ns : ∀ (i : Nat) (p : Pl) (k : Wk), P[i]? = some p → M[i]? = some k → k.n = p.m.n
  len : P.length = L
  over : Blk w g 4 ((P.map (fun p => p.m.done)).map Value.bool).toArray

theorem get_map {α β : Type} {l : List α} {f : α → β} {i : Nat} {a : α} (h : l[i]? = some a) : (l.map f)[i]? = some (f a) := by rw [List.getElem?_map, h]; rfl
theorem map_get {α β : Type} {l : List α} {f : α → β} {i : Nat} {b : β} (h : (l.map f)[i]? = some b) : ∃ a, l[i]? = some a ∧ f a = b := by
  rw [List.getElem?_map] at h
  cases hl : l[i]? with
  | none => rw [hl] at h; simp at h
  | some a => rw [hl] at h; simp at h; exact ⟨a, rfl, h⟩

theorem Sx.kept {g : Nat} {w0 w w' : World} {sp b cp L : Nat} {vw vr vm : Value} {ws rs : List (Option Nat)} {ch : Ce} {M : List Wk} {ce : Ce} {P : List Pl} {sum : Int} (h : Sx g w0 w sp b cp L vw vr vm ws rs ch M ce P sum) (k : Keep [] w w') : Sx g w0 w' sp b cp L vw vr vm ws rs ch M ce P sum :=
  ⟨h.st.kept k, h.inv, h.ns, h.len, h.over.keep k (by simp)⟩
theorem Sx.cell {g : Nat} {w0 w : World} {sp b cp L : Nat} {vw vr vm : Value} {ws rs : List (Option Nat)} {ch : Ce} {M : List Wk} {ce : Ce} {P : List Pl} {sum : Int} (h : Sx g w0 w sp b cp L vw vr vm ws rs ch M ce P sum) {j : Nat} {p : Pl} (hp : P[j]? = some p) : w.cell? ⟨g, j, none⟩ = some (.bool p.m.done) := by
  rw [h.over.cell]
  simp [hp]
/-- What a round reads. -/
theorem Sx.view {g : Nat} {w0 w : World} {sp b cp L gw gk cw ck : Nat} {vr : Value} {ws rs : List (Option Nat)} {ch : Ce} {M : List Wk} {ce : Ce} {P : List Pl} {sum : Int} (h : Sx g w0 w sp b cp L (.slice (some ⟨gw, 0, none⟩) L cw) vr (.slice (some ⟨gk, 0, none⟩) L ck) ws rs ch M ce P sum) {j : Nat} {p : Pl} (hp : P[j]? = some p) :
    ∃ k : Wk, M[j]? = some k ∧ k.n = p.m.n ∧ w.cell? ⟨gk, j, none⟩ = some (.pointer (some ⟨k.p, 0, none⟩)) ∧ w.cell? ⟨k.p, 2, none⟩ = some (.int .u64 p.m.n) ∧ w.cell? ⟨gw, j, none⟩ = some (encP p.wp) := by
  have hl := h.st.len
  have hj := (List.getElem?_eq_some_iff.1 hp).1
  obtain ⟨k, hk⟩ : ∃ k, M[j]? = some k := ⟨_, List.getElem?_eq_getElem (by omega)⟩
  have hn := h.ns j p k hp hk
  have h1 := (h.st.doc.2.2 j k hk).blk.cell 2
  refine ⟨k, hk, hn, h.st.at_m hk, by rw [← hn]; exact h1, ?_⟩
  rw [← (h.st.wp hp).1]
  exact h.st.at_w (by omega)
/-- A move, with what it comes to. -/
theorem sx_move {g : Nat} {w0 w : World} {sp b cp : Nat} {vw vr vm : Value} {ws rs : List (Option Nat)} {ch : Ce} {M : List Wk} {ce : Ce} {P : List Pl} (h : StX [g] w0 w 8 sp b cp vw vr vm ws rs ce P ch M) {j : Nat} {p : Pl} (hp : P[j]? = some p) :
    Calls Try.prog 21 #[.pointer (some ⟨sp, 0, none⟩), .int .i64 j] w fun e w' => e = .returned (.tuple #[.int .i64 (p.m.step ce).1, .int .i64 0]) ∧
      ∃ q, q.isR = p.isR ∧ q.m = (p.m.step ce).2.1 ∧ StX [g] w0 w' 8 sp b cp vw vr vm ws rs (p.m.step ce).2.2 (P.set j q) ch M ∧ w'.heap[g]? = w.heap[g]? :=
  (stx_move h hp).mono fun _ _ ⟨h1, q, h2, h3, h4⟩ => ⟨h1, q, h2.isR, h2.m, h3, h4 g (by simp)⟩

theorem SumInv.free {M : List Wk} {ce : Ce} {sum : Int} (h : SumInv M ce sum) (hh : ce.h = false) : (∀ (i : Nat) (m : Wk), M[i]? = some m → m.holds = false) ∧ ce.l.getD 0 0 = sum := by
  have no : ∀ (i : Nat) (m : Wk), M[i]? = some m → m.holds = false := by
    intro i m hm
    cases hmh : m.holds with
    | false => rfl
    | true => have := h.lock.2 ⟨i, m, hm, hmh⟩; rw [hh] at this; simp at this
  refine ⟨no, ?_⟩
  rcases h.tot with ⟨i, m, h1, h2, _⟩ | ⟨_, h2⟩
  · have := no i m h1
    rw [Wk.wrote_holds h2] at this; simp at this
  · exact h2
theorem SumInv.freeh {M : List Wk} {ce : Ce} {sum : Int} (h : SumInv M ce sum) (no : ∀ (i : Nat) (m : Wk), M[i]? = some m → m.holds = false) : ce.h = false := by
  cases hh : ce.h with
  | false => rfl
  | true =>
    obtain ⟨i, m, h1, h2⟩ := h.lock.1 hh
    rw [no i m h1] at h2; simp at h2

/-- The state when a player has moved, over and sum brought up to date. -/
theorem Sx.next {g : Nat} {w0 w w' : World} {sp b cp L : Nat} {vw vr vm : Value} {ws rs : List (Option Nat)} {ch : Ce} {M : List Wk} {ce ce' : Ce} {P : List Pl} {sum sum' : Int} (h : Sx g w0 w sp b cp L vw vr vm ws rs ch M ce P sum) {j : Nat} {p q : Pl} (hp : P[j]? = some p) (hst : StX [g] w0 w' 8 sp b cp vw vr vm ws rs ce' (P.set j q) ch M) (hinv : SumInv ((P.map (·.m)).set j q.m) ce' sum') (hn : q.m.n = p.m.n)
    (ho : Blk w' g 4 (((P.map (fun p => p.m.done)).set j q.m.done).map Value.bool).toArray) : Sx g w0 w' sp b cp L vw vr vm ws rs ch M ce' (P.set j q) sum' := by
  refine ⟨hst, by rw [List.map_set]; exact hinv, ?_, by simpa using h.len, by rw [List.map_set]; exact ho⟩
  intro i r k hr hk
  rcases set_get hr with ⟨rfl, rfl, _⟩ | ⟨_, hr⟩
  · rw [hn]; exact h.ns _ p k hp hk
  · exact h.ns i r k hr hk
theorem set_same_done {P : List Pl} {j : Nat} {p : Pl} {d : Bool} (hp : P[j]? = some p) (hd : d = p.m.done) : (P.map (fun p => p.m.done)).set j d = P.map (fun p => p.m.done) := by
  subst hd
  exact set_self (get_map hp)
theorem blk_over {w : World} {g : Nat} {l : List Bool} {j : Nat} (h : Blk w g 4 (l.map Value.bool).toArray) (b : Bool) : Blk (w.setCell ⟨g, j, none⟩ (.bool b)) g 4 ((l.set j b).map Value.bool).toArray := by
  have := h.set j (.bool b)
  simpa [List.map_set] using this

/-- All players at their start. -/
theorem sum_init {w0 w : World} {sp b cp : Nat} {v vw vr vm : Value} {ws rs : List (Option Nat)} {P : List Pl} {n : Int} (h : St w0 w 8 sp b cp vw vr vm ws rs ⟨cp, false, 0, v, [n]⟩ P ⟨cp, false, 0, v, [n]⟩ (P.map (·.m))) (hn : U64 n) {Q : List (Bool × Bool × Int)} (hst : ∀ (i : Nat) (p : Pl), P[i]? = some p → ∃ q, Q[i]? = some q ∧ Start p q)
    (hq : ∀ q ∈ Q, (q.1 = true ∧ q.2.2 = 0) ∨ (q.1 = false ∧ q.2.1 = true ∧ U64 q.2.2)) : SumInv (P.map (·.m)) ⟨cp, false, 0, v, [n]⟩ n ∧ ∀ (i : Nat) (p : Pl), P[i]? = some p → p.m.done = false := by
  have facts : ∀ (i : Nat) (m : Wk), (P.map (·.m))[i]? = some m → m.moves = 0 ∧ m.done = false ∧ ((m.reads = true ∧ m.n = 0) ∨ (m.reads = false ∧ m.adds = true ∧ U64 m.n)) := by
    intro i m hm
    obtain ⟨p, hp, rfl⟩ := map_get hm
    obtain ⟨q, hq1, hs⟩ := hst i p hp
    obtain ⟨x, _, _, _, hpr⟩ := h.player hp
    refine ⟨hs.moves, ?_, ?_⟩
    · cases hr : p.isR with
      | true =>
        have h0 := hs.rs hr
        rcases (hpr.r hr).2.st with h1 | h1 | h1
        · exact h1.2.2.1
        · omega
        · omega
      | false =>
        have h0 := hs.ws hr
        rcases (hpr.w hr).2.st with h1 | ⟨_, h1 | h1 | h1⟩ | h1
        · exact h1.2.2.1
        · omega
        · omega
        · omega
        · omega
    · rw [hs.reads, hs.isR, hs.n, hs.adds]
      exact hq q (List.mem_of_getElem? hq1)
  have nh : ∀ (i : Nat) (m : Wk), (P.map (·.m))[i]? = some m → m.holds = false := fun i m hm => by simp [Wk.holds, (facts i m hm).1]
  refine ⟨⟨rfl, hn, hn, ?_, ?_, ?_, ?_, .inr ⟨?_, rfl⟩, ?_, ?_⟩, fun i p hp => (facts i p.m (get_map hp)).2.1⟩
  · intro i m hm
    rcases (facts i m hm).2.2 with ⟨_, h2⟩ | ⟨_, _, h2⟩
    · rw [h2]; unfold U64; omega
    · exact h2
  · intro i m hm
    obtain ⟨h1, _, h2 | h2⟩ := facts i m hm
    · exact .inl ⟨h2.1, h2.2, by omega⟩
    · exact .inr ⟨h2.1, h2.2.1, by omega⟩
  · intro i m hm _ _ h2; have := (facts i m hm).1; omega
  · intro i m hm _ _ h2; have := (facts i m hm).1; omega
  · intro i m hm
    cases hw : m.wrote with
    | false => rfl
    | true => have := nh i m hm; rw [Wk.wrote_holds hw] at this; simp at this
  · intro i j m k hm _ hh _; rw [nh i m hm] at hh; simp at hh
  · constructor
    · intro h2; simp at h2
    · rintro ⟨i, m, hm, hh⟩; rw [nh i m hm] at hh; simp at hh
def SxAt (g : Nat) (w0 w : World) (sp b cp L : Nat) (vw vr vm : Value) (ws rs : List (Option Nat)) (ch : Ce) (M : List Wk) (sv : Value) : Prop := ∃ ce P sum, sv = .int .u64 sum ∧ Sx g w0 w sp b cp L vw vr vm ws rs ch M ce P sum
/-- What is read of the document's part. -/
theorem StX.docN {X : List Nat} {w0 w : World} {n sp b cp gk L ck : Nat} {vw vr : Value} {ws rs : List (Option Nat)} {ce : Ce} {P : List Pl} {ch : Ce} {M : List Wk} (h : StX X w0 w n sp b cp vw vr (.slice (some ⟨gk, 0, none⟩) L ck) ws rs ce P ch M) {j : Nat} {k : Wk} (hk : M[j]? = some k) :
    w.cell? ⟨gk, j, none⟩ = some (.pointer (some ⟨k.p, 0, none⟩)) ∧ w.cell? ⟨k.p, 2, none⟩ = some (.int .u64 k.n) := ⟨h.at_m hk, (h.doc.2.2 j k hk).blk.cell 2⟩
def SxT (t : Nat) (g : Nat) (w0 w : World) (sp b cp L : Nat) (vw vr vm : Value) (ws rs : List (Option Nat)) (ch : Ce) (M : List Wk) (sv : Value) : Prop := ∃ ce P sum, sv = .int .u64 sum ∧ Sx g w0 w sp b cp L vw vr vm ws rs ch M ce P sum ∧ (1 ≤ t → ce.h = false)
def SxK (t k : Nat) (g : Nat) (w0 w : World) (sp b cp L : Nat) (vw vr vm : Value) (ws rs : List (Option Nat)) (ch : Ce) (M : List Wk) (sv : Value) : Prop := ∃ ce P sum, sv = .int .u64 sum ∧ Sx g w0 w sp b cp L vw vr vm ws rs ch M ce P sum ∧ (1 ≤ t → ce.h = false) ∧ (t = 0 → ∀ (i : Nat) (p : Pl), i < k → P[i]? = some p → p.m.holds = false)
/-- A player moves alone. -/
structure SxI (g : Nat) (w0 w W : World) (sp b cp : Nat) (vw vr vm : Value) (ws rs : List (Option Nat)) (ch : Ce) (M : List Wk) (P : List Pl) (k : Nat) (p : Pl) (sum : Int) (jn : Nat) (ce : Ce) (q : Pl) (vn : Int) : Prop where
  st : StX [g] w0 w 8 sp b cp vw vr vm ws rs ce (P.set k q) ch M
  heap : w.heap[g]? = W.heap[g]?
  inv : SumInv ((P.map (·.m)).set k q.m) ce (sumNext sum p.m q.m)
  n : q.m.n = p.m.n
  way : (q.m.done = false ∧ vn ≠ 2 ∧ jn + q.m.dist ce ≤ 5 ∧ (q.m.holds = true ∨ ce.h = false)) ∨ (q.m.done = true ∧ vn = 2 ∧ ce.h = false ∧ jn ≤ 5)
theorem SxI.step {g : Nat} {w0 w w' W : World} {sp b cp : Nat} {vw vr vm : Value} {ws rs : List (Option Nat)} {ch : Ce} {M : List Wk} {P : List Pl} {k : Nat} {p q q' : Pl} {sum vn : Int} {jn : Nat} {ce : Ce} (h : SxI g w0 w W sp b cp vw vr vm ws rs ch M P k p sum jn ce q vn) (hp : P[k]? = some p) (hpd : p.m.done = false) (hd : q.m.done = false)
    (hq : q'.m = (q.m.step ce).2.1) (hst : StX [g] w0 w' 8 sp b cp vw vr vm ws rs (q.m.step ce).2.2 ((P.set k q).set k q') ch M) (hh : w'.heap[g]? = w.heap[g]?) : SxI g w0 w' W sp b cp vw vr vm ws rs ch M P k p sum (jn + 1) (q.m.step ce).2.2 q' (q.m.step ce).1 := by
  have hqk : ((P.map (·.m)).set k q.m)[k]? = some q.m := get_set_here (get_map hp)
  have hw : jn + q.m.dist ce ≤ 5 ∧ (q.m.holds = true ∨ ce.h = false) := by
    rcases h.way with h1 | h1
    · exact ⟨h1.2.2.1, h1.2.2.2⟩
    · rw [hd] at h1; simp at h1
  obtain ⟨d1, d2, d3, d4⟩ := dist_step h.inv hqk hd hw.2
  have hs := sum_step h.inv hqk
  have hnn := (step_keeps q.m ce).1
  rw [List.set_set] at hs
  rw [List.set_set] at hst
  rw [sumNext_no (m := p.m) hd] at hs
  refine ⟨hst, hh.trans h.heap, ?_, by rw [hq, hnn]; exact h.n, ?_⟩
  · rw [hq]
    have e : sumNext sum p.m (q.m.step ce).2.1 = sumNext sum q.m (q.m.step ce).2.1 := by unfold sumNext; rw [hpd, hd, h.n]
    rw [e]; exact hs
  · rw [hq]
    cases hd2 : (q.m.step ce).2.1.done with
    | false => exact .inl ⟨rfl, fun e => by have := d3.1 e; rw [hd2] at this; simp at this, by omega, d2⟩
    | true => exact .inr ⟨rfl, d3.2 hd2, d4 hd2, by omega⟩
theorem sx_words {g : Nat} {w0 w : World} {sp b cp L : Nat} {vw vr vm : Value} {ws rs : List (Option Nat)} {ch : Ce} {M : List Wk} {ce : Ce} {P : List Pl} {sum : Int} (h : Sx g w0 w sp b cp L vw vr vm ws rs ch M ce P sum) (hh : ce.h = false) :
    Calls Try.prog 22 #[.pointer (some ⟨sp, 0, none⟩)] w fun e w' => ∃ ad cap, e = .returned (.slice (some ad) 1 cap) ∧ w'.cell? ad = some (.int .u64 sum) ∧ Keep [] w w' := by
  refine (stx_words h.st).mono ?_
  rintro e w' ⟨A, cap, rfl, h1, h2, h3⟩
  have h0 := h.inv.one
  have h4 := (h.inv.free hh).2
  have h5 := h2.2.2 (by omega)
  rw [h0] at h2 ⊢
  have hg : ∃ ad, A = some ad ∧ w'.cell? (ad.add 0) = some (.int .u64 (ce.l.getD 0 0)) := by
    obtain ⟨ad, c, hA, _, hk, hc⟩ := ReadsRow.get_ h2 0 0 (by omega) (by omega)
    refine ⟨ad, hA, ?_⟩
    have e : c = [Value.int .u64 (ce.l.getD 0 0)] := hk
    subst e
    exact hc 0 _ rfl
  obtain ⟨ad, rfl, h6⟩ := hg
  exact ⟨ad, cap, rfl, by rw [← h4]; exact h6, h3⟩
theorem info_bool : (Try.prog.info? 4).map (fun i => (i.zero, i.size, i.bytes)) = some (some (.bool false), 1, 1) := by kernel_rfl
theorem make_bool (w : World) (n : Nat) (hn : n ≤ 70000) : (Instr.makeSlice 49 (.int .i64 n) (.int .i64 n)).run Try.prog w = .ok (.slice (some ⟨w.heap.size, 0, none⟩) n n) (w.alloc (.cells ((List.replicate n false).map Value.bool).toArray 4)) := by
  obtain ⟨ii, hi, hz0, hz1, hz2⟩ := info_parts info_bool
  have hmk := run_make (P := Try.prog) w 49 4 ii (.bool false) Try.underlying49 hi hz0 .i64 .i64 n n (by omega) (by omega) (by rw [hz2]; omega) (by omega)
  rw [show (Value.bool false).cells = #[.bool false] from rfl, hz1, made_rep] at hmk
  simp only [Int.toNat_natCast, Nat.mul_one] at hmk
  rw [hmk]; simp
theorem done_all {P : List Pl} (h : ∀ (i : Nat) (p : Pl), P[i]? = some p → p.m.done = false) : P.map (fun p => p.m.done) = List.replicate P.length false := by
  apply List.ext_getElem?
  intro i
  rw [List.getElem?_map, List.getElem?_replicate]
  cases hp : P[i]? with
  | none => simp at hp; rw [if_neg (by omega)]; rfl
  | some p => rw [if_pos (List.getElem?_eq_some_iff.1 hp).1]; show some p.m.done = _; rw [h i p hp]
theorem ints_cellS {k : IntKind} {w : World} {A : Option Addr} {n : Nat} {l : List Int} (h : (Kd.int k).C w A n l) {j : Nat} (hj : j < n) : ∃ ad, A = some ad ∧ w.cell? (ad.add j) = some (.int k (l.getD j 0)) := by
  obtain ⟨ad, c, hA, _, hk, hc⟩ := ReadsRow.get_ h 0 (j : Int) (by omega) (by omega)
  refine ⟨ad, hA, ?_⟩
  have e : c = [Value.int k (l.getD j 0)] := hk
  subst e
  have h2 := hc 0 _ rfl
  rw [show (j : Int).toNat * (Kd.int k).sz + 0 = j from Nat.mul_one j] at h2
  exact h2

end Go.Proofs.Ytlgebknbfchnlaa

/- law18's InplaceSums: its walk. -/
namespace Go.Proofs.Ytlgebknbfchnlaa
set_option linter.unusedVariables false
set_option linter.unusedSimpArgs false
open Go Go.RowKit Go.Hay Go.Proofs.YtlgebknbfchnlaaW.PrintWords

theorem info_w18 : (Try.prog.info? 44).map (fun i => (i.zero, i.size, i.bytes)) = some (some (.agg #[.int .i64 0, .string ⟨#[]⟩, .int .u64 0]), 3, 32) := by kernel_rfl
def mk2 (a : Int) : Act18 := (2, ⟨#[]⟩, a)
def mk3 : Act18 := (3, ⟨#[]⟩, 0)
theorem actK_M (w : World) (base : Nat) (ok : Nat → Prop) (a : Act18) : actK.M w base ok a [.int .i64 a.1, .string a.2.1, .int .u64 a.2.2] := ⟨[_], [_, _], rfl, rfl, [_], [_], rfl, rfl, rfl⟩
theorem actK_nil (w : World) (base : Nat) (hb : base ≤ w.heap.size) : actK.R 44 (w.alloc (.cells #[] 44)) base (fun _ => True) (.slice (some ⟨w.heap.size, 0, none⟩) 0 0) [] :=
  ⟨fun _ _ => trivial, [], ⟨rfl, .inr ⟨w.heap.size, 0, #[], rfl, hb, heap_new w _, Nat.le_refl _, Nat.zero_le _, rfl, rfl⟩⟩, Reps.none _ _⟩
theorem take_snoc' (l : List Int) (k : Nat) (h : k < l.length) : (l.take (k + 1)).map mk2 = (l.take k).map mk2 ++ [mk2 (l.getD k 0)] := by
  rw [List.take_succ_eq_append_getElem h, List.map_append, List.getD_eq_getElem?_getD, List.getElem?_eq_getElem h]; rfl

set_option maxRecDepth 100000 in
set_option maxHeartbeats 4000000 in
theorem sums_ok (n : Int) (hn : U64 n) (Aa : Option Addr) (na ca : Nat) (adds : List Int) (rd : Int) (hr0 : 0 ≤ rd) (hr1 : rd ≤ 255) (Am : Option Addr) (nm cm : Nat) (mv : List Int) (w : World) (hl : (Kd.int .u64).C w Aa na adds) (hU : ∀ a ∈ adds, U64 a) (hmv : (Kd.int .u8).C w Am nm mv) (hR : ∀ x ∈ mv, 0 ≤ x ∧ x ≤ 255) :
    Calls Try.prog 4 #[.int .u64 n, .slice Aa na ca, .int .u8 rd, .slice Am nm cm] w fun e w' => e = .returned (.bool true) ∧ Keep [] w w' := by
  have HA := Hid.mk (awake_ok w)
  have Hl := Hid.mk hl
  have HLl := Hid.mk hl.1
  have HU := Hid.mk hU
  have HR := Hid.mk hR
  have Hmv := Hid.mk hmv
  have hna : na ≤ 9223372036854775807 := hl.2.1
  have hnm : nm ≤ 9223372036854775807 := hmv.2.1
  obtain ⟨r, hr⟩ : ∃ r : Nat, rd % 3 = (r : Int) := ⟨(rd % 3).toNat, by omega⟩
  have hr3 : r ≤ 2 := by omega
  clear hl hU hR hmv
  go_enter Try.func4, Try.ntmps4
  go_upto_block 0 with (first
    | (go_at_call 9; refine HA.out.mono ?_; rintro e w1 ⟨rfl, hk1⟩))
  go_cut [9, 10] (fun v _ wr => actK.R 44 wr w1.heap.size (fun _ => True) v ((adds.take 4).map mk2) ∧ Below w1.heap.size w1 wr)
  case first =>
    go_wp2_with fail
    go_loopw [9, 10] (fun v iv wr => ∃ k : Nat, k ≤ na ∧ k ≤ 4 ∧ iv = .int .i64 k ∧ actK.R 44 wr w1.heap.size (fun _ => True) v ((adds.take k).map mk2) ∧ Below w1.heap.size w1 wr) (fun _ iv _ => na - (intOf iv).toNat)
    case atStart => exact ⟨0, Nat.zero_le _, by omega, rfl, actK_nil _ _ (Nat.le_refl _), (Below.refl _ _).alloc (Nat.le_refl _) _⟩
    case round =>
      obtain ⟨k, hk, hk4, rfl, hv, hb⟩ := hrel
      have hlen : ((adds.take k).map mk2).length = k := by rw [List.length_map, List.length_take, HLl.out]; omega
      by_cases hlt : k < na
      · by_cases hl4 : k < 4
        · obtain ⟨ad, rfl, hc⟩ := ints_cellS (Kd.C_below Hl.out (hk1.trans (Keep.of_below hb []) (by simp)).below) hlt
          have HT := Hid.mk (take_snoc' adds k (by rw [HLl.out]; exact hlt))
          generalize adds.getD k 0 = a at *
          obtain ⟨A9, c9, rfl, -, -⟩ := Kd.R_reads hv
          rw [hlen] at hv
          have HLn := Hid.mk hlen
          rw [hlen]
          clear hlen
          go_wp2_with ((at_builtin; refine Kd.R_append actK (w0 := w1) w1.heap.size rfl (.tmp 38) (.tmp 44) 42 44 (.agg #[.int .i64 0, .string ⟨#[]⟩, .int .u64 0]) 32 rfl Try.underlying42 info_w18 rfl (by decide) (by omega) (.slice A9 k c9) ((adds.take k).map mk2) (mk2 a) [.int .i64 2, .string ⟨#[]⟩, .int .u64 a] (fun _ => True) (fun _ => False) rfl rfl (actK_M _ _ _ (mk2 a)) (fun _ hk => hk.elim) (fun _ _ => trivial) hv hb hb.size (by rw [HLn.out]; omega) ?_; intro v1 w2 ho hb2 hg hat))
          go_roundw
          case rel => exact ⟨k + 1, by omega, by omega, by go_num, by rw [HT.out]; exact ho, hb2⟩
          case measure => simp [intOf] <;> omega
        · clear hlen
          go_wp2_with fail
          go_meet
          exact ⟨by rw [show 4 = k by omega]; exact hv, hb⟩
      · clear hlen
        go_wp2_with fail
        go_meet
        have hk2 : k = na := by omega
        exact ⟨by rw [List.take_of_length_le (show adds.length ≤ 4 by rw [HLl.out]; omega)]; rwa [List.take_of_length_le (show adds.length ≤ k by rw [HLl.out]; omega)] at hv, hb⟩
  case rest =>
    obtain ⟨hv, hb⟩ := hcut
    generalize hac : (adds.take 4).map mk2 = ac at hv
    have hac4 : ac.length ≤ 4 := by rw [← hac, List.length_map]; exact List.length_take_le _ _
    have HAC := Hid.mk hac
    clear hac
    go_upto_block 2 with fail
    have hrr : rd % 3 = (r : Int) := hr
    go_cut [9, 11] (fun v _ wr => actK.R 44 wr w1.heap.size (fun _ => True) v (ac ++ List.replicate r mk3) ∧ Below w1.heap.size w1 wr)
    case first =>
      go_wp2_with fail
      go_loopw [9, 11] (fun v iv wr => ∃ k : Nat, k ≤ r ∧ iv = .int .i64 k ∧ actK.R 44 wr w1.heap.size (fun _ => True) v (ac ++ List.replicate k mk3) ∧ Below w1.heap.size w1 wr) (fun _ iv _ => r - (intOf iv).toNat)
      case atStart => exact ⟨0, Nat.zero_le _, rfl, by simpa using hv, hb⟩
      case round =>
        obtain ⟨k, hk, rfl, hv, hb⟩ := hrel
        have hlen : (ac ++ List.replicate k mk3).length = ac.length + k := by simp
        by_cases hlt : k < r
        · obtain ⟨A9, c9, rfl, -, -⟩ := Kd.R_reads hv
          rw [hlen] at hv
          have HLn := Hid.mk hlen
          rw [hlen]
          clear hlen
          go_wp2_with ((at_builtin; refine Kd.R_append actK (w0 := w1) w1.heap.size rfl (.tmp 53) (.tmp 55) 42 44 (.agg #[.int .i64 0, .string ⟨#[]⟩, .int .u64 0]) 32 rfl Try.underlying42 info_w18 rfl (by decide) (by omega) (.slice A9 (ac.length + k) c9) (ac ++ List.replicate k mk3) mk3 [.int .i64 3, .string ⟨#[]⟩, .int .u64 0] (fun _ => True) (fun _ => False) rfl rfl (actK_M _ _ _ mk3) (fun _ hk => hk.elim) (fun _ _ => trivial) hv hb hb.size (by rw [HLn.out]; omega) ?_; intro v1 w2 ho hb2 hg hat))
          go_roundw
          case rel => exact ⟨k + 1, by omega, by go_num, by rw [List.replicate_succ', ← List.append_assoc]; exact ho, hb2⟩
          case measure => simp [intOf] <;> omega
        · clear hlen
          obtain rfl : k = r := by omega
          go_wp2_with fail
          go_meet
          exact ⟨hv, hb⟩
    case rest =>
      clear hv hb hrr
      obtain ⟨hv, hb⟩ := hcut
      generalize hac2 : ac ++ List.replicate r mk3 = al at hv
      have hal6 : al.length ≤ 6 := by rw [← hac2]; simp; omega
      have HAL := Hid.mk hac2
      clear hac2
      obtain ⟨A9, c9, rfl, hc9, hC9⟩ := Kd.R_reads hv
      have HV := Hid.mk (fun W => PInplacePlays.haycroftref09_Value.calls 9 n _ W (refvalue_f n hn))
      have hsz : (strOfNums (bytesL [n] 8)).size = 8 := by rw [strOfNums_size, bytesL_len]
      have hw1 := wordsL_value n hn
      have HUal : ∀ a ∈ al, U64 a.2.2 := by
        rw [← HAL.out, ← HAC.out]
        intro a ha
        rcases List.mem_append.1 ha with ha | ha
        · obtain ⟨y, hy, rfl⟩ := List.mem_map.1 ha
          exact HU.out y (List.mem_of_mem_take hy)
        · rw [List.eq_of_mem_replicate ha]
          show U64 0
          unfold U64; omega
      have HO := Hid.mk (fun W (hW : Below wc.heap.size wc W) => open_ok (strOfNums (bytesL [n] 8)) A9 al.length c9 al W (Kd.C_below hC9 hW) (by omega) HUal)
      rw [hw1, hsz] at HO
      have Hsz := Hid.mk hsz
      clear hsz hw1
      generalize strOfNums (bytesL [n] 8) = sv at *
      go_upto_region 15 with (first
        | (go_at_call 20; refine (HV.out _).mono ?_; rintro e w3 ⟨rfl, hb3⟩)
        | (go_at_call 19; refine (HO.out w3 hb3).mono ?_; rintro e w4 ⟨sp, rfl, hop⟩))
      have hkw3 : Keep [] w w3 := (hk1.trans (Keep.of_below hb []) (by simp)).trans (Keep.of_below hb3 []) (by simp)
      obtain ⟨b, cp, v, vw, vr, vm, P, hSt, hPl, hStart⟩ := hop.st rfl
      have hQ : ∀ q ∈ (al.take (min al.length 6)).filterMap (specOf 8), (q.1 = true ∧ q.2.2 = 0) ∨ (q.1 = false ∧ q.2.1 = true ∧ U64 q.2.2) := by
        intro q hq
        obtain ⟨a, ha, hqa⟩ := List.mem_filterMap.1 hq
        have ha2 := List.mem_of_mem_take ha
        have hUa := HUal a ha2
        rw [← HAL.out, ← HAC.out] at ha2
        rcases List.mem_append.1 ha2 with ha2 | ha2
        · obtain ⟨y, hy, rfl⟩ := List.mem_map.1 ha2
          simp [specOf, mk2] at hqa
          subst hqa
          exact .inr ⟨rfl, rfl, hUa⟩
        · rw [List.eq_of_mem_replicate ha2] at hqa
          simp [specOf, mk3] at hqa
          subst hqa
          exact .inl ⟨rfl, rfl⟩
      obtain ⟨hinv, hdone⟩ := sum_init hSt hn hStart hQ
      have hover := done_all hdone
      have h6 : P.length ≤ 6 := by have := hSt.six; simpa using this
      obtain ⟨⟨Aw, cw, rfl⟩, ⟨Ar, cr, rfl⟩, ⟨Ak, ck, rfl⟩⟩ := hSt.slices0
      rw [List.length_map] at hSt
      generalize hws : P.map Pl.wp = ws at hSt
      generalize hrs : P.map Pl.rp = rs at hSt
      clear hws hrs hQ hStart hPl hop HUal hdone
      have hsx := hSt.x.grow (.cells ((List.replicate P.length false).map Value.bool).toArray 4)
      have hsc := hSt.scene.cell
      have hns : ∀ (i : Nat) (p : Pl) (k : Wk), P[i]? = some p → (P.map (·.m))[i]? = some k → k.n = p.m.n := by
        intro i p k hp hk
        rw [List.getElem?_map, hp] at hk
        simp at hk
        rw [← hk]
      have HSx : Hid (Sx w4.heap.size w3 (w4.alloc (.cells ((List.replicate P.length false).map Value.bool).toArray 4)) sp b cp P.length (.slice Aw P.length cw) (.slice Ar P.length cr) (.slice Ak P.length ck) ws rs ⟨cp, false, 0, v, [n]⟩ (P.map (·.m)) ⟨cp, false, 0, v, [n]⟩ P n) :=
        ⟨hsx, hinv, hns, rfl, by rw [hover]; exact Blk.new _ _ _⟩
      clear hsx hinv hns hover hSt
      generalize P.map (·.m) = M0 at HSx
      generalize Ce.mk cp false 0 v [n] = ce0 at HSx
      generalize hL : P.length = L at *
      have hmk := make_bool w4 L (by omega)
      go_upto_block 4 with fail
      have erep : ((List.replicate L false).map Value.bool).toArray = Array.replicate L (Value.bool false) := by simp
      rw [erep] at HSx
      clear erep hmk hsc
      generalize w4.alloc (.cells (Array.replicate L (Value.bool false)) 4) = w5 at *
      generalize w4.heap.size = g at *
      clear hL
      have HS0 : Hid (SxAt g w3 w5 sp b cp L (.slice Aw L cw) (.slice Ar L cr) (.slice Ak L ck) ws rs ce0 M0 (.int .u64 n)) := ⟨_, _, _, rfl, HSx.out⟩
      clear HSx hv hb3 hb hC9 HO HV
      go_cut [15, 16] (fun sv _ wr => SxAt g w3 wr sp b cp L (.slice Aw L cw) (.slice Ar L cr) (.slice Ak L ck) ws rs ce0 M0 sv)
      case first =>
        go_wp2_with fail
        go_loopw [15, 16] (fun sv iv wr => ∃ k : Nat, k ≤ nm ∧ k ≤ 300 ∧ iv = .int .i64 k ∧ SxAt g w3 wr sp b cp L (.slice Aw L cw) (.slice Ar L cr) (.slice Ak L ck) ws rs ce0 M0 sv) (fun _ iv _ => nm - (intOf iv).toNat)
        case atStart => exact ⟨0, Nat.zero_le _, by omega, rfl, HS0.out⟩
        case round =>
          obtain ⟨k, hk, hk3, rfl, ce, P, sum, rfl, hS⟩ := hrel
          have hsc := hS.st.scene.cell
          by_cases hlt : k < nm
          · by_cases hl3 : k < 300
            · by_cases h0 : 0 < L
              · have hML : M0.length = L := by rw [← hS.st.len]; exact hS.len
                obtain ⟨⟨gw, c1, e1⟩, ⟨gr, c2, e2⟩, ⟨gk, c3, e3⟩⟩ := hS.st.slices (by rw [hML]; exact h0)
                obtain rfl := slice_inj e1
                obtain rfl := slice_inj e2
                obtain rfl := slice_inj e3
                clear e1 e2 e3 hML
                obtain ⟨adm, rfl, hcx⟩ := ints_cellS (Kd.C_below Hmv.out (hkw3.trans hS.st.keep (by simp)).below) hlt
                have hx := HR.out (mv.getD k 0) (getD_mem (by rw [Hmv.out.1]; exact hlt))
                generalize mv.getD k 0 = x at hcx hx
                obtain ⟨hx0, hx1⟩ := hx
                obtain ⟨j, hj⟩ : ∃ j : Nat, x % (L : Int) = (j : Int) := ⟨(x % (L : Int)).toNat, by have := Int.emod_nonneg x (show (L : Int) ≠ 0 by omega); omega⟩
                have hjL : j < L := by have := Int.emod_lt_of_pos x (show (0 : Int) < (L : Int) by omega); omega
                obtain ⟨p, hp⟩ : ∃ p, P[j]? = some p := ⟨_, List.getElem?_eq_getElem (by rw [hS.len]; exact hjL)⟩
                obtain ⟨k0, hk0, hk0n, -, -, -⟩ := hS.view hp
                have HMv := Hid.mk (fun W hW => sx_move (w := W) (g := g) (w0 := w3) (sp := sp) (b := b) (cp := cp) (vw := .slice (some ⟨gw, 0, none⟩) L cw) (vr := .slice (some ⟨gr, 0, none⟩) L cr) (vm := .slice (some ⟨gk, 0, none⟩) L ck) (ws := ws) (rs := rs) (ch := ce0) (M := M0) (ce := ce) hW hp)
                have hss := sum_step hS.inv (get_map (f := fun (x : Pl) => x.m) hp)
                have hsd := (step_done p.m ce).1
                have hdd : p.m.done = true → (p.m.step ce).2.1.done = true := fun h => by rw [(step_done p.m ce).2 h]; exact h
                have hnn := (step_keeps p.m ce).1
                generalize (p.m.step ce).1 = vv at *
                generalize (p.m.step ce).2.1 = m' at *
                generalize (p.m.step ce).2.2 = ce' at *
                have HNx := Hid.mk (fun w' q (hqm : q.m = m') hst sum' (hs : sumNext sum p.m m' = sum') ho => hS.next (w' := w') (q := q) (ce' := ce') (sum' := sum') hp hst (by rw [hqm, ← hs]; exact hss) (by rw [hqm]; exact hnn) ho)
                have HK0 := Hid.mk hk0
                have HK0n := Hid.mk hk0n
                have HSS := Hid.mk hS
                have HOv := Hid.mk (fun (W' : World) (h : W'.heap[g]? = wr.heap[g]?) => show Blk W' g 4 ((P.map (fun p => p.m.done)).map Value.bool).toArray by unfold Blk; rw [h]; exact hS.over)
                have HPd := Hid.mk (fun (W' : World) (h : Blk W' g 4 ((P.map (fun p => p.m.done)).map Value.bool).toArray) => show W'.cell? ⟨g, j, none⟩ = some (.bool p.m.done) by rw [h.cell]; simp [hp])
                have HP := Hid.mk hp
                have HJ := Hid.mk hj
                clear hss hnn hk0 hk0n hp hS
                have hjL2 : (j : Int) < (L : Int) := by omega
                by_cases hv : vv = 2
                · subst hv
                  have HMd := Hid.mk (hsd.1 rfl)
                  clear hsd hdd
                  cases hpd : p.m.done
                  · rw [hpd] at HPd
                    have HPD := Hid.mk hpd
                    clear hpd
                    go_wp2_with fail
                    go_quiet (fail)
                    go_wp2_with ((go_at_call 21; refine (HMv.out _ (HSS.out.st.kept ((Keep.refl [] wr).drewN _))).mono ?_; rintro e w7 ⟨rfl, q, -, hqm, hS7, hh7⟩; have HQM := Hid.mk hqm; clear hqm; have hO := HOv.out w7 hh7; have hOc := HPd.out w7 hO; have hOf := hO.froz; have h8 := hS7.set (g := g) (by simp) j (.bool true); have hsc8 := h8.scene.cell; obtain ⟨hk8, hN8⟩ := h8.docN HK0.out; rw [HK0n.out] at hN8))
                    go_roundw
                    case rel => exact ⟨k + 1, by omega, by omega, by go_num, ce', P.set j q, _, rfl, HNx.out _ q HQM.out h8 _ (sumNext_yes HPD.out HMd.out) (by rw [HQM.out, HMd.out]; exact blk_over hO true)⟩
                    case measure => simp [intOf] <;> omega
                  · rw [hpd] at HPd
                    have HPD := Hid.mk hpd
                    clear hpd
                    go_wp2_with fail
                    go_quiet (fail)
                    go_wp2_with ((go_at_call 21; refine (HMv.out _ (HSS.out.st.kept ((Keep.refl [] wr).drewN _))).mono ?_; rintro e w7 ⟨rfl, q, -, hqm, hS7, hh7⟩; have HQM := Hid.mk hqm; clear hqm; have hO := HOv.out w7 hh7; have hOc := HPd.out w7 hO))
                    go_roundw
                    case rel => exact ⟨k + 1, by omega, by omega, by go_num, ce', P.set j q, sum, rfl, HNx.out w7 q HQM.out hS7 sum (by simp [sumNext, HPD.out]) (by rw [set_same_done HP.out (by rw [HQM.out, HMd.out, HPD.out])]; exact hO)⟩
                    case measure => simp [intOf] <;> omega
                · have hv2 : (vv == 2) = false := by simpa using hv
                  have hmd : m'.done = false := by cases h : m'.done with
                    | false => rfl
                    | true => exact absurd (hsd.2 h) hv
                  have hpd : p.m.done = false := by cases h : p.m.done with
                    | false => rfl
                    | true => rw [hdd h] at hmd; simp at hmd
                  have HMd := Hid.mk hmd
                  have HPD := Hid.mk hpd
                  clear hsd hdd hmd hpd
                  go_wp2_with fail
                  go_quiet (fail)
                  go_wp2_with ((go_at_call 21; refine (HMv.out _ (HSS.out.st.kept ((Keep.refl [] wr).drewN _))).mono ?_; rintro e w7 ⟨rfl, q, -, hqm, hS7, hh7⟩; have HQM := Hid.mk hqm; clear hqm))
                  go_roundw
                  case rel => exact ⟨k + 1, by omega, by omega, by go_num, ce', P.set j q, sum, rfl, HNx.out w7 q HQM.out hS7 sum (sumNext_no HMd.out) (by rw [set_same_done HP.out (by rw [HQM.out, HMd.out, HPD.out])]; exact HOv.out w7 hh7)⟩
                  case measure => simp [intOf] <;> omega
              · have h0' : L = 0 := by omega
                subst h0'
                go_wp2_with fail
                go_meet
                exact ⟨_, _, _, rfl, hS⟩
            · go_wp2_with fail
              go_meet
              exact ⟨_, _, _, rfl, hS⟩
          · go_wp2_with fail
            go_meet
            exact ⟨_, _, _, rfl, hS⟩
      case rest =>
        clear HS0
        go_wp2_with fail
        go_loopw [15, 20] (fun sv iv wr => ∃ t : Nat, t ≤ 2 ∧ iv = .int .i64 t ∧ SxT t g w3 wr sp b cp L (.slice Aw L cw) (.slice Ar L cr) (.slice Ak L ck) ws rs ce0 M0 sv) (fun _ iv _ => 2 - (intOf iv).toNat)
        case atStart =>
          obtain ⟨ce, P, sum, e1, e2⟩ := hcut
          exact ⟨0, by omega, rfl, ce, P, sum, e1, e2, fun h => by omega⟩
        case round =>
          obtain ⟨t, ht, rfl, ce, P, sum, rfl, hS, hT⟩ := hrel
          by_cases ht2 : t < 2
          · rcases (show t = 0 ∨ t = 1 by omega) with rfl | rfl
            · rw [show ((0 : Nat) : Int) = 0 from rfl]
              have HK0 : Hid (SxK 0 0 g w3 wr sp b cp L (.slice Aw L cw) (.slice Ar L cr) (.slice Ak L ck) ws rs ce0 M0 (.int .u64 sum)) := ⟨ce, P, sum, rfl, hS, hT, fun _ i p hi => by omega⟩
              obtain ⟨wo, rfl⟩ : ∃ wo : World, wo = wr := ⟨_, rfl⟩
              clear hS hT
              go_wp2_with fail
              go_loopw [15, 21] (fun sv iv wr => ∃ k : Nat, k ≤ L ∧ iv = .int .i64 k ∧ SxK 0 k g w3 wr sp b cp L (.slice Aw L cw) (.slice Ar L cr) (.slice Ak L ck) ws rs ce0 M0 sv) (fun _ iv _ => L - (intOf iv).toNat)
              case atStart => exact ⟨0, Nat.zero_le _, rfl, HK0.out⟩
              case round =>
                clear HK0
                obtain ⟨k, hk, rfl, ce, P, sum, rfl, hS, hT1, hT0⟩ := hrel
                have hsc := hS.st.scene.cell
                by_cases hkL : k < L
                · obtain ⟨p, hp⟩ : ∃ p, P[k]? = some p := ⟨_, List.getElem?_eq_getElem (by rw [hS.len]; exact hkL)⟩
                  have hML : M0.length = L := by rw [← hS.st.len]; exact hS.len
                  obtain ⟨⟨gw, c1, e1⟩, ⟨gr, c2, e2⟩, ⟨gk, c3, e3⟩⟩ := hS.st.slices (by rw [hML]; omega)
                  obtain rfl := slice_inj e1
                  obtain rfl := slice_inj e2
                  obtain rfl := slice_inj e3
                  clear e1 e2 e3 hML
                  have hoc := hS.cell hp
                  obtain ⟨k0, hk0, hk0n, vgk, vN, vgw⟩ := hS.view hp
                  have hkL2 : (k : Int) < (L : Int) := by omega
                  cases hpd : p.m.done
                  · rw [hpd] at hoc
                    cases hr : p.isR
                    · obtain ⟨_, _, _, _, hpr⟩ := hS.st.player hp
                      obtain ⟨hwr, hsim⟩ := hpr.w hr
                      have e1 : encP p.wp = .pointer (some ⟨p.wr.p, 0, none⟩) := by unfold Pl.wp; rw [if_neg (by simp [hr])]; rfl
                      rw [e1] at vgw
                      have HW := Hid.mk (fun W hk => hsim.holds_eq ▸ wholds_ok _ _ _ _ p.wr W (hwr.keep (S := []) hk (by simp)))
                      clear e1 hpr hwr hsim hr
                      cases hh : p.m.holds
                      · rw [hh] at HW
                        have HHH := Hid.mk hh
                        clear hh
                        have HPD := Hid.mk hpd
                        clear hpd
                        go_wp2_with ((go_at_call 16; refine (HW.out _ (Keep.refl _ _)).mono ?_; rintro e w8 ⟨rfl, rfl⟩))
                        go_roundw
                        case rel => exact ⟨k + 1, by omega, by go_num, ce, P, sum, rfl, hS, hT1, fun h0 i r hi hr => by
                          by_cases hik : i = k
                          · subst hik
                            rw [hp] at hr
                            cases hr
                            exact HHH.out
                          · exact hT0 (by simp) i r (by omega) hr⟩
                        case measure => simp [intOf] <;> omega
                      · rw [hh] at HW
                        have hfree : p.m.holds = true ∨ ce.h = false := .inl hh
                        clear hh
                        have HQ0 : Hid (SxI g w3 wr wr sp b cp (.slice (some ⟨gw, 0, none⟩) L cw) (.slice (some ⟨gr, 0, none⟩) L cr) (.slice (some ⟨gk, 0, none⟩) L ck) ws rs ce0 M0 P k p sum 0 ce p 0) := ⟨by rw [set_self hp]; exact hS.st, rfl, by rw [set_self (get_map hp), sumNext_no hpd]; exact hS.inv, rfl, .inl ⟨hpd, by omega, by have := (dist_le hS.inv (get_map hp)).1; omega, hfree⟩⟩
                        have HPD := Hid.mk hpd
                        have HK0n := Hid.mk hk0n
                        clear hpd hfree hk0n
                        go_upto_block 10 with ((go_at_call 16; refine (HW.out _ (Keep.refl _ _)).mono ?_; rintro e w8 ⟨rfl, rfl⟩))
                        obtain ⟨wo2, rfl⟩ : ∃ wo2 : World, wo2 = wr := ⟨_, rfl⟩
                        go_wp2_with fail
                        go_loopw [22, 23] (fun vv jj wz => ∃ (jn : Nat) (ce' : Ce) (q : Pl) (vn : Int), vv = .int .i64 vn ∧ jj = .int .i64 jn ∧ SxI g w3 wz wo2 sp b cp (.slice (some ⟨gw, 0, none⟩) L cw) (.slice (some ⟨gr, 0, none⟩) L cr) (.slice (some ⟨gk, 0, none⟩) L ck) ws rs ce0 M0 P k p sum jn ce' q vn) (fun _ jj _ => 12 - (intOf jj).toNat)
                        case atStart => exact ⟨0, ce, p, 0, rfl, rfl, HQ0.out⟩
                        case round =>
                          clear HQ0
                          obtain ⟨jn, ce', q, vn, rfl, rfl, hI⟩ := hrel
                          have hsc2 := hI.st.scene.cell
                          cases hqd : q.m.done
                          · have hw : vn ≠ 2 ∧ jn + q.m.dist ce' ≤ 5 := by
                              rcases hI.way with h1 | h1
                              · exact ⟨h1.2.1, h1.2.2.1⟩
                              · rw [hqd] at h1; simp at h1
                            obtain ⟨hvn, hw⟩ := hw
                            have hj12 : jn < 12 := by omega
                            have hvn2 : (vn != 2) = true := by rw [bne_iff_ne]; exact hvn
                            have hqk : (P.set k q)[k]? = some q := get_set_here hp
                            have Hc := Hid.mk (fun W hW => sx_move (w := W) (g := g) (w0 := w3) (sp := sp) (b := b) (cp := cp) (vw := .slice (some ⟨gw, 0, none⟩) L cw) (vr := .slice (some ⟨gr, 0, none⟩) L cr) (vm := .slice (some ⟨gk, 0, none⟩) L ck) (ws := ws) (rs := rs) (ch := ce0) (M := M0) (ce := ce') hW hqk)
                            have HSt := Hid.mk (fun w' q' h1 h2 h3 => hI.step (w' := w') (q' := q') hp HPD.out hqd h1 h2 h3)
                            generalize (q.m.step ce').1 = v2 at *
                            generalize (q.m.step ce').2.1 = m2 at *
                            generalize (q.m.step ce').2.2 = ce2 at *
                            have HI := Hid.mk hI.st
                            clear hI hqd hvn hw hqk
                            go_wp2_with ((go_at_call 21; refine (Hc.out _ HI.out).mono ?_; rintro e w7 ⟨rfl, q', -, hqm, hst, hh⟩))
                            go_roundw
                            case rel => exact ⟨jn + 1, ce2, q', v2, rfl, by go_num, HSt.out w7 q' hqm hst hh⟩
                            case measure => simp [intOf] <;> omega
                          · have hw : vn = 2 ∧ ce'.h = false ∧ jn ≤ 5 := by
                              rcases hI.way with h1 | h1
                              · rw [hqd] at h1; simp at h1
                              · exact h1.2
                            obtain ⟨rfl, hch, hj5⟩ := hw
                            have hj12 : jn < 12 := by omega
                            have hO : Blk wr g 4 ((P.map (fun p => p.m.done)).map Value.bool).toArray := by unfold Blk; rw [hI.heap]; exact hS.over
                            have hOf := hO.froz
                            have hOc : wr.cell? ⟨g, k, none⟩ = some (.bool p.m.done) := by rw [hO.cell]; simp [hp]
                            obtain ⟨hk8, hN8⟩ := hI.st.docN hk0
                            rw [HK0n.out] at hN8
                            have h8 := hI.st.set (g := g) (by simp) k (.bool true)
                            have hnx := hS.next hp h8 (sum' := IntKind.u64.wrap (sum + p.m.n)) (by rw [← sumNext_yes HPD.out hqd]; exact hI.inv) hI.n (by rw [hqd]; exact blk_over hO true)
                            have HNX := Hid.mk hnx
                            have HCH := Hid.mk hch
                            clear hnx h8 hqd hch hI hS hT1 hT0
                            go_wp2_with fail
                            go_roundw
                            case rel => exact ⟨k + 1, by omega, by go_num, ce', P.set k q, _, rfl, HNX.out, fun _ => HCH.out, fun _ i r _ hr => (HNX.out.inv.free HCH.out).1 i r.m (get_map hr)⟩
                            case measure => simp [intOf] <;> omega
                    · have e1 : encP p.wp = .pointer none := by unfold Pl.wp; rw [if_pos hr]; rfl
                      rw [e1] at vgw
                      have HPD := Hid.mk hpd
                      have HRD := Hid.mk (show p.m.reads = true by
                        have h1 := hS.st.player hp
                        obtain ⟨_, _, _, _, hpr⟩ := h1
                        exact (hpr.r hr).2.reads)
                      clear hpd e1 hr
                      go_wp2_with ((go_at_call 16; refine (wholds_nil _).mono ?_; rintro e w8 ⟨rfl, rfl⟩))
                      go_roundw
                      case rel => exact ⟨k + 1, by omega, by go_num, ce, P, sum, rfl, hS, hT1, fun h0 i r hi hr => by
                        by_cases hik : i = k
                        · subst hik
                          rw [hp] at hr
                          cases hr
                          simp [Wk.holds, HRD.out]
                        · exact hT0 (by simp) i r (by omega) hr⟩
                      case measure => simp [intOf] <;> omega
                  · rw [hpd] at hoc
                    have HPD := Hid.mk hpd
                    clear hpd
                    go_wp2_with fail
                    go_roundw
                    case rel => exact ⟨k + 1, by omega, by go_num, ce, P, sum, rfl, hS, hT1, fun h0 i r hi hr => by
                      by_cases hik : i = k
                      · subst hik
                        rw [hp] at hr
                        cases hr
                        simp [Wk.holds, HPD.out]
                      · exact hT0 (by simp) i r (by omega) hr⟩
                    case measure => simp [intOf] <;> omega
                · obtain rfl : k = L := by omega
                  go_wp2_with fail
                  go_roundw
                  case rel =>
                    refine ⟨1, by omega, rfl, ce, P, sum, rfl, hS, fun _ => ?_⟩
                    refine hS.inv.freeh (fun i m hm => ?_)
                    obtain ⟨p, hp, rfl⟩ := map_get hm
                    exact hT0 rfl i p (by have := (List.getElem?_eq_some_iff.1 hp).1; have := hS.len; omega) hp
                  case measure => simp [intOf] <;> omega
            · rw [show ((1 : Nat) : Int) = 1 from rfl]
              have HK0 : Hid (SxK 1 0 g w3 wr sp b cp L (.slice Aw L cw) (.slice Ar L cr) (.slice Ak L ck) ws rs ce0 M0 (.int .u64 sum)) := ⟨ce, P, sum, rfl, hS, hT, fun _ i p hi => by omega⟩
              obtain ⟨wo, rfl⟩ : ∃ wo : World, wo = wr := ⟨_, rfl⟩
              clear hS hT
              go_wp2_with fail
              go_loopw [15, 21] (fun sv iv wr => ∃ k : Nat, k ≤ L ∧ iv = .int .i64 k ∧ SxK 1 k g w3 wr sp b cp L (.slice Aw L cw) (.slice Ar L cr) (.slice Ak L ck) ws rs ce0 M0 sv) (fun _ iv _ => L - (intOf iv).toNat)
              case atStart => exact ⟨0, Nat.zero_le _, rfl, HK0.out⟩
              case round =>
                clear HK0
                obtain ⟨k, hk, rfl, ce, P, sum, rfl, hS, hT1, hT0⟩ := hrel
                have hsc := hS.st.scene.cell
                by_cases hkL : k < L
                · obtain ⟨p, hp⟩ : ∃ p, P[k]? = some p := ⟨_, List.getElem?_eq_getElem (by rw [hS.len]; exact hkL)⟩
                  have hML : M0.length = L := by rw [← hS.st.len]; exact hS.len
                  obtain ⟨⟨gw, c1, e1⟩, ⟨gr, c2, e2⟩, ⟨gk, c3, e3⟩⟩ := hS.st.slices (by rw [hML]; omega)
                  obtain rfl := slice_inj e1
                  obtain rfl := slice_inj e2
                  obtain rfl := slice_inj e3
                  clear e1 e2 e3 hML
                  have hoc := hS.cell hp
                  obtain ⟨k0, hk0, hk0n, vgk, vN, vgw⟩ := hS.view hp
                  have hkL2 : (k : Int) < (L : Int) := by omega
                  cases hpd : p.m.done
                  · rw [hpd] at hoc
                    have hfree : p.m.holds = true ∨ ce.h = false := .inr (hT1 (by omega))
                    have HQ0 : Hid (SxI g w3 wr wr sp b cp (.slice (some ⟨gw, 0, none⟩) L cw) (.slice (some ⟨gr, 0, none⟩) L cr) (.slice (some ⟨gk, 0, none⟩) L ck) ws rs ce0 M0 P k p sum 0 ce p 0) := ⟨by rw [set_self hp]; exact hS.st, rfl, by rw [set_self (get_map hp), sumNext_no hpd]; exact hS.inv, rfl, .inl ⟨hpd, by omega, by have := (dist_le hS.inv (get_map hp)).1; omega, hfree⟩⟩
                    have HPD := Hid.mk hpd
                    have HK0n := Hid.mk hk0n
                    clear hpd hfree hk0n
                    go_upto_block 10 with fail
                    obtain ⟨wo2, rfl⟩ : ∃ wo2 : World, wo2 = wr := ⟨_, rfl⟩
                    go_wp2_with fail
                    go_loopw [22, 23] (fun vv jj wz => ∃ (jn : Nat) (ce' : Ce) (q : Pl) (vn : Int), vv = .int .i64 vn ∧ jj = .int .i64 jn ∧ SxI g w3 wz wo2 sp b cp (.slice (some ⟨gw, 0, none⟩) L cw) (.slice (some ⟨gr, 0, none⟩) L cr) (.slice (some ⟨gk, 0, none⟩) L ck) ws rs ce0 M0 P k p sum jn ce' q vn) (fun _ jj _ => 12 - (intOf jj).toNat)
                    case atStart => exact ⟨0, ce, p, 0, rfl, rfl, HQ0.out⟩
                    case round =>
                      clear HQ0
                      obtain ⟨jn, ce', q, vn, rfl, rfl, hI⟩ := hrel
                      have hsc2 := hI.st.scene.cell
                      cases hqd : q.m.done
                      · have hw : vn ≠ 2 ∧ jn + q.m.dist ce' ≤ 5 := by
                          rcases hI.way with h1 | h1
                          · exact ⟨h1.2.1, h1.2.2.1⟩
                          · rw [hqd] at h1; simp at h1
                        obtain ⟨hvn, hw⟩ := hw
                        have hj12 : jn < 12 := by omega
                        have hvn2 : (vn != 2) = true := by rw [bne_iff_ne]; exact hvn
                        have hqk : (P.set k q)[k]? = some q := get_set_here hp
                        have Hc := Hid.mk (fun W hW => sx_move (w := W) (g := g) (w0 := w3) (sp := sp) (b := b) (cp := cp) (vw := .slice (some ⟨gw, 0, none⟩) L cw) (vr := .slice (some ⟨gr, 0, none⟩) L cr) (vm := .slice (some ⟨gk, 0, none⟩) L ck) (ws := ws) (rs := rs) (ch := ce0) (M := M0) (ce := ce') hW hqk)
                        have HSt := Hid.mk (fun w' q' h1 h2 h3 => hI.step (w' := w') (q' := q') hp HPD.out hqd h1 h2 h3)
                        generalize (q.m.step ce').1 = v2 at *
                        generalize (q.m.step ce').2.1 = m2 at *
                        generalize (q.m.step ce').2.2 = ce2 at *
                        have HI := Hid.mk hI.st
                        clear hI hqd hvn hw hqk
                        go_wp2_with ((go_at_call 21; refine (Hc.out _ HI.out).mono ?_; rintro e w7 ⟨rfl, q', -, hqm, hst, hh⟩))
                        go_roundw
                        case rel => exact ⟨jn + 1, ce2, q', v2, rfl, by go_num, HSt.out w7 q' hqm hst hh⟩
                        case measure => simp [intOf] <;> omega
                      · have hw : vn = 2 ∧ ce'.h = false ∧ jn ≤ 5 := by
                          rcases hI.way with h1 | h1
                          · rw [hqd] at h1; simp at h1
                          · exact h1.2
                        obtain ⟨rfl, hch, hj5⟩ := hw
                        have hj12 : jn < 12 := by omega
                        have hO : Blk wr g 4 ((P.map (fun p => p.m.done)).map Value.bool).toArray := by unfold Blk; rw [hI.heap]; exact hS.over
                        have hOf := hO.froz
                        have hOc : wr.cell? ⟨g, k, none⟩ = some (.bool p.m.done) := by rw [hO.cell]; simp [hp]
                        obtain ⟨hk8, hN8⟩ := hI.st.docN hk0
                        rw [HK0n.out] at hN8
                        have h8 := hI.st.set (g := g) (by simp) k (.bool true)
                        have hnx := hS.next hp h8 (sum' := IntKind.u64.wrap (sum + p.m.n)) (by rw [← sumNext_yes HPD.out hqd]; exact hI.inv) hI.n (by rw [hqd]; exact blk_over hO true)
                        have HNX := Hid.mk hnx
                        have HCH := Hid.mk hch
                        clear hnx h8 hqd hch hI hS hT1 hT0
                        go_wp2_with fail
                        go_roundw
                        case rel => exact ⟨k + 1, by omega, by go_num, ce', P.set k q, _, rfl, HNX.out, fun _ => HCH.out, fun _ i r _ hr => (HNX.out.inv.free HCH.out).1 i r.m (get_map hr)⟩
                        case measure => simp [intOf] <;> omega
                  · rw [hpd] at hoc
                    have HPD := Hid.mk hpd
                    clear hpd
                    go_wp2_with fail
                    go_roundw
                    case rel => exact ⟨k + 1, by omega, by go_num, ce, P, sum, rfl, hS, hT1, by first | (intro h0; omega) | simp⟩
                    case measure => simp [intOf] <;> omega
                · obtain rfl : k = L := by omega
                  go_wp2_with fail
                  go_roundw
                  case rel =>
                    refine ⟨2, by omega, rfl, ce, P, sum, rfl, hS, fun _ => ?_⟩
                    exact hT1 (by omega)
                  case measure => simp [intOf] <;> omega
          · obtain rfl : t = 2 := by omega
            have HW := Hid.mk (fun W (hk : Keep [] wr W) => sx_words (hS.kept hk) (hT (by omega)))
            go_wp2_with ((go_at_call 22; refine (HW.out _ (Keep.refl _ _)).mono ?_; rintro e w9 ⟨ad9, cap9, rfl, hc9, hk9⟩))
            go_ret
            exact ⟨rfl, (hkw3.trans hS.st.keep (by simp)).trans hk9 (by simp)⟩
end Go.Proofs.Ytlgebknbfchnlaa

/- Arguments opened by kinds: a datum that is read in memory, as a value of a kind (Kd). No program in sight. -/
namespace Go.Proofs.Ytlgebknbfchnlaa
set_option linter.unusedVariables false
set_option linter.unusedSimpArgs false
open Go Go.RowKit Go.Hay Go.ChangeShapes Go.WideShapes Go.Deep Go.Proofs.YtlgebknbfchnlaaW.PrintWords

section
variable {H : Type} (enc : TypeId × Value → H) (P : Program) (w : World) (sp : Nat → Bool) (held : Bool)

/-- Whatever is read at this type is a value of this kind, and meets Ok. -/
def Opens {α : Type} (t : TypeId) (d : Kd α) (Ok : α → Prop) : Prop :=
  ∀ (n : Nat) (cs : List Value) (x : DataW H × List MemPlace), DataW.trod enc P w 0 sp held n t cs = some x → ∃ a, d.K w a cs ∧ Ok a
/-- .. of some fields in a row, from an offset on. -/
def OpensL {α : Type} (fs : List Field) (off : Nat) (d : Kd α) (Ok : α → Prop) : Prop :=
  ∀ (n : Nat) (cs : List Value), cs.length = d.sz → (∀ (i : Nat) (f : Field), fs[i]? = some f → ∃ y, DataW.trod enc P w 0 sp held n f.type ((cs.drop (f.offset - off)).take (P.cellsOf f.type)) = some y) → ∃ a, d.K w a cs ∧ Ok a
end

section
variable {H : Type} {enc : TypeId × Value → H} {P : Program} {w : World} {sp : Nat → Bool} {held : Bool} {α β : Type}

theorem opens_int {t : TypeId} {k : IntKind} (ht : P.underlying t = some (.int k)) : Opens enc P w sp held t (Kd.int k) (fun n => (Lit.int k n).wf = true) := by
  intro n cs x h
  obtain ⟨m, rfl, _, hw⟩ := DataW.trod_int ht h
  exact ⟨m, rfl, hw⟩
theorem opens_bool {t : TypeId} (ht : P.underlying t = some .bool) : Opens enc P w sp held t Kd.bool (fun _ => True) := by
  intro n cs x h
  obtain ⟨m, rfl, _⟩ := DataW.trod_bool ht h
  exact ⟨m, rfl, trivial⟩
theorem opens_string {t : TypeId} (ht : P.underlying t = some .string) : Opens enc P w sp held t Kd.string (fun s => s.size ≤ maxLen) := by
  intro n cs x h
  obtain ⟨s, rfl, _, hs⟩ := DataW.trod_string ht h
  exact ⟨s, rfl, hs⟩

/-- A slice's row. -/
theorem opens_row {t e : TypeId} {d : Kd α} {Ok : α → Prop} (ht : P.underlying t = some (.slice e)) (hc : P.cellsOf e = d.sz) (h : Opens enc P w sp held e d Ok) {n : Nat} {A : Option Addr} {len cap : Nat} {x : DataW H × List MemPlace}
    (hx : DataW.trod enc P w 0 sp held n t [.slice A len cap] = some x) : ∃ xs, d.C w A len xs ∧ (∀ a ∈ xs, Ok a) ∧ len ≤ cap ∧ cap ≤ maxLen := by
  rcases open_slice ht hx with ⟨hcs, _⟩ | ⟨a, l, c, m, n', D, Pl, hcs, hb, hl, hm, hmm, _, hi⟩
  · simp only [List.cons.injEq, and_true, Value.slice.injEq] at hcs
    obtain ⟨rfl, rfl, rfl⟩ := hcs
    exact ⟨[], ⟨rfl, by simp, fun h => absurd h (by simp)⟩, by simp, Nat.le_refl _, Nat.zero_le _⟩
  · simp only [List.cons.injEq, and_true, Value.slice.injEq] at hcs
    obtain ⟨rfl, rfl, rfl⟩ := hcs
    have hlm : len ≤ m := by rw [hmm]; split <;> omega
    have key : ∀ k, k ≤ len → ∃ xs : List α, xs.length = k ∧ ∀ (j : Nat) (p : α), xs[j]? = some p → Ok p ∧ ∃ c, c.length = d.sz ∧ d.K w p c ∧ ∀ i u, c[i]? = some u → w.cell? (a.add (j * d.sz + i)) = some u := by
      intro k
      induction k with
      | zero => intro _; exact ⟨[], rfl, fun j p h => by simp at h⟩
      | succ k ih =>
        intro hk
        obtain ⟨xs, hxl, hxs⟩ := ih (by omega)
        obtain ⟨cs', h1, h2⟩ := hi k (by omega)
        obtain ⟨q, hq, ho⟩ := h _ _ _ h2
        rw [hc] at h1
        obtain ⟨_, hcl, hat⟩ := World.cells?_some h1
        refine ⟨xs ++ [q], by simp [hxl], fun j p hj => ?_⟩
        rw [List.getElem?_append] at hj
        split at hj
        · exact hxs j p hj
        · have hlt := (List.getElem?_eq_some_iff.1 hj).1
          simp at hlt
          obtain rfl : j = xs.length := by omega
          simp at hj
          subst hj
          refine ⟨ho, cs', hcl, hq, fun i u hu => ?_⟩
          have := hat i (by have := (List.getElem?_eq_some_iff.1 hu).1; omega)
          rw [← Go.Deep.add_add, hxl, this, hu]
    obtain ⟨xs, hxl, hxs⟩ := key len (Nat.le_refl _)
    refine ⟨xs, ⟨hxl, by unfold maxLen at hm; omega, fun _ => ⟨a, rfl, fun j p hj => (hxs j p hj).2⟩⟩, fun p hp => ?_, hl, hm⟩
    obtain ⟨j, hj⟩ := List.getElem?_of_mem hp
    exact (hxs j p hj).1
theorem opens_slice {t e : TypeId} {d : Kd α} {Ok : α → Prop} (ht : P.underlying t = some (.slice e)) (hc : P.cellsOf e = d.sz) (h : Opens enc P w sp held e d Ok) : Opens enc P w sp held t (Kd.slice e d) (fun xs => ∀ a ∈ xs, Ok a) := by
  intro n cs x hx
  obtain ⟨A, l, c, rfl⟩ : ∃ A l c, cs = [.slice A l c] := by
    rcases open_slice ht hx with ⟨rfl, _⟩ | ⟨a, l, c, m, n', D, Pl, rfl, _⟩
    · exact ⟨_, _, _, rfl⟩
    · exact ⟨_, _, _, rfl⟩
  obtain ⟨xs, h1, h2, h3, _⟩ := opens_row ht hc h hx
  have hl := h1.1
  subst hl
  exact ⟨xs, ⟨A, c, rfl, h3, h1⟩, h2⟩

theorem opensL_one {f : Field} {off : Nat} {d : Kd α} {Ok : α → Prop} (ho : f.offset = off) (hc : P.cellsOf f.type = d.sz) (h : Opens enc P w sp held f.type d Ok) : OpensL enc P w sp held [f] off d Ok := by
  intro n cs hl hf
  obtain ⟨y, hy⟩ := hf 0 f rfl
  rw [ho, hc, Nat.sub_self, List.drop_zero, List.take_of_length_le (by omega)] at hy
  exact h _ _ _ hy
theorem opensL_cons {f : Field} {fs : List Field} {off : Nat} {d : Kd α} {d2 : Kd β} {Ok : α → Prop} {Ok2 : β → Prop} (ho : f.offset = off) (hc : P.cellsOf f.type = d.sz) (hge : ∀ g ∈ fs, off + d.sz ≤ g.offset) (h : Opens enc P w sp held f.type d Ok)
    (h2 : OpensL enc P w sp held fs (off + d.sz) d2 Ok2) : OpensL enc P w sp held (f :: fs) off (Kd.pair d d2) (fun p => Ok p.1 ∧ Ok2 p.2) := by
  intro n cs hl hf
  have hl' : cs.length = d.sz + d2.sz := hl
  obtain ⟨y, hy⟩ := hf 0 f rfl
  rw [ho, hc, Nat.sub_self, List.drop_zero] at hy
  obtain ⟨a, ha, hoa⟩ := h _ _ _ hy
  obtain ⟨b, hb, hob⟩ := h2 n (cs.drop d.sz) (by simp [hl']) (fun i g hg => by
    have hge' := hge g (List.mem_of_getElem? hg)
    obtain ⟨z, hz⟩ := hf (i + 1) g (by simpa using hg)
    rw [List.drop_drop, show d.sz + (g.offset - (off + d.sz)) = g.offset - off by omega]
    exact ⟨z, hz⟩)
  exact ⟨(a, b), ⟨cs.take d.sz, cs.drop d.sz, (List.take_append_drop _ _).symm, ha, hb⟩, hoa, hob⟩
theorem opens_struct {t : TypeId} {fs : Array Field} {d : Kd α} {Ok : α → Prop} (ht : P.underlying t = some (.struct fs)) (hc : P.cellsOf t = d.sz) (h : OpensL enc P w sp held fs.toList 0 d Ok) : Opens enc P w sp held t d Ok := by
  intro n cs x hx
  obtain ⟨xs, m, _, _, hcl, hxl, hf⟩ := DataW.trod_struct ht hx
  refine h m cs (by omega) (fun i f hi => ?_)
  have hi' : fs[i]? = some f := by simpa using hi
  have hlt : i < fs.size := (Array.getElem?_eq_some_iff.1 hi').1
  have := hf i f hi'
  rw [List.getElem?_eq_getElem (by omega)] at this
  exact ⟨_, by simpa using this⟩

/-- A struct that is handed over by value. -/
theorem opens_agg {t : TypeId} {fs : Array Field} {d : Kd α} {Ok : α → Prop} {r : Reach} {b0 : Nat} {v : Value} {dd : DataW H} {ps : List MemPlace} (ht : P.underlying t = some (.struct fs)) (h : Opens enc P w sp held t d Ok) (hv : Value.okWide P w r b0 t v) (hd : DataW.Trod enc P w 0 sp held t v dd ps) :
    ∃ (cs : List Value) (a : α), v = .agg cs.toArray ∧ d.K w a cs ∧ Ok a := by
  obtain ⟨cs, rfl, _⟩ := okWide_struct ht hv
  obtain ⟨n, hn⟩ := hd
  obtain ⟨a, ha, ho⟩ := h _ _ _ hn
  exact ⟨cs.toList, a, by simp, ha, ho⟩
/-- A slice that is handed over. -/
theorem opens_arg {t e : TypeId} {d : Kd α} {Ok : α → Prop} {r : Reach} {b0 : Nat} {v : Value} {dd : DataW H} {ps : List MemPlace} (ht : P.underlying t = some (.slice e)) (hc : P.cellsOf e = d.sz) (h : Opens enc P w sp held e d Ok) (hv : Value.okWide P w r b0 t v) (hd : DataW.Trod enc P w 0 sp held t v dd ps) :
    ∃ (A : Option Addr) (len cap : Nat) (xs : List α), v = .slice A len cap ∧ d.C w A len xs ∧ (∀ a ∈ xs, Ok a) ∧ len ≤ cap ∧ cap ≤ maxLen := by
  obtain ⟨A, len, cap, rfl⟩ := okWide_slice ht hv
  obtain ⟨n, hn⟩ := hd
  obtain ⟨xs, h1, h2, h3, h4⟩ := opens_row ht hc h hn
  exact ⟨A, len, cap, xs, rfl, h1, h2, h3, h4⟩
end
end Go.Proofs.Ytlgebknbfchnlaa

/- law12's acts, as they come in. -/
namespace Go.Proofs.Ytlgebknbfchnlaa
set_option linter.unusedVariables false
set_option linter.unusedSimpArgs false
open Go Go.RowKit Go.Hay Go.Proofs.YtlgebknbfchnlaaW.PrintWords

/-- Kind, Page, A, N, Old, W, L. -/
abbrev Act12 := Int × (Int × (Int × (Int × (Int × (Int × List Int)))))
def act12K : Kd Act12 := Kd.pair (Kd.int .i64) (Kd.pair (Kd.int .i64) (Kd.pair (Kd.int .u64) (Kd.pair (Kd.int .i64) (Kd.pair (Kd.int .u64) (Kd.pair (Kd.int .u64) (Kd.slice 22 (Kd.int .u64)))))))
def I64 (x : Int) : Prop := -9223372036854775808 ≤ x ∧ x ≤ 9223372036854775807
/-- Each number is of its kind. -/
structure Act12.Ok (a : Act12) : Prop where
  kind : I64 a.1
  page : I64 a.2.1
  addr : U64 a.2.2.1
  n : I64 a.2.2.2.1
  old : U64 a.2.2.2.2.1
  now : U64 a.2.2.2.2.2.1
  l : ∀ x ∈ a.2.2.2.2.2.2, U64 x

theorem Opens.weaken {H : Type} {enc : TypeId × Value → H} {P : Program} {w : World} {sp : Nat → Bool} {held : Bool} {α : Type} {t : TypeId} {d : Kd α} {Ok Ok2 : α → Prop} (h : Opens enc P w sp held t d Ok) (hk : ∀ a, Ok a → Ok2 a) : Opens enc P w sp held t d Ok2 := by
  intro n cs x hx
  obtain ⟨a, h1, h2⟩ := h n cs x hx
  exact ⟨a, h1, hk a h2⟩
theorem opens_act12 {H : Type} {enc : TypeId × Value → H} {w : World} {sp : Nat → Bool} {held : Bool} : Opens enc Try.prog w sp held 76 act12K Act12.Ok :=
  (opens_struct Try.underlying76 (by kernel_rfl)
    (opensL_cons rfl (by kernel_rfl) (by decide) (opens_int Try.underlying3)
    (opensL_cons rfl (by kernel_rfl) (by decide) (opens_int Try.underlying3)
    (opensL_cons rfl (by kernel_rfl) (by decide) (opens_int Try.underlying22)
    (opensL_cons rfl (by kernel_rfl) (by decide) (opens_int Try.underlying3)
    (opensL_cons rfl (by kernel_rfl) (by decide) (opens_int Try.underlying22)
    (opensL_cons rfl (by kernel_rfl) (by decide) (opens_int Try.underlying22)
    (opensL_one rfl (by kernel_rfl) (opens_slice Try.underlying40 (by kernel_rfl) (opens_int Try.underlying22)))))))))).weaken
    fun a ⟨h1, h2, h3, h4, h5, h6, h7⟩ => ⟨wf_i64 h1, wf_i64 h2, wf_u64 h3, wf_i64 h4, wf_u64 h5, wf_u64 h6, fun x hx => wf_u64 (h7 x hx)⟩
end Go.Proofs.Ytlgebknbfchnlaa

/- law18's acts, as they come in. -/
namespace Go.Proofs.Ytlgebknbfchnlaa
set_option linter.unusedVariables false
set_option linter.unusedSimpArgs false
open Go Go.RowKit Go.Hay Go.Proofs.YtlgebknbfchnlaaW.PrintWords

theorem opens_act18 {H : Type} {enc : TypeId × Value → H} {w : World} {sp : Nat → Bool} {held : Bool} : Opens enc Try.prog w sp held 44 actK (fun a => U64 a.2.2) :=
  (opens_struct Try.underlying44 (by kernel_rfl)
    (opensL_cons rfl (by kernel_rfl) (by decide) (opens_int Try.underlying3)
    (opensL_cons rfl (by kernel_rfl) (by decide) (opens_string Try.underlying9)
    (opensL_one rfl (by kernel_rfl) (opens_int Try.underlying22))))).weaken
    fun _ ⟨_, _, h3⟩ => wf_u64 h3
end Go.Proofs.Ytlgebknbfchnlaa

/- law18's InplaceSums: the walk in the row's words. -/
namespace Go.Proofs.Ytlgebknbfchnlaa
set_option linter.unusedVariables false
set_option linter.unusedSimpArgs false
open Go Go.RowKit Go.Hay Go.Proofs.YtlgebknbfchnlaaW.PrintWords

theorem sums_row (n : Int) (Aa : Option Addr) (na ca : Nat) (adds : List Int) (rd : Int) (Am : Option Addr) (nm cm : Nat) (mv : List Int) (w : World) (hn : U64 n) (hl : (Kd.int .u64).C w Aa na adds) (hU : ∀ a ∈ adds, (Lit.int .u64 a).wf = true) (_l1 : na ≤ ca) (_m1 : ca ≤ maxLen) (hrd : 0 ≤ rd ∧ rd ≤ 255) (hmv : (Kd.int .u8).C w Am nm mv) (hR : ∀ x ∈ mv, (Lit.int .u8 x).wf = true) (_l2 : nm ≤ cm) (_m2 : cm ≤ maxLen) :
    Calls Try.prog 4 #[.int .u64 n, .slice Aa na ca, .int .u8 rd, .slice Am nm cm] w fun e w' => e = .returned (.bool true) ∧ Keep [] w w' :=
  sums_ok n hn Aa na ca adds rd hrd.1 hrd.2 Am nm cm mv w hl (fun a ha => wf_u64 (hU a ha)) hmv (fun x hx => wf_u8 (hR x hx))
end Go.Proofs.Ytlgebknbfchnlaa

/- The statement InplaceSums holds: its row, from the walk. -/
namespace Go.Proofs.Ytlgebknbfchnlaa.inplaceSums
set_option linter.unusedVariables false
set_option linter.unusedSimpArgs false
open Go.ChangeShapes Go.WideShapes Go.ChangeAt Go.RowKit Go.Hay
open Go.ChangeMaps (open_string shut_string)
set_option linter.unusedVariables false
theorem own : ownKnob Try.prog.godebug = none := by kernel_rfl
theorem laidOut : laidOutB Try.prog = true := by kernel_rfl
set_option maxRecDepth 100000 in
theorem lifted (os : Os) (started : os.Started) (H : Type) (enc : TypeId × Value → H) :
    ReturnsInHanded {} Try.checked os 4 .any (Rows.inplaceSumsSpec.pre6 enc Try.prog Try.f4 Rows.inplaceSumsRow.domain false) (Rows.inplaceSumsSpec.post enc Try.prog Try.f4 false true false false) := by
  refine returnsInHanded_of_change_sized (C := Try.checked) own started (by kernel_rfl) Try.func4
    (ChangeSpec.witness6 (enc := enc) (C := Try.checked) false ⟨#[], #[.int .u64 0, .slice none 0 0, .int .u8 0, .slice none 0 0], []⟩ 8 (by kernel_rfl) (by kernel_rfl) (by kernel_rfl) (by kernel_rfl)) ?_
  intro W base args ds gs before hval0 hW hcnd hsz0 _
  have hsz : (DataW.weightsEach Try.prog (Try.f4.params.toList ++ Rows.inplaceSumsSpec.plain.varTypes Try.prog) (ds ++ gs)).all (· ≤ reachBytes) = true := hsz0
  have hval : ∀ (j : Nat) t v, Try.f4.params[j]? = some t → args[j]? = some v → Value.okWide Try.prog W .any base t v := hval0
  have hW' := hW
  obtain ⟨p, q, hA0, hV, rfl, hfz, hnd⟩ := hW
  have hA : DataW.TrodAll enc Try.prog W 0 (fun _ => true) true Try.f4.params.toList args.toList ds p := hA0
  rw [Try.params4] at hA hval hsz
  obtain ⟨v0, vs0, d0, ds0, p0, q0, hargs, rfl, rfl, h0, r0⟩ := trodAll_cons hA
  obtain ⟨v1, vs1, d1, ds1, p1, q1, rfl, rfl, rfl, h1, r1⟩ := trodAll_cons r0
  obtain ⟨v2, vs2, d2, ds2, p2, q2, rfl, rfl, rfl, h2, r2⟩ := trodAll_cons r1
  obtain ⟨v3, vs3, d3, ds3, p3, q3, rfl, rfl, rfl, h3, r3⟩ := trodAll_cons r2
  obtain ⟨rfl, rfl, rfl⟩ := trodAll_nil r3
  obtain rfl : args = #[v0, v1, v2, v3] := by cases args; simp_all
  obtain ⟨rfl, rfl⟩ := trodVars_none hV
  obtain ⟨a0, rfl, rfl, rfl, w0⟩ := open_int Try.underlying22 (hval 0 22 v0 rfl rfl) h0
  have k1 := h1
  have lt1 : ∀ x ∈ p1, x.block < W.heap.size := by obtain ⟨m, hm⟩ := k1; exact DataW.trod_lt m _ _ _ hm
  obtain ⟨A1, len1, cap1, a1, rfl, K1, w1, l1, m1⟩ := opens_arg Try.underlying40 (by kernel_rfl) (opens_int Try.underlying22) (hval 1 40 v1 rfl rfl) h1
  obtain ⟨a2, rfl, rfl, rfl, w2⟩ := open_int Try.underlying5 (hval 2 5 v2 rfl rfl) h2
  have k3 := h3
  have lt3 : ∀ x ∈ p3, x.block < W.heap.size := by obtain ⟨m, hm⟩ := k3; exact DataW.trod_lt m _ _ _ hm
  obtain ⟨A3, len3, cap3, a3, rfl, K3, w3, l3, m3⟩ := opens_arg Try.underlying41 (by kernel_rfl) (opens_int Try.underlying5) (hval 3 41 v3 rfl rfl) h3
  clear hA0 hval0 hsz0 hsz
  refine (sums_row a0 A1 len1 cap1 a1 a2 A3 len3 cap3 a3 W (wf_u64 w0) K1 w1 l1 m1 (wf_u8 w2) K3 w3 l3 m3).mono fun e W' ⟨he, kp⟩ => ?_
  have bel := kp.below
  subst he
  exact ⟨_, rfl, _, _, _, [], _, [], hW', trodAll_mk1 (shut_bool Try.underlying4 _), (trodAll_cons_mk (shut_int Try.underlying22 w0) (trodAll_cons_mk (Below.trod laidOut (by kernel_rfl) (of_decide_eq_true (by kernel_rfl)) k1 bel lt1) (trodAll_cons_mk (shut_int Try.underlying5 w2) (trodAll_cons_mk (Below.trod laidOut (by kernel_rfl) (of_decide_eq_true (by kernel_rfl)) k3 bel lt3) trodAll_mk0)))), rfl, bel.frame _, fun h => by cases h⟩
theorem over : Rows.inplaceSumsRow.holds Try.pinned (OpenSpec.ofChange Rows.inplaceSumsSpec) :=
  OpenClaim.holds_of_wide 4 Try.f4 rfl rfl rfl rfl rfl rfl rfl ⟨rfl, rfl, rfl, rfl, rfl⟩ rfl rfl rfl rfl rfl (by kernel_rfl) Try.func4 (by kernel_rfl)
    (of_decide_eq_true (by kernel_rfl)) (by unfold Func.isWrapper; first | (rw [if_pos (by decide +kernel)]; kernel_rfl) | (rw [if_neg (by decide +kernel)]; exact ⟨rfl, rfl⟩))
    (fun os started H enc _ => lifted os started H enc)
theorem proved : Rows.InplaceSumsSaid := over
end Go.Proofs.Ytlgebknbfchnlaa.inplaceSums
namespace Go.Proofs.Ytlgebknbfchnlaa
set_option linter.unusedVariables false
set_option linter.unusedSimpArgs false
/-- The row, under a short name, for the claim. -/
theorem inplaceSums_holds : Rows.InplaceSumsSaid := inplaceSums.proved
#print axioms inplaceSums_holds
end Go.Proofs.Ytlgebknbfchnlaa
