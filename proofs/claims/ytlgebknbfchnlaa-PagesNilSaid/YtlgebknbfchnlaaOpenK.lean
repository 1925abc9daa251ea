/- Arguments opened by kinds: a datum that is read in memory, as a value of a kind (Kd). No program in sight. -/
import Derived.Test.YtlgebknbfchnlaaBase
import Derived.Test.YtlgebknbfchnlaaWWords
import Derived.Deep.Slices
import Derived.ChangeArms
import Derived.WideShapes
namespace Go.Proofs.Ytlgebknbfchnlaa
open Go Go.RowKit Go.Hay Go.ChangeShapes Go.WideShapes Go.Deep Go.Proofs.YtlgebknbfchnlaaW.PrintWords

section
variable {H : Type} (enc : TypeId × Value → H) (P : Program) (w : World) (sp : Nat → Bool) (held : Bool)

/-- Whatever is read at this type is a value of this kind, and meets Ok. -/
def Opens {α : Type} (t : TypeId) (d : Kd α) (Ok : α → Prop) : Prop :=
  ∀ (n : Nat) (cs : List Value) (x : DataW H × List MemPlace), DataW.trod enc P w 0 sp held n t cs = some x → ∃ a, d.K w a cs ∧ Ok a
/-- .. of some fields in a row, from an offset on. -/
def OpensL {α : Type} (fs : List Field) (off : Nat) (d : Kd α) (Ok : α → Prop) : Prop :=
  ∀ (n : Nat) (cs : List Value), cs.length = d.sz → (∀ (i : Nat) (f : Field), fs[i]? = some f → ∃ y, DataW.trod enc P w 0 sp held n f.type ((cs.drop (f.offset - off)).take (P.cellsOf f.type)) = some y) → ∃ a, d.K w a cs ∧ Ok a
end

section
variable {H : Type} {enc : TypeId × Value → H} {P : Program} {w : World} {sp : Nat → Bool} {held : Bool} {α β : Type}

theorem opens_int {t : TypeId} {k : IntKind} (ht : P.underlying t = some (.int k)) : Opens enc P w sp held t (Kd.int k) (fun n => (Lit.int k n).wf = true) := by
  intro n cs x h
  obtain ⟨m, rfl, _, hw⟩ := DataW.trod_int ht h
  exact ⟨m, rfl, hw⟩
theorem opens_bool {t : TypeId} (ht : P.underlying t = some .bool) : Opens enc P w sp held t Kd.bool (fun _ => True) := by
  intro n cs x h
  obtain ⟨m, rfl, _⟩ := DataW.trod_bool ht h
  exact ⟨m, rfl, trivial⟩
theorem opens_string {t : TypeId} (ht : P.underlying t = some .string) : Opens enc P w sp held t Kd.string (fun s => s.size ≤ maxLen) := by
  intro n cs x h
  obtain ⟨s, rfl, _, hs⟩ := DataW.trod_string ht h
  exact ⟨s, rfl, hs⟩

/-- A slice's row. -/
theorem opens_row {t e : TypeId} {d : Kd α} {Ok : α → Prop} (ht : P.underlying t = some (.slice e)) (hc : P.cellsOf e = d.sz) (h : Opens enc P w sp held e d Ok) {n : Nat} {A : Option Addr} {len cap : Nat} {x : DataW H × List MemPlace}
    (hx : DataW.trod enc P w 0 sp held n t [.slice A len cap] = some x) : ∃ xs, d.C w A len xs ∧ (∀ a ∈ xs, Ok a) ∧ len ≤ cap ∧ cap ≤ maxLen := by
  rcases open_slice ht hx with ⟨hcs, _⟩ | ⟨a, l, c, m, n', D, Pl, hcs, hb, hl, hm, hmm, _, hi⟩
  · simp only [List.cons.injEq, and_true, Value.slice.injEq] at hcs
    obtain ⟨rfl, rfl, rfl⟩ := hcs
    exact ⟨[], ⟨rfl, by simp, fun h => absurd h (by simp)⟩, by simp, Nat.le_refl _, Nat.zero_le _⟩
  · simp only [List.cons.injEq, and_true, Value.slice.injEq] at hcs
    obtain ⟨rfl, rfl, rfl⟩ := hcs
    have hlm : len ≤ m := by rw [hmm]; split <;> omega
    have key : ∀ k, k ≤ len → ∃ xs : List α, xs.length = k ∧ ∀ (j : Nat) (p : α), xs[j]? = some p → Ok p ∧ ∃ c, c.length = d.sz ∧ d.K w p c ∧ ∀ i u, c[i]? = some u → w.cell? (a.add (j * d.sz + i)) = some u := by
      intro k
      induction k with
      | zero => intro _; exact ⟨[], rfl, fun j p h => by simp at h⟩
      | succ k ih =>
        intro hk
        obtain ⟨xs, hxl, hxs⟩ := ih (by omega)
        obtain ⟨cs', h1, h2⟩ := hi k (by omega)
        obtain ⟨q, hq, ho⟩ := h _ _ _ h2
        rw [hc] at h1
        obtain ⟨_, hcl, hat⟩ := World.cells?_some h1
        refine ⟨xs ++ [q], by simp [hxl], fun j p hj => ?_⟩
        rw [List.getElem?_append] at hj
        split at hj
        · exact hxs j p hj
        · have hlt := (List.getElem?_eq_some_iff.1 hj).1
          simp at hlt
          obtain rfl : j = xs.length := by omega
          simp at hj
          subst hj
          refine ⟨ho, cs', hcl, hq, fun i u hu => ?_⟩
          have := hat i (by have := (List.getElem?_eq_some_iff.1 hu).1; omega)
          rw [← Go.Deep.add_add, hxl, this, hu]
    obtain ⟨xs, hxl, hxs⟩ := key len (Nat.le_refl _)
    refine ⟨xs, ⟨hxl, by unfold maxLen at hm; omega, fun _ => ⟨a, rfl, fun j p hj => (hxs j p hj).2⟩⟩, fun p hp => ?_, hl, hm⟩
    obtain ⟨j, hj⟩ := List.getElem?_of_mem hp
    exact (hxs j p hj).1
theorem opens_slice {t e : TypeId} {d : Kd α} {Ok : α → Prop} (ht : P.underlying t = some (.slice e)) (hc : P.cellsOf e = d.sz) (h : Opens enc P w sp held e d Ok) : Opens enc P w sp held t (Kd.slice e d) (fun xs => ∀ a ∈ xs, Ok a) := by
  intro n cs x hx
  obtain ⟨A, l, c, rfl⟩ : ∃ A l c, cs = [.slice A l c] := by
    rcases open_slice ht hx with ⟨rfl, _⟩ | ⟨a, l, c, m, n', D, Pl, rfl, _⟩
    · exact ⟨_, _, _, rfl⟩
    · exact ⟨_, _, _, rfl⟩
  obtain ⟨xs, h1, h2, h3, _⟩ := opens_row ht hc h hx
  have hl := h1.1
  subst hl
  exact ⟨xs, ⟨A, c, rfl, h3, h1⟩, h2⟩

theorem opensL_one {f : Field} {off : Nat} {d : Kd α} {Ok : α → Prop} (ho : f.offset = off) (hc : P.cellsOf f.type = d.sz) (h : Opens enc P w sp held f.type d Ok) : OpensL enc P w sp held [f] off d Ok := by
  intro n cs hl hf
  obtain ⟨y, hy⟩ := hf 0 f rfl
  rw [ho, hc, Nat.sub_self, List.drop_zero, List.take_of_length_le (by omega)] at hy
  exact h _ _ _ hy
theorem opensL_cons {f : Field} {fs : List Field} {off : Nat} {d : Kd α} {d2 : Kd β} {Ok : α → Prop} {Ok2 : β → Prop} (ho : f.offset = off) (hc : P.cellsOf f.type = d.sz) (hge : ∀ g ∈ fs, off + d.sz ≤ g.offset) (h : Opens enc P w sp held f.type d Ok)
    (h2 : OpensL enc P w sp held fs (off + d.sz) d2 Ok2) : OpensL enc P w sp held (f :: fs) off (Kd.pair d d2) (fun p => Ok p.1 ∧ Ok2 p.2) := by
  intro n cs hl hf
  have hl' : cs.length = d.sz + d2.sz := hl
  obtain ⟨y, hy⟩ := hf 0 f rfl
  rw [ho, hc, Nat.sub_self, List.drop_zero] at hy
  obtain ⟨a, ha, hoa⟩ := h _ _ _ hy
  obtain ⟨b, hb, hob⟩ := h2 n (cs.drop d.sz) (by simp [hl']) (fun i g hg => by
    have hge' := hge g (List.mem_of_getElem? hg)
    obtain ⟨z, hz⟩ := hf (i + 1) g (by simpa using hg)
    rw [List.drop_drop, show d.sz + (g.offset - (off + d.sz)) = g.offset - off by omega]
    exact ⟨z, hz⟩)
  exact ⟨(a, b), ⟨cs.take d.sz, cs.drop d.sz, (List.take_append_drop _ _).symm, ha, hb⟩, hoa, hob⟩
theorem opens_struct {t : TypeId} {fs : Array Field} {d : Kd α} {Ok : α → Prop} (ht : P.underlying t = some (.struct fs)) (hc : P.cellsOf t = d.sz) (h : OpensL enc P w sp held fs.toList 0 d Ok) : Opens enc P w sp held t d Ok := by
  intro n cs x hx
  obtain ⟨xs, m, _, _, hcl, hxl, hf⟩ := DataW.trod_struct ht hx
  refine h m cs (by omega) (fun i f hi => ?_)
  have hi' : fs[i]? = some f := by simpa using hi
  have hlt : i < fs.size := (Array.getElem?_eq_some_iff.1 hi').1
  have := hf i f hi'
  rw [List.getElem?_eq_getElem (by omega)] at this
  exact ⟨_, by simpa using this⟩

/-- A struct that is handed over by value. -/
theorem opens_agg {t : TypeId} {fs : Array Field} {d : Kd α} {Ok : α → Prop} {r : Reach} {b0 : Nat} {v : Value} {dd : DataW H} {ps : List MemPlace} (ht : P.underlying t = some (.struct fs)) (h : Opens enc P w sp held t d Ok) (hv : Value.okWide P w r b0 t v) (hd : DataW.Trod enc P w 0 sp held t v dd ps) :
    ∃ (cs : List Value) (a : α), v = .agg cs.toArray ∧ d.K w a cs ∧ Ok a := by
  obtain ⟨cs, rfl, _⟩ := okWide_struct ht hv
  obtain ⟨n, hn⟩ := hd
  obtain ⟨a, ha, ho⟩ := h _ _ _ hn
  exact ⟨cs.toList, a, by simp, ha, ho⟩
/-- A slice that is handed over. -/
theorem opens_arg {t e : TypeId} {d : Kd α} {Ok : α → Prop} {r : Reach} {b0 : Nat} {v : Value} {dd : DataW H} {ps : List MemPlace} (ht : P.underlying t = some (.slice e)) (hc : P.cellsOf e = d.sz) (h : Opens enc P w sp held e d Ok) (hv : Value.okWide P w r b0 t v) (hd : DataW.Trod enc P w 0 sp held t v dd ps) :
    ∃ (A : Option Addr) (len cap : Nat) (xs : List α), v = .slice A len cap ∧ d.C w A len xs ∧ (∀ a ∈ xs, Ok a) ∧ len ≤ cap ∧ cap ≤ maxLen := by
  obtain ⟨A, len, cap, rfl⟩ := okWide_slice ht hv
  obtain ⟨n, hn⟩ := hd
  obtain ⟨xs, h1, h2, h3, h4⟩ := opens_row ht hc h hn
  exact ⟨A, len, cap, xs, rfl, h1, h2, h3, h4⟩
end
end Go.Proofs.Ytlgebknbfchnlaa
