/- law12's PagesNil: its walk. -/
import Derived.Test.YtlgebknbfchnlaaNil
import Derived.Test.YtlgebknbfchnlaaAct12
namespace Go.Proofs.Ytlgebknbfchnlaa
open Go Go.RowKit Go.Hay Go.Proofs.YtlgebknbfchnlaaW.PrintWords

set_option maxRecDepth 100000 in
set_option maxHeartbeats 1000000 in
theorem pnil_ok (kd pg a n o u : Int) (A : Option Addr) (len cap : Nat) (w : World) :
    Calls Try.prog 8 #[.agg #[.int .i64 kd, .int .i64 pg, .int .u64 a, .int .i64 n, .int .u64 o, .int .u64 u, .slice A len cap]] w fun e w' => e = .returned (.bool true) ∧ Keep [] w w' := by
  have HA := Hid.mk (fun W => awake12_ok W)
  have hS : ∀ w1, Keep [] (w.alloc (.cells #[.int .i64 kd, .int .i64 pg, .int .u64 a, .int .i64 n, .int .u64 o, .int .u64 u, .slice A len cap] 76)) w1 → Blk w1 w.heap.size 76 #[.int .i64 kd, .int .i64 pg, .int .u64 a, .int .i64 n, .int .u64 o, .int .u64 u, .slice A len cap] := fun w1 k => (Blk.new w _ _).keep k (by simp)
  have HS := Hid.mk hS
  clear hS
  go_enter Try.func8, Try.ntmps8
  go_wp2_with (first
    | (go_at_call 28; refine (HA.out _).mono ?_; rintro e w1 ⟨rfl, k1⟩; have hb1 := HS.out w1 k1; have hc1 := hb1.cell)
    | (go_at_call 27; refine (nload_ok _ _).mono ?_; rintro e w' ⟨rfl, rfl⟩)
    | (go_at_call 40; refine (ncas_ok _ _ _ _).mono ?_; rintro e w' ⟨rfl, rfl⟩)
    | (go_at_call 41; refine (nwords_ok _ _ _).mono ?_; rintro e w' ⟨rfl, rfl⟩)
    | (go_at_call 34; refine (npage_ok _ _).mono ?_; rintro e w' ⟨rfl, rfl⟩)
    | (go_at_call 38; refine (nbits_ok _).mono ?_; rintro e w' ⟨rfl, rfl⟩)
    | (go_at_call 39; refine (nframes_ok _).mono ?_; rintro e w' ⟨rfl, rfl⟩)
    | (go_at_call 32; refine (nopen_ok _ _).mono ?_; rintro e w' ⟨rfl, rfl⟩)
    | (go_at_call 33; refine (nclose_ok _ _).mono ?_; rintro e w' ⟨rfl, rfl⟩)
    | (go_at_call 42; refine (nstore_ok _ _ _).mono ?_; rintro e w' ⟨rfl, rfl⟩)
    | (go_at_call 43; refine (nfill_ok _ _ _ _ _).mono ?_; rintro e w' ⟨rfl, rfl⟩)
    | (go_at_call 36; refine (nhas_ok _ _).mono ?_; rintro e w2 ⟨rfl, m2, rfl⟩)
    | (go_at_call 31; refine (nin_ok _).mono ?_; rintro e w3 ⟨rfl, k3⟩; have hb3 := (hb1.drewN m2).keep k3 (by simp); have hc3 := hb3.cell))
  go_ret
  exact ⟨rfl, ((((Keep.refl [] w).alloc _).trans k1 (by simp)).drewN m2).trans k3 (by simp)⟩
/-- An act's cells. -/
theorem act12_cells {w : World} {a : Act12} {cs : List Value} (h : act12K.K w a cs) : ∃ A c, cs = [.int .i64 a.1, .int .i64 a.2.1, .int .u64 a.2.2.1, .int .i64 a.2.2.2.1, .int .u64 a.2.2.2.2.1, .int .u64 a.2.2.2.2.2.1, .slice A a.2.2.2.2.2.2.length c] ∧ a.2.2.2.2.2.2.length ≤ c ∧ (Kd.int .u64).C w A a.2.2.2.2.2.2.length a.2.2.2.2.2.2 := by
  obtain ⟨_, _, rfl, h1, _, _, rfl, h2, _, _, rfl, h3, _, _, rfl, h4, _, _, rfl, h5, _, _, rfl, h6, A, c, rfl, h7, h8⟩ := h
  have e1 : _ = [Value.int .i64 a.1] := h1
  have e2 : _ = [Value.int .i64 a.2.1] := h2
  have e3 : _ = [Value.int .u64 a.2.2.1] := h3
  have e4 : _ = [Value.int .i64 a.2.2.2.1] := h4
  have e5 : _ = [Value.int .u64 a.2.2.2.2.1] := h5
  have e6 : _ = [Value.int .u64 a.2.2.2.2.2.1] := h6
  subst e1 e2 e3 e4 e5 e6
  exact ⟨A, c, rfl, h7, h8⟩

theorem pnil_row (cs : List Value) (a : Act12) (w : World) (h : act12K.K w a cs) (_ho : a.Ok) : Calls Try.prog 8 #[.agg cs.toArray] w fun e w' => e = .returned (.bool true) ∧ Keep [] w w' := by
  obtain ⟨A, c, rfl, _⟩ := act12_cells h
  exact pnil_ok _ _ _ _ _ _ _ _ _ _
end Go.Proofs.Ytlgebknbfchnlaa
