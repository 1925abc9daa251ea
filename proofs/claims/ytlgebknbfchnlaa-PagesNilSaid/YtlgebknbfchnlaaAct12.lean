/- law12's acts, as they come in. -/
import Derived.Test.YtlgebknbfchnlaaOpenK
import Derived.Test.YtlgebknbfchnlaaWf
namespace Go.Proofs.Ytlgebknbfchnlaa
open Go Go.RowKit Go.Hay Go.Proofs.YtlgebknbfchnlaaW.PrintWords

/-- Kind, Page, A, N, Old, W, L. -/
abbrev Act12 := Int × (Int × (Int × (Int × (Int × (Int × List Int)))))
def act12K : Kd Act12 := Kd.pair (Kd.int .i64) (Kd.pair (Kd.int .i64) (Kd.pair (Kd.int .u64) (Kd.pair (Kd.int .i64) (Kd.pair (Kd.int .u64) (Kd.pair (Kd.int .u64) (Kd.slice 22 (Kd.int .u64)))))))
def I64 (x : Int) : Prop := -9223372036854775808 ≤ x ∧ x ≤ 9223372036854775807
/-- Each number is of its kind. -/
structure Act12.Ok (a : Act12) : Prop where
  kind : I64 a.1
  page : I64 a.2.1
  addr : U64 a.2.2.1
  n : I64 a.2.2.2.1
  old : U64 a.2.2.2.2.1
  now : U64 a.2.2.2.2.2.1
  l : ∀ x ∈ a.2.2.2.2.2.2, U64 x

theorem Opens.weaken {H : Type} {enc : TypeId × Value → H} {P : Program} {w : World} {sp : Nat → Bool} {held : Bool} {α : Type} {t : TypeId} {d : Kd α} {Ok Ok2 : α → Prop} (h : Opens enc P w sp held t d Ok) (hk : ∀ a, Ok a → Ok2 a) : Opens enc P w sp held t d Ok2 := by
  intro n cs x hx
  obtain ⟨a, h1, h2⟩ := h n cs x hx
  exact ⟨a, h1, hk a h2⟩
theorem opens_act12 {H : Type} {enc : TypeId × Value → H} {w : World} {sp : Nat → Bool} {held : Bool} : Opens enc Try.prog w sp held 76 act12K Act12.Ok :=
  (opens_struct Try.underlying76 (by kernel_rfl)
    (opensL_cons rfl (by kernel_rfl) (by decide) (opens_int Try.underlying3)
    (opensL_cons rfl (by kernel_rfl) (by decide) (opens_int Try.underlying3)
    (opensL_cons rfl (by kernel_rfl) (by decide) (opens_int Try.underlying22)
    (opensL_cons rfl (by kernel_rfl) (by decide) (opens_int Try.underlying3)
    (opensL_cons rfl (by kernel_rfl) (by decide) (opens_int Try.underlying22)
    (opensL_cons rfl (by kernel_rfl) (by decide) (opens_int Try.underlying22)
    (opensL_one rfl (by kernel_rfl) (opens_slice Try.underlying40 (by kernel_rfl) (opens_int Try.underlying22)))))))))).weaken
    fun a ⟨h1, h2, h3, h4, h5, h6, h7⟩ => ⟨wf_i64 h1, wf_i64 h2, wf_u64 h3, wf_i64 h4, wf_u64 h5, wf_u64 h6, fun x hx => wf_u64 (h7 x hx)⟩
end Go.Proofs.Ytlgebknbfchnlaa
