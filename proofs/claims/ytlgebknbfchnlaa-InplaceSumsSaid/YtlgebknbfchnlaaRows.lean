/-
  No cell of these rows narrows 'for every input' (looked for: loops, veiled, ifaces, maps, wideKeys, modest, calm, conditions, laid).
  DERIVED. THE GIVEN ROWS OF THIS SEAT. 6 by the template 'for every input the law returns true; each argument reads behind the call as it read before'; 0 by the template 'total and deterministic' (their statements: YtlgebknbfchnlaaTotals.lean).
  GIVEN WITH THE SEED: the statements are not yours to turn. If you find one false, say at which input.
  Laid BY PROGRAM, IN A SANDBOX (cutbox-rows.mjs): the forced cells as the released guide's own fill.sh prints them over the translation 8f245d839e55aa6d… (all of the seat's roots in one cut). By AI agents, Wed Nov 11 2026. No macro, syntax, notation, axiom, sorry.
-/
import Derived.Test.YtlgebknbfchnlaaChecked
import GoSem.Claim
import GoSem.ClaimJoined
import GoSem.ClaimMapViews
import Derived.JoinedTies
import Derived.KernelRfl
namespace Go.Proofs.Ytlgebknbfchnlaa
/- THE CELL 'sum', in the pinned program and in every row, IS THE sha256 OF THE DUMP (.gsa) THAT YtlgebknbfchnlaaProg.lean LOADS. Nothing in Lean hashes anything: it is a label: what it is worth is what the hold of that sum in a sandbox is worth. -/
noncomputable def Try.pinned : Pinned := { name := "ytlgebknbfchnlaa", sum := "8f245d839e55aa6de028b7c91dc322f63a0f8c07ea8a9b3bf1732c09dad4414a", checked := Try.checked }
namespace Rows
def none {H : Type} : Left H := { results := [], args := [] }

/-- 'haycroftlaw18.InplaceMay': WHATEVER THE INPUT: true; the input reads as it did. -/
def inplaceMaySpec : ChangeSpec := { name := "inplaceMay", fn := fun _ => fun
  | [d1, d2, d3, d4] => { results := [.lit (.bool true)], args := [d1, d2, d3, d4] }
  | _ => none }
def inplaceMayRow : OpenClaim := { program := "ytlgebknbfchnlaa", sum := "8f245d839e55aa6de028b7c91dc322f63a0f8c07ea8a9b3bf1732c09dad4414a", func := "haycroft/haycroftlaw18.InplaceMay", spec := "inplaceMay", inPlace := ["sync/atomic.LoadUint64", "sync/atomic.CompareAndSwapUint64", "sync/atomic.AddInt64", "sync/atomic.StoreUint64"], apart := false }
def InplaceMaySaid : Prop := inplaceMayRow.holds Try.pinned (OpenSpec.ofChange inplaceMaySpec)

/-- ITS FALSE NEIGHBOUR: 'it returns false'. Refute it at one input. -/
def inplaceMayWrong : ChangeSpec := { name := "inplaceMay", fn := fun _ => fun
  | [d1, d2, d3, d4] => { results := [.lit (.bool false)], args := [d1, d2, d3, d4] }
  | _ => none }
def InplaceMayWrongFalsely : Prop := inplaceMayRow.holds Try.pinned (OpenSpec.ofChange inplaceMayWrong)

/-- 'haycroftlaw18.InplaceSums': WHATEVER THE INPUT: true; the input reads as it did. -/
def inplaceSumsSpec : ChangeSpec := { name := "inplaceSums", fn := fun _ => fun
  | [d1, d2, d3, d4] => { results := [.lit (.bool true)], args := [d1, d2, d3, d4] }
  | _ => none }
def inplaceSumsRow : OpenClaim := { program := "ytlgebknbfchnlaa", sum := "8f245d839e55aa6de028b7c91dc322f63a0f8c07ea8a9b3bf1732c09dad4414a", func := "haycroft/haycroftlaw18.InplaceSums", spec := "inplaceSums", inPlace := ["sync/atomic.LoadUint64", "sync/atomic.CompareAndSwapUint64", "sync/atomic.AddInt64", "sync/atomic.StoreUint64"], apart := false }
def InplaceSumsSaid : Prop := inplaceSumsRow.holds Try.pinned (OpenSpec.ofChange inplaceSumsSpec)

/-- ITS FALSE NEIGHBOUR: 'it returns false'. Refute it at one input. -/
def inplaceSumsWrong : ChangeSpec := { name := "inplaceSums", fn := fun _ => fun
  | [d1, d2, d3, d4] => { results := [.lit (.bool false)], args := [d1, d2, d3, d4] }
  | _ => none }
def InplaceSumsWrongFalsely : Prop := inplaceSumsRow.holds Try.pinned (OpenSpec.ofChange inplaceSumsWrong)

/-- 'haycroftlaw18.InplacePlays': WHATEVER THE INPUT: true; the input reads as it did. -/
def inplacePlaysSpec : ChangeSpec := { name := "inplacePlays", fn := fun _ => fun
  | [d1, d2, d3] => { results := [.lit (.bool true)], args := [d1, d2, d3] }
  | _ => none }
def inplacePlaysRow : OpenClaim := { program := "ytlgebknbfchnlaa", sum := "8f245d839e55aa6de028b7c91dc322f63a0f8c07ea8a9b3bf1732c09dad4414a", func := "haycroft/haycroftlaw18.InplacePlays", spec := "inplacePlays", inPlace := ["sync/atomic.LoadUint64", "sync/atomic.CompareAndSwapUint64", "sync/atomic.AddInt64", "sync/atomic.StoreUint64"], apart := false }
def InplacePlaysSaid : Prop := inplacePlaysRow.holds Try.pinned (OpenSpec.ofChange inplacePlaysSpec)

/-- ITS FALSE NEIGHBOUR: 'it returns false'. Refute it at one input. -/
def inplacePlaysWrong : ChangeSpec := { name := "inplacePlays", fn := fun _ => fun
  | [d1, d2, d3] => { results := [.lit (.bool false)], args := [d1, d2, d3] }
  | _ => none }
def InplacePlaysWrongFalsely : Prop := inplacePlaysRow.holds Try.pinned (OpenSpec.ofChange inplacePlaysWrong)

/-- 'haycroftlaw12.PagesFew': WHATEVER THE INPUT: true; the input reads as it did. -/
def pagesFewSpec : ChangeSpec := { name := "pagesFew", fn := fun _ => fun
  | [d1, d2, d3, d4] => { results := [.lit (.bool true)], args := [d1, d2, d3, d4] }
  | _ => none }
def pagesFewRow : OpenClaim := { program := "ytlgebknbfchnlaa", sum := "8f245d839e55aa6de028b7c91dc322f63a0f8c07ea8a9b3bf1732c09dad4414a", func := "haycroft/haycroftlaw12.PagesFew", spec := "pagesFew", inPlace := ["sync/atomic.LoadUint64", "sync/atomic.CompareAndSwapUint64", "sync/atomic.AddInt64", "sync/atomic.StoreUint64"], recurses := true, apart := false }
def PagesFewSaid : Prop := pagesFewRow.holds Try.pinned (OpenSpec.ofChange pagesFewSpec)

/-- ITS FALSE NEIGHBOUR: 'it returns false'. Refute it at one input. -/
def pagesFewWrong : ChangeSpec := { name := "pagesFew", fn := fun _ => fun
  | [d1, d2, d3, d4] => { results := [.lit (.bool false)], args := [d1, d2, d3, d4] }
  | _ => none }
def PagesFewWrongFalsely : Prop := pagesFewRow.holds Try.pinned (OpenSpec.ofChange pagesFewWrong)

/-- 'haycroftlaw12.PagesPlay': WHATEVER THE INPUT: true; the input reads as it did. -/
def pagesPlaySpec : ChangeSpec := { name := "pagesPlay", fn := fun _ => fun
  | [d1, d2, d3] => { results := [.lit (.bool true)], args := [d1, d2, d3] }
  | _ => none }
def pagesPlayRow : OpenClaim := { program := "ytlgebknbfchnlaa", sum := "8f245d839e55aa6de028b7c91dc322f63a0f8c07ea8a9b3bf1732c09dad4414a", func := "haycroft/haycroftlaw12.PagesPlay", spec := "pagesPlay", inPlace := ["sync/atomic.LoadUint64", "sync/atomic.CompareAndSwapUint64", "sync/atomic.AddInt64", "sync/atomic.StoreUint64"], recurses := true, apart := false }
def PagesPlaySaid : Prop := pagesPlayRow.holds Try.pinned (OpenSpec.ofChange pagesPlaySpec)

/-- ITS FALSE NEIGHBOUR: 'it returns false'. Refute it at one input. -/
def pagesPlayWrong : ChangeSpec := { name := "pagesPlay", fn := fun _ => fun
  | [d1, d2, d3] => { results := [.lit (.bool false)], args := [d1, d2, d3] }
  | _ => none }
def PagesPlayWrongFalsely : Prop := pagesPlayRow.holds Try.pinned (OpenSpec.ofChange pagesPlayWrong)

/-- 'haycroftlaw12.PagesNil': WHATEVER THE INPUT: true; the input reads as it did. -/
def pagesNilSpec : ChangeSpec := { name := "pagesNil", fn := fun _ => fun
  | [d] => { results := [.lit (.bool true)], args := [d] }
  | _ => none }
def pagesNilRow : OpenClaim := { program := "ytlgebknbfchnlaa", sum := "8f245d839e55aa6de028b7c91dc322f63a0f8c07ea8a9b3bf1732c09dad4414a", func := "haycroft/haycroftlaw12.PagesNil", spec := "pagesNil", inPlace := ["sync/atomic.LoadUint64", "sync/atomic.CompareAndSwapUint64", "sync/atomic.AddInt64", "sync/atomic.StoreUint64"], recurses := true, apart := false }
def PagesNilSaid : Prop := pagesNilRow.holds Try.pinned (OpenSpec.ofChange pagesNilSpec)

/-- ITS FALSE NEIGHBOUR: 'it returns false'. Refute it at one input. -/
def pagesNilWrong : ChangeSpec := { name := "pagesNil", fn := fun _ => fun
  | [d] => { results := [.lit (.bool false)], args := [d] }
  | _ => none }
def PagesNilWrongFalsely : Prop := pagesNilRow.holds Try.pinned (OpenSpec.ofChange pagesNilWrong)

/- THE SECOND FORM. 'bulk': how many values and letters a reading holds, each counted each time it is reached (what is shared counts as often as it is met; a slice's spare places count too). A statement '..UptoSaid' is the law's where the arguments, and the package variables that the reading takes, are together of bulk at most 1048576: NARROWER than '..Said'. Prove '..Said' where nothing that the law and all that it calls make is longer than what came in: it says more and counts as full. Else prove '..UptoSaid'. A law counts once. -/
mutual
def uptoBulk {H : Type} : DataW H → Nat
  | .lit (.string bytes) => bytes.length + 1
  | .lit _ => 1
  | .nil => 1
  | .ptr d => uptoBulk d + 1
  | .slice elems spare => uptoBulkAll elems + uptoBulkAll spare + 1
  | .agg parts => uptoBulkAll parts + 1
  | .iface _ d => uptoBulk d + 1
  | .map entries => uptoBulkEntries entries + 1
  | .held _ => 1
def uptoBulkAll {H : Type} : List (DataW H) → Nat
  | [] => 0
  | d :: r => uptoBulk d + uptoBulkAll r
def uptoBulkEntries {H : Type} : List (Lit × DataW H) → Nat
  | [] => 0
  | x :: r => uptoBulkEntry x + uptoBulkEntries r
def uptoBulkEntry {H : Type} : Lit × DataW H → Nat
  | (.string bytes, d) => bytes.length + uptoBulk d + 1
  | (_, d) => uptoBulk d + 1
 end
def uptoSmall : (H : Type) → List (DataW H) → Bool := fun _ ds => decide (uptoBulkAll ds ≤ 1048576)
def OpenSpec.upto (s : _root_.Go.ChangeSpec) : _root_.Go.OpenSpec := { _root_.Go.OpenSpec.ofChange s with cond := some uptoSmall }

/-- 'haycroftlaw18.InplaceMay', WHERE WHAT IT READS IS OF BULK AT MOST 1048576: true; the input reads as it did. -/
def inplaceMayUptoRow : OpenClaim := { program := "ytlgebknbfchnlaa", sum := "8f245d839e55aa6de028b7c91dc322f63a0f8c07ea8a9b3bf1732c09dad4414a", func := "haycroft/haycroftlaw18.InplaceMay", spec := "inplaceMay", inPlace := ["sync/atomic.LoadUint64", "sync/atomic.CompareAndSwapUint64", "sync/atomic.AddInt64", "sync/atomic.StoreUint64"], apart := false, narrowed := true }
def InplaceMayUptoSaid : Prop := inplaceMayUptoRow.holds Try.pinned (OpenSpec.upto inplaceMaySpec)

/-- 'haycroftlaw18.InplaceSums', WHERE WHAT IT READS IS OF BULK AT MOST 1048576: true; the input reads as it did. -/
def inplaceSumsUptoRow : OpenClaim := { program := "ytlgebknbfchnlaa", sum := "8f245d839e55aa6de028b7c91dc322f63a0f8c07ea8a9b3bf1732c09dad4414a", func := "haycroft/haycroftlaw18.InplaceSums", spec := "inplaceSums", inPlace := ["sync/atomic.LoadUint64", "sync/atomic.CompareAndSwapUint64", "sync/atomic.AddInt64", "sync/atomic.StoreUint64"], apart := false, narrowed := true }
def InplaceSumsUptoSaid : Prop := inplaceSumsUptoRow.holds Try.pinned (OpenSpec.upto inplaceSumsSpec)

/-- 'haycroftlaw18.InplacePlays', WHERE WHAT IT READS IS OF BULK AT MOST 1048576: true; the input reads as it did. -/
def inplacePlaysUptoRow : OpenClaim := { program := "ytlgebknbfchnlaa", sum := "8f245d839e55aa6de028b7c91dc322f63a0f8c07ea8a9b3bf1732c09dad4414a", func := "haycroft/haycroftlaw18.InplacePlays", spec := "inplacePlays", inPlace := ["sync/atomic.LoadUint64", "sync/atomic.CompareAndSwapUint64", "sync/atomic.AddInt64", "sync/atomic.StoreUint64"], apart := false, narrowed := true }
def InplacePlaysUptoSaid : Prop := inplacePlaysUptoRow.holds Try.pinned (OpenSpec.upto inplacePlaysSpec)

/-- 'haycroftlaw12.PagesFew', WHERE WHAT IT READS IS OF BULK AT MOST 1048576: true; the input reads as it did. -/
def pagesFewUptoRow : OpenClaim := { program := "ytlgebknbfchnlaa", sum := "8f245d839e55aa6de028b7c91dc322f63a0f8c07ea8a9b3bf1732c09dad4414a", func := "haycroft/haycroftlaw12.PagesFew", spec := "pagesFew", inPlace := ["sync/atomic.LoadUint64", "sync/atomic.CompareAndSwapUint64", "sync/atomic.AddInt64", "sync/atomic.StoreUint64"], recurses := true, apart := false, narrowed := true }
def PagesFewUptoSaid : Prop := pagesFewUptoRow.holds Try.pinned (OpenSpec.upto pagesFewSpec)

/-- 'haycroftlaw12.PagesPlay', WHERE WHAT IT READS IS OF BULK AT MOST 1048576: true; the input reads as it did. -/
def pagesPlayUptoRow : OpenClaim := { program := "ytlgebknbfchnlaa", sum := "8f245d839e55aa6de028b7c91dc322f63a0f8c07ea8a9b3bf1732c09dad4414a", func := "haycroft/haycroftlaw12.PagesPlay", spec := "pagesPlay", inPlace := ["sync/atomic.LoadUint64", "sync/atomic.CompareAndSwapUint64", "sync/atomic.AddInt64", "sync/atomic.StoreUint64"], recurses := true, apart := false, narrowed := true }
def PagesPlayUptoSaid : Prop := pagesPlayUptoRow.holds Try.pinned (OpenSpec.upto pagesPlaySpec)

/-- 'haycroftlaw12.PagesNil', WHERE WHAT IT READS IS OF BULK AT MOST 1048576: true; the input reads as it did. -/
def pagesNilUptoRow : OpenClaim := { program := "ytlgebknbfchnlaa", sum := "8f245d839e55aa6de028b7c91dc322f63a0f8c07ea8a9b3bf1732c09dad4414a", func := "haycroft/haycroftlaw12.PagesNil", spec := "pagesNil", inPlace := ["sync/atomic.LoadUint64", "sync/atomic.CompareAndSwapUint64", "sync/atomic.AddInt64", "sync/atomic.StoreUint64"], recurses := true, apart := false, narrowed := true }
def PagesNilUptoSaid : Prop := pagesNilUptoRow.holds Try.pinned (OpenSpec.upto pagesNilSpec)

end Rows
end Go.Proofs.Ytlgebknbfchnlaa
