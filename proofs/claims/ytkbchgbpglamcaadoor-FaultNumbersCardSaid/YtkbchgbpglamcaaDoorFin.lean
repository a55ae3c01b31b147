/- Chapter 1: the laws' contracts, as the last texts ask for them. -/
import Derived.Test.YtkbchgbpglamcaaDoorWraps
namespace Go.Proofs.YtkbchgbpglamcaaDoor.Code
set_option linter.unusedSimpArgs false
set_option linter.unusedVariables false
open Go.Fw

theorem reach_le {n : Nat} (h : n ≤ reachBytes) : n ≤ 281474976710656 := by
  unfold reachBytes at h
  omega
theorem faultTellsL {h : Heap} (R : Rdy h) {s : AVal} {l : List (List UInt8)} (S : SrcT s h l) (hr : El.Room s) (hm : ∀ t ∈ l, t.length ≤ reachBytes) (k : Int) (w : (Lit.int .i64 k).wf = true) : ∃ h', E tbl 4 [s, .int .i64 k] h = some (.bool true, h') :=
  faultTells R S hr (fun t ht => reach_le (hm t ht)) k (Go.Fw.wf64 w).1 (Go.Fw.wf64 w).2
theorem faultOthersL {h : Heap} (R : Rdy h) {s : AVal} {l : List (List UInt8)} (S : SrcT s h l) (hr : El.Room s) (_ : ∀ t ∈ l, t.length ≤ reachBytes) (t : List UInt8) (_ : t.length ≤ reachBytes) : ∃ h', E tbl 3 [s, .str t] h = some (.bool true, h') :=
  faultOthers R S hr t
theorem faultWrapsL {h : Heap} (R : Rdy h) {s : AVal} {l : List (List UInt8)} (S : SrcT s h l) (hr : El.Room s) (hm : ∀ t ∈ l, t.length ≤ reachBytes) (op : List UInt8) (hop : op.length ≤ reachBytes) (k : Int) (w : (Lit.int .i64 k).wf = true) :
    ∃ h', E tbl 5 [s, .str op, .int .i64 k] h = some (.bool true, h') :=
  faultWraps R S hr (fun t ht => reach_le (hm t ht)) op (reach_le hop) k (Go.Fw.wf64 w).1 (Go.Fw.wf64 w).2

end Go.Proofs.YtkbchgbpglamcaaDoor.Code
