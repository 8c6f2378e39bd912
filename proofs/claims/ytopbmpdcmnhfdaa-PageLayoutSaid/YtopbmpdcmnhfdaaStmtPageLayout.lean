import Derived.Test.YtopbmpdcmnhfdaaPx5
namespace Go.Proofs.Ytopbmpdcmnhfdaa.StmtPageLayout
open Go.RowKit Go.Proofs.Ytopbmpdcmnhfdaa.P Go.Proofs.YtopbmpdcmnhfdaaW.PrintWords Go.Proofs.YtopbmpdcmnhfdaaW.PrintLast Go.Proofs.YtopbmpdcmnhfdaaW.PrintMore
def Pure : Prop := ∀ (a0 : Int) (l1 : List (List Int)), (fun y : Int => (Lit.int .i64 y).wf = true) a0 → (fun ys : List (List Int) => ys.length ≤ maxLen ∧ ys.length * 24 ≤ 140737488351232 ∧ ∀ y ∈ ys, (fun ys : List Int => ys.length ≤ maxLen ∧ ys.length * 1 ≤ 140737488351232 ∧ ∀ y ∈ ys, (fun y : Int => (Lit.int .u8 y).wf = true) y) y) l1 → ∃ k, lineagelaw14_PageLayout.f k a0 l1 = some true
end Go.Proofs.Ytopbmpdcmnhfdaa.StmtPageLayout
