/- Plain law, page: the example of the chapter, by a run in the kernel. -/
import Derived.Test.YtopbmpdcmnhfdaaPureB
namespace Go.Proofs.Ytopbmpdcmnhfdaa.Pure
open Go.RowKit Go.Proofs.Ytopbmpdcmnhfdaa.P Go.Proofs.YtopbmpdcmnhfdaaH Go.Proofs.YtopbmpdcmnhfdaaW.PrintWords Go.Proofs.YtopbmpdcmnhfdaaW.PrintLast
theorem awake_run : lineagelaw14_awake.f 1020 = some true := by decide +kernel
theorem awake_ev : Ev (fun k => lineagelaw14_awake.f k) true := Ev.of (fun k => lineagelaw14_awake.mono k) awake_run
end Go.Proofs.Ytopbmpdcmnhfdaa.Pure
