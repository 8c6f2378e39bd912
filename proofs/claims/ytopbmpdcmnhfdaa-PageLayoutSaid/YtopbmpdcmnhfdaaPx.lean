-- Written by wip/hp.py, a program of this session, over the kit's printer; texts proved by hand are put among the printed ones.
import Derived.Test.YtopbmpdcmnhfdaaPx0
import Derived.Test.YtopbmpdcmnhfdaaPx1
import Derived.Test.YtopbmpdcmnhfdaaPx2
import Derived.Test.YtopbmpdcmnhfdaaPx3
import Derived.Test.YtopbmpdcmnhfdaaPx4
import Derived.Test.YtopbmpdcmnhfdaaPx5
import Derived.Test.YtopbmpdcmnhfdaaPx6
import Derived.Test.YtopbmpdcmnhfdaaPx7
import Derived.Test.YtopbmpdcmnhfdaaPx8
import Derived.Test.YtopbmpdcmnhfdaaPx9
import Derived.Test.YtopbmpdcmnhfdaaPx10
import Derived.Test.YtopbmpdcmnhfdaaPx11
import Derived.Test.YtopbmpdcmnhfdaaPx12
namespace Go.Proofs.Ytopbmpdcmnhfdaa.P
open Go.Proofs.YtopbmpdcmnhfdaaH
open Go.RowKit Go.Proofs.YtopbmpdcmnhfdaaW.PrintWords Go.Proofs.YtopbmpdcmnhfdaaW.PrintLast Go.Proofs.YtopbmpdcmnhfdaaW.PrintMore
attribute [local go_sem] max2_int min2_int max_two min_two max_three min_three max_four min_four   -- for this text's walks alone
set_option linter.unusedVariables false
set_option linter.unusedSimpArgs false

end Go.Proofs.Ytopbmpdcmnhfdaa.P
