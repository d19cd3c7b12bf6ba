/-
  widen.right, order.right: what is wrong with two octagons.
-/
import Derived.Test.YtofmidhkiobldaaCheckAny
import Derived.Test.YtofmidhkiobldaaOwn
namespace Go.Proofs.Ytofmidhkiobldaa
open Go.RowKit

def pairErr (o p : O) : Int := if check o ≠ 0 then check o else if check p ≠ 0 then check p else if o.n ≠ p.n then 140 else 0

end Go.Proofs.Ytofmidhkiobldaa
