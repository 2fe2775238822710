/- JoinSemis: the walk, and its argument. -/
import Derived.Test.YtihilledbnnniaaSgYh
import Derived.Test.YtihilledbnnniaaSgYi
namespace Go.Proofs.Ytihilledbnnniaa.Sg
theorem joinSemis_parts : True := trivial
end Go.Proofs.Ytihilledbnnniaa.Sg
