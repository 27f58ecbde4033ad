import Derived.Test.YtcafgconfcajbaaSTerm4
namespace Go.Proofs.Ytcafgconfcajbaa
open Go PSL Go.Proofs
end Go.Proofs.Ytcafgconfcajbaa
