import Derived.Test.YtcafgconfcajbaaSBind
namespace Go.Proofs.Ytcafgconfcajbaa
open Go PSL Go.Proofs
end Go.Proofs.Ytcafgconfcajbaa
