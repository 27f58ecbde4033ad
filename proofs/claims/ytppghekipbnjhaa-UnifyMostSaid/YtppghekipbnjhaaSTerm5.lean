import Derived.Test.YtppghekipbnjhaaSTerm4
namespace Go.Proofs.Ytppghekipbnjhaa
open Go PSL Go.Proofs
end Go.Proofs.Ytppghekipbnjhaa
