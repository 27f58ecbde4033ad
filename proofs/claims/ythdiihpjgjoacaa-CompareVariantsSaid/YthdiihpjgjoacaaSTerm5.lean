import Derived.Test.YthdiihpjgjoacaaSTerm4
namespace Go.Proofs.Ythdiihpjgjoacaa
open Go PSL Go.Proofs
end Go.Proofs.Ythdiihpjgjoacaa
