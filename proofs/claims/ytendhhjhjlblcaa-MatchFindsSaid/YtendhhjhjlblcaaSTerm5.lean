import Derived.Test.YtendhhjhjlblcaaSTerm4
namespace Go.Proofs.Ytendhhjhjlblcaa
open Go PSL Go.Proofs
end Go.Proofs.Ytendhhjhjlblcaa
