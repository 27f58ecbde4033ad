import Derived.Test.YtppghekipbnjhaaSLaw3
import Derived.Test.YtppghekipbnjhaaSRight3
import Derived.Test.YtppghekipbnjhaaSBecome
namespace Go.Proofs.Ytppghekipbnjhaa
open Go PSL Go.Proofs

theorem subOr (B : Binds) : ∃ M, rightS B = true → Sub B M := by
  by_cases hr : rightS B = true
  · obtain ⟨M, h⟩ := Sub.of hr; exact ⟨M, fun _ => h⟩
  · exact ⟨0, fun h => absurd h hr⟩
end Go.Proofs.Ytppghekipbnjhaa
