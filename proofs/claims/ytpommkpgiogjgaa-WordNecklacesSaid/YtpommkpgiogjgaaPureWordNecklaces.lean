/- The plain law of WordNecklaces, under the name that the row asks for. -/
import Derived.Test.YtpommkpgiogjgaaPureNeck
namespace Go.Proofs.Ytpommkpgiogjgaa.Pure
theorem WordNecklaces : Go.Proofs.Ytpommkpgiogjgaa.X.schismalaw34_WordNecklaces.Pure := Go.Proofs.Ytpommkpgiogjgaa.X.pure_WordNecklaces
end Go.Proofs.Ytpommkpgiogjgaa.Pure
