/- The plain law of WordMany, under the name that the row asks for. -/
import Derived.Test.YtpommkpgiogjgaaPureMany
namespace Go.Proofs.Ytpommkpgiogjgaa.Pure
theorem WordMany : Go.Proofs.Ytpommkpgiogjgaa.X.schismalaw34_WordMany.Pure := Go.Proofs.Ytpommkpgiogjgaa.X.pure_WordMany
end Go.Proofs.Ytpommkpgiogjgaa.Pure
