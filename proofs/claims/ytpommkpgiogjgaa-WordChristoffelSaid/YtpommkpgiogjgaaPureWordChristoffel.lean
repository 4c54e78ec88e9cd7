/- The plain law of WordChristoffel, under the name that the row asks for. -/
import Derived.Test.YtpommkpgiogjgaaPureChr
namespace Go.Proofs.Ytpommkpgiogjgaa.Pure
theorem WordChristoffel : Go.Proofs.Ytpommkpgiogjgaa.X.schismalaw34_WordChristoffel.Pure := Go.Proofs.Ytpommkpgiogjgaa.X.pure_WordChristoffel
end Go.Proofs.Ytpommkpgiogjgaa.Pure
