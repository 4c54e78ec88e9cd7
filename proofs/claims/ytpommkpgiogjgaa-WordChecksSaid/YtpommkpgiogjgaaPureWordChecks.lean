/- The plain law of WordChecks, under the name that the row asks for. -/
import Derived.Test.YtpommkpgiogjgaaPureChk
namespace Go.Proofs.Ytpommkpgiogjgaa.Pure
theorem WordChecks : Go.Proofs.Ytpommkpgiogjgaa.X.schismalaw34_WordChecks.Pure := Go.Proofs.Ytpommkpgiogjgaa.X.pure_WordChecks
end Go.Proofs.Ytpommkpgiogjgaa.Pure
