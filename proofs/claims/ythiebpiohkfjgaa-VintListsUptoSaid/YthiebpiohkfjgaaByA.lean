/- Rows of bytes of a call's own, beside the law's helpers (a law without spoil's cut). No condition. -/
import Derived.Test.YthiebpiohkfjgaaByte
import Derived.Test.YthiebpiohkfjgaaHelpA
namespace Go.Proofs.Ythiebpiohkfjgaa
end Go.Proofs.Ythiebpiohkfjgaa
