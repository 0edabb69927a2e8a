/- Whether a recurrence is circular, as exported: the program and the reference. -/
import Derived.Test.YtakbpjgnjfigcaaGreatRLv2
import Derived.Test.YtakbpjgnjfigcaaGreatCircP
namespace Go.Proofs.YtakbpjgnjfigcaaGreat
open Go.RowKit Go.Maps

end Go.Proofs.YtakbpjgnjfigcaaGreat
