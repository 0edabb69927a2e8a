/- The levels of all elements: the reference. -/
import Derived.Test.YtakbpjgnjfigcaaGreatVis
import Derived.Test.YtakbpjgnjfigcaaGreatB7
namespace Go.Proofs.YtakbpjgnjfigcaaGreat
open Go.RowKit Go.Maps

section
variable {g : Nat} {n : Int} {s : Option Addr} {cap : Nat} {l : List Iq} {s2 : Option Addr} {cq : Nat} {K : List Vv} {sp : Option Addr} {cp mb : Nat} {P : List Pt}
end
end Go.Proofs.YtakbpjgnjfigcaaGreat
