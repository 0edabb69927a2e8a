/- The levels as exported: the reference. -/
import Derived.Test.YtakbpjgnjfigcaaGreatRBy
import Derived.Test.YtakbpjgnjfigcaaGreatRef2
import Derived.Test.YtakbpjgnjfigcaaGreatB12
namespace Go.Proofs.YtakbpjgnjfigcaaGreat
open Go.RowKit Go.Maps

theorem RecM.valid2 {w : World} {s : Option Addr} {l : List Iq} {s2 : Option Addr} {cq : Nat} {K : List Vv} (c : RecM w s l s2 cq K) (n : Int) (cap : Nat) :
    Calls Tryz.prog 6 #[.agg #[.int .i64 n, .slice s l.length cap, .slice s2 K.length cq]] w fun e w' => e = .returned (.bool (recB n l K)) ∧ Below w.heap.size w w' := Valid2_c n s cap l s2 cq K w c.dom c.vars c.len
end Go.Proofs.YtakbpjgnjfigcaaGreat
