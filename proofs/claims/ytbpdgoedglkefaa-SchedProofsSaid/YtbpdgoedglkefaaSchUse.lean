/- Uses as pairs of numbers. -/
import Derived.Test.YtbpdgoedglkefaaSchCirc
namespace Go.Proofs.Ytbpdgoedglkefaa

def toU (x : Nat × Nat) : Us := ⟨x.1, x.2⟩
def UL (l : List (Nat × Nat)) : List Us := l.map toU
theorem UL_len (l : List (Nat × Nat)) : (UL l).length = l.length := List.length_map ..
end Go.Proofs.Ytbpdgoedglkefaa
