/- Tables of numbers that are built row by row; delays: what they are. -/
import Derived.Test.YtbpdgoedglkefaaB4
import Derived.Test.YtbpdgoedglkefaaB7
namespace Go.Proofs.Ytbpdgoedglkefaa
open Go.RowKit

/-! ### Delays -/
def delW (q : Sd) (v : Nat) (a : Ar) : Int := IntKind.i64.wrap (IntKind.i64.wrap (q.off.getD v 0 - q.off.getD a.v.toNat 0) - wrap64 (dotZ q.f a.p))
def delT (K : List Vv) (q : Sd) : List (List Int) := K.mapIdx fun v x => x.args.map (delW q v)
theorem delT_len (K : List Vv) (q : Sd) : (delT K q).length = K.length := List.length_mapIdx
theorem delT_row {K : List Vv} {q : Sd} {k : Nat} (hk : k < K.length) (hk' : k < (delT K q).length) : (delT K q)[k] = K[k].args.map (delW q k) := List.getElem_mapIdx ..
end Go.Proofs.Ytbpdgoedglkefaa
