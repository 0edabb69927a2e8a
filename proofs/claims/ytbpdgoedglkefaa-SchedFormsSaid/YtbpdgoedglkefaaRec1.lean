/- Valid variables: rec's small functions. -/
import Derived.Test.YtbpdgoedglkefaaRecSpec
import Derived.Test.YtbpdgoedglkefaaPolT
import Derived.Test.YtbpdgoedglkefaaAuto
import Derived.Test.YtbpdgoedglkefaaApp
import Derived.Laws.Tables
namespace Go.Proofs.Ytbpdgoedglkefaa
open Go.RowKit

set_option maxRecDepth 100000 in
theorem recBetween_c (a b c : Int) (w : World) :
    Calls Try.prog 114 #[.int .i64 a, .int .i64 b, .int .i64 c] w fun e w' => e = .returned (.bool (bw a b c)) ∧ w = w' := by
  by_cases h1 : a ≤ b
  all_goals
    by_cases h2 : b ≤ c
    all_goals
    go_enter Try.func114, Try.ntmps114
    go_wp2
    go_ret
    exact ⟨ret_bool (by simp [bw, h1, h2] <;> omega), rfl⟩
theorem res_cs {fn : Func} {p u : Tmp} {tp : TypeId} {tmps : Array Value} {P : Program} {w : World} {a : Addr} {va vb : Value} (h : fn.results = #[.cell p tp, .tmp u])
    (hp : tmps.getD p undef = .pointer (some a)) (hu : tmps.getD u undef = vb) (la : (loadVar tp a).run P w = .ok va w) : (results fn tmps).run P w = .ok (.tuple #[va, vb]) w := by
  simp only [results, h]
  simp only [Array.getD_eq_getD_getElem?] at hp hu
  simp [Result.andThen, hp, hu, asAddr, la]
theorem load_kind {X : World} {b : Nat} {u v x : Value} (h0 : X.cell? ⟨b, 0, none⟩ = some u) (h1 : X.cell? ⟨b, 1, none⟩ = some v) (h2 : X.cell? ⟨b, 2, none⟩ = some x) : (loadVar 165 ⟨b, 0, none⟩).run Try.prog X = .ok (.agg #[u, v, x]) X := by
  simp [go_sem, loadVar, h0, h1, h2]
/-- What kindOf tells: how many arguments. -/
def KindRet (op : Int) (w : World) (e : Ending) (w' : World) : Prop := (∃ (a : ByteArray) (b : Value), e = .returned (.tuple #[.agg #[.string a, .int .i64 (needs op : Nat), b], .bool (decide (needs op ≠ 0))]) ∧ if needs op = 0 then b = .nilFunc else ∃ f, b = .func (.func f) #[] #[]) ∧ Below w.heap.size w w'
theorem kind_end {fn : Func} (hr : fn.results = #[.cell 2 165, .tmp 3]) {op : Int} {a : ByteArray} {b : Value} {n : Nat} {ok : Bool} {tmps : Array Value} {w X : World} {b1 : Nat} (hn : needs op = n) (ho : decide (n ≠ 0) = ok)
    (h2 : tmps.getD 2 undef = .pointer (some ⟨b1, 0, none⟩)) (h3 : tmps.getD 3 undef = .bool ok)
    (rl : Row X b1 165 #[.string a, .int .i64 n, b]) (hB : Below w.heap.size w X) (hb : if n = 0 then b = .nilFunc else ∃ f, b = .func (.func f) #[] #[]) :
    bodyPost Try.prog fn (KindRet op w) .ret { tmps := tmps, defers := [] } X := by
  subst hn ho
  exact bodyPost_ret (res_cs hr h2 h3 (load_kind (rl.cell rfl) (rl.cell rfl) (rl.cell rfl))) rfl ⟨⟨a, b, rfl, hb⟩, hB⟩
theorem needs_out {op : Int} (h : ¬ (1 ≤ op ∧ op ≤ 7)) : needs op = 0 := by
  unfold needs
  rw [if_neg (by omega), if_neg (by omega), if_neg (by omega)]
def kindOne (s : ByteArray) (n : Int) (f : Nat) : Value := .agg #[.string s, .int .i64 n, .func (.func f) #[] #[]]
/-- The table of operations. -/
noncomputable def kindsA : Array Value := (Try.prog.built 179 [(1, kindOne ⟨#[99, 111, 112, 121]⟩ 1 158), (2, kindOne ⟨#[97, 100, 100]⟩ 2 159), (3, kindOne ⟨#[115, 117, 98]⟩ 2 160), (4, kindOne ⟨#[109, 117, 108]⟩ 2 161), (5, kindOne ⟨#[102, 109, 97]⟩ 3 162), (6, kindOne ⟨#[109, 97, 120]⟩ 2 163), (7, kindOne ⟨#[109, 105, 110]⟩ 2 164)]).getD #[]
set_option maxRecDepth 100000 in
set_option maxHeartbeats 2000000 in
theorem kindOf_c (op : Int) (w : World) : Calls Try.prog 142 #[.int .i64 op] w (KindRet op w) := by
  have hbt := fun V => recBetween_c 1 op 7 V
  obtain ⟨B, hB0⟩ : ∃ b, bw 1 op 7 = b := ⟨_, rfl⟩
  rw [hB0] at hbt
  replace hbt := Lib.hid hbt; replace hB0 := Lib.hid hB0
  go_enter Try.func142, Try.ntmps142
  go_upto_region 1 with (fail)
  refine wp_world fun W HW => ?_
  have hB : Below w.heap.size w W := by rw [HW.out]; (repeat (first | exact Below.refl _ _ | refine Below.alloc ?_ (by simp; try omega) _ | refine Below.setCell ?_ (by simp) _ | refine Below.drew ?_))
  have xB : Row W (w.heap.size) 165 #[.string ⟨#[]⟩, .int .i64 0, .nilFunc] := (by rw [HW.out]; (repeat (first | (refine blk_new ?_; simp; done) | refine blk_old ?_ _)) : W.heap[w.heap.size]? = some (.cells #[.string ⟨#[]⟩, .int .i64 0, .nilFunc] 165 (0, 0)))
  have x0 : W.cell? ⟨w.heap.size, 0, none⟩ = some (.string ⟨#[]⟩) := by rw [HW.out]; simp [go_sem]
  have x1 : W.cell? ⟨w.heap.size, 1, none⟩ = some (.int .i64 0) := by rw [HW.out]; simp [go_sem]
  have x2 : W.cell? ⟨w.heap.size, 2, none⟩ = some (.nilFunc) := by rw [HW.out]; simp [go_sem]
  have xl : w.heap.size < W.heap.size := World.block_lt_of_cell? W _ x0
  go_upto_region 2 with (first | (refine wpList_build rfl _ _ rfl (by kernel_rfl) ?_) | (refine wpList_store_row rfl 179 _ _ rfl W.heap.size kindsA rfl (by kernel_rfl) 179 _ (Row.new W _ _) (by kernel_rfl) (by kernel_rfl) (by kernel_rfl) ?_))
  refine wp_world fun X HX => ?_
  have kc : ∀ j, X.cell? ⟨W.heap.size, j, none⟩ = kindsA[j]? := fun j => by rw [HX.out]; exact cell_setRow_same _ _ _ _ _ _ _ (Row.new W _ _)
  have hWX : Below W.heap.size W X := by
    rw [HX.out]
    exact ((Below.refl _ W).alloc (Nat.le_refl _) _).trans ⟨rfl, rfl, rfl, by simp [World.setRow], fun k hk => setRow_other _ _ k _ (by omega)⟩
  have hBX := hB.trans (hWX.mono hB.size)
  have xX := Up.block hWX xB
  clear HX
  replace xX : Row X w.heap.size 165 #[.string ⟨#[]⟩, .int .i64 0, .nilFunc] := xX
  have hxl := xX.lt
  have hwl : w.heap.size < W.heap.size := xl
  have hfin : ∀ cs, Below w.heap.size w (X.setRow w.heap.size cs) := fun cs => hBX.trans ⟨rfl, rfl, rfl, by simp [World.setRow], fun k hk => setRow_other _ _ k _ (by omega)⟩
  have hrow : ∀ u v x, Row (X.setRow w.heap.size #[u, v, x]) w.heap.size 165 #[u, v, x] := fun u v x => setRow_heap X w.heap.size _ _ _ _ xX
  replace hfin := Lib.hid hfin; replace hrow := Lib.hid hrow; have hxX := Lib.hid xX
  replace kc := Lib.hid kc
  cases B
  · have hn : needs op = 0 := needs_out fun h => by have := hB0.out; rw [bw_iff.2 h] at this; cases this
    replace hn := Lib.hid hn
    clear xX xB xl
    go_wp2_with (first | (go_at_call 114; refine (hbt.out _).mono ?_; rintro e w' ⟨rfl, rfl⟩) | (refine wpList_build rfl _ _ rfl (by kernel_rfl) ?_) | (refine wpList_store_row rfl 165 _ _ rfl w.heap.size #[.string ⟨#[]⟩, .int .i64 0, .nilFunc] rfl (by kernel_rfl) 165 _ hxX.out (by kernel_rfl) (by kernel_rfl) (by kernel_rfl) ?_))
    exact kind_end rfl (n := 0) (ok := false) hn.out rfl rfl rfl (hrow.out _ _ _) (hfin.out _) rfl
  have hop := bw_iff.1 hB0.out
  have hcs : op = 1 ∨ op = 2 ∨ op = 3 ∨ op = 4 ∨ op = 5 ∨ op = 6 ∨ op = 7 := by omega
  clear xX xB xl hB0 hop
  rcases hcs with rfl | rfl | rfl | rfl | rfl | rfl | rfl
  · have c0 := (kc.out 3).trans (show kindsA[3]? = some (.string ⟨#[99, 111, 112, 121]⟩) by kernel_rfl)
    have c1 := (kc.out 4).trans (show kindsA[4]? = some (.int .i64 1) by kernel_rfl)
    have c2 := (kc.out 5).trans (show kindsA[5]? = some (.func (.func 158) #[] #[]) by kernel_rfl)
    go_wp2_with (first | (go_at_call 114; refine (hbt.out _).mono ?_; rintro e w' ⟨rfl, rfl⟩) | (refine wpList_store_row rfl 165 _ _ rfl w.heap.size #[.string ⟨#[99, 111, 112, 121]⟩, .int .i64 1, .func (.func 158) #[] #[]] rfl rfl 165 _ hxX.out (by kernel_rfl) (by kernel_rfl) (by kernel_rfl) ?_))
    exact kind_end rfl (n := 1) (ok := true) rfl rfl rfl rfl (hrow.out _ _ _) (hfin.out _) ⟨_, rfl⟩
  · have c0 := (kc.out 6).trans (show kindsA[6]? = some (.string ⟨#[97, 100, 100]⟩) by kernel_rfl)
    have c1 := (kc.out 7).trans (show kindsA[7]? = some (.int .i64 2) by kernel_rfl)
    have c2 := (kc.out 8).trans (show kindsA[8]? = some (.func (.func 159) #[] #[]) by kernel_rfl)
    go_wp2_with (first | (go_at_call 114; refine (hbt.out _).mono ?_; rintro e w' ⟨rfl, rfl⟩) | (refine wpList_store_row rfl 165 _ _ rfl w.heap.size #[.string ⟨#[97, 100, 100]⟩, .int .i64 2, .func (.func 159) #[] #[]] rfl rfl 165 _ hxX.out (by kernel_rfl) (by kernel_rfl) (by kernel_rfl) ?_))
    exact kind_end rfl (n := 2) (ok := true) rfl rfl rfl rfl (hrow.out _ _ _) (hfin.out _) ⟨_, rfl⟩
  · have c0 := (kc.out 9).trans (show kindsA[9]? = some (.string ⟨#[115, 117, 98]⟩) by kernel_rfl)
    have c1 := (kc.out 10).trans (show kindsA[10]? = some (.int .i64 2) by kernel_rfl)
    have c2 := (kc.out 11).trans (show kindsA[11]? = some (.func (.func 160) #[] #[]) by kernel_rfl)
    go_wp2_with (first | (go_at_call 114; refine (hbt.out _).mono ?_; rintro e w' ⟨rfl, rfl⟩) | (refine wpList_store_row rfl 165 _ _ rfl w.heap.size #[.string ⟨#[115, 117, 98]⟩, .int .i64 2, .func (.func 160) #[] #[]] rfl rfl 165 _ hxX.out (by kernel_rfl) (by kernel_rfl) (by kernel_rfl) ?_))
    exact kind_end rfl (n := 2) (ok := true) rfl rfl rfl rfl (hrow.out _ _ _) (hfin.out _) ⟨_, rfl⟩
  · have c0 := (kc.out 12).trans (show kindsA[12]? = some (.string ⟨#[109, 117, 108]⟩) by kernel_rfl)
    have c1 := (kc.out 13).trans (show kindsA[13]? = some (.int .i64 2) by kernel_rfl)
    have c2 := (kc.out 14).trans (show kindsA[14]? = some (.func (.func 161) #[] #[]) by kernel_rfl)
    go_wp2_with (first | (go_at_call 114; refine (hbt.out _).mono ?_; rintro e w' ⟨rfl, rfl⟩) | (refine wpList_store_row rfl 165 _ _ rfl w.heap.size #[.string ⟨#[109, 117, 108]⟩, .int .i64 2, .func (.func 161) #[] #[]] rfl rfl 165 _ hxX.out (by kernel_rfl) (by kernel_rfl) (by kernel_rfl) ?_))
    exact kind_end rfl (n := 2) (ok := true) rfl rfl rfl rfl (hrow.out _ _ _) (hfin.out _) ⟨_, rfl⟩
  · have c0 := (kc.out 15).trans (show kindsA[15]? = some (.string ⟨#[102, 109, 97]⟩) by kernel_rfl)
    have c1 := (kc.out 16).trans (show kindsA[16]? = some (.int .i64 3) by kernel_rfl)
    have c2 := (kc.out 17).trans (show kindsA[17]? = some (.func (.func 162) #[] #[]) by kernel_rfl)
    go_wp2_with (first | (go_at_call 114; refine (hbt.out _).mono ?_; rintro e w' ⟨rfl, rfl⟩) | (refine wpList_store_row rfl 165 _ _ rfl w.heap.size #[.string ⟨#[102, 109, 97]⟩, .int .i64 3, .func (.func 162) #[] #[]] rfl rfl 165 _ hxX.out (by kernel_rfl) (by kernel_rfl) (by kernel_rfl) ?_))
    exact kind_end rfl (n := 3) (ok := true) rfl rfl rfl rfl (hrow.out _ _ _) (hfin.out _) ⟨_, rfl⟩
  · have c0 := (kc.out 18).trans (show kindsA[18]? = some (.string ⟨#[109, 97, 120]⟩) by kernel_rfl)
    have c1 := (kc.out 19).trans (show kindsA[19]? = some (.int .i64 2) by kernel_rfl)
    have c2 := (kc.out 20).trans (show kindsA[20]? = some (.func (.func 163) #[] #[]) by kernel_rfl)
    go_wp2_with (first | (go_at_call 114; refine (hbt.out _).mono ?_; rintro e w' ⟨rfl, rfl⟩) | (refine wpList_store_row rfl 165 _ _ rfl w.heap.size #[.string ⟨#[109, 97, 120]⟩, .int .i64 2, .func (.func 163) #[] #[]] rfl rfl 165 _ hxX.out (by kernel_rfl) (by kernel_rfl) (by kernel_rfl) ?_))
    exact kind_end rfl (n := 2) (ok := true) rfl rfl rfl rfl (hrow.out _ _ _) (hfin.out _) ⟨_, rfl⟩
  · have c0 := (kc.out 21).trans (show kindsA[21]? = some (.string ⟨#[109, 105, 110]⟩) by kernel_rfl)
    have c1 := (kc.out 22).trans (show kindsA[22]? = some (.int .i64 2) by kernel_rfl)
    have c2 := (kc.out 23).trans (show kindsA[23]? = some (.func (.func 164) #[] #[]) by kernel_rfl)
    go_wp2_with (first | (go_at_call 114; refine (hbt.out _).mono ?_; rintro e w' ⟨rfl, rfl⟩) | (refine wpList_store_row rfl 165 _ _ rfl w.heap.size #[.string ⟨#[109, 105, 110]⟩, .int .i64 2, .func (.func 164) #[] #[]] rfl rfl 165 _ hxX.out (by kernel_rfl) (by kernel_rfl) (by kernel_rfl) ?_))
    exact kind_end rfl (n := 2) (ok := true) rfl rfl rfl rfl (hrow.out _ _ _) (hfin.out _) ⟨_, rfl⟩
end Go.Proofs.Ytbpdgoedglkefaa
