/- The calculus' words at the seat's types. -/
import Derived.Test.YtcaidbmopehjhaaTy
import Derived.Test.YtcaidbmopehjhaaAd17
set_option linter.unusedVariables false
namespace Go.AD.T
variable {σ : AS} {id off n size : Nat} {K : AV → Prop} {KS : AS → Prop} {k k2 : IntKind} {cs : List PV} {p : PV} {x : List UInt8} {i j : Nat} {z : Int}
@[go_sem] theorem ld0 : loadD Go.Proofs.Try.prog σ 0 (.addr id off) K = ldM (σ id) off K := ldA hT0 ag0
@[go_sem] theorem le0 : loadD Go.Proofs.Try.prog σ 0 (.elemP cs off) K = (∃ v, cs[off]? = some v ∧ K (.pv v)) := load_elem hT0 ag0
@[go_sem] theorem stp0 : storeD Go.Proofs.Try.prog σ 0 (.addr id off) (.pv p) KS = stM σ id (σ id) off (.pv p) KS := stA hT0 sz0 rfl rfl
@[go_sem] theorem ld1 : loadD Go.Proofs.Try.prog σ 1 (.addr id off) K = ldM (σ id) off K := ldA hT1 ag1
@[go_sem] theorem le1 : loadD Go.Proofs.Try.prog σ 1 (.elemP cs off) K = (∃ v, cs[off]? = some v ∧ K (.pv v)) := load_elem hT1 ag1
@[go_sem] theorem stp1 : storeD Go.Proofs.Try.prog σ 1 (.addr id off) (.pv p) KS = stM σ id (σ id) off (.pv p) KS := stA hT1 sz1 rfl rfl
@[go_sem] theorem ld2 : loadD Go.Proofs.Try.prog σ 2 (.addr id off) K = ldM (σ id) off K := ldA hT2 ag2
@[go_sem] theorem le2 : loadD Go.Proofs.Try.prog σ 2 (.elemP cs off) K = (∃ v, cs[off]? = some v ∧ K (.pv v)) := load_elem hT2 ag2
@[go_sem] theorem stp2 : storeD Go.Proofs.Try.prog σ 2 (.addr id off) (.pv p) KS = stM σ id (σ id) off (.pv p) KS := stA hT2 sz2 rfl rfl
@[go_sem] theorem ld3 : loadD Go.Proofs.Try.prog σ 3 (.addr id off) K = ldM (σ id) off K := ldA hT3 ag3
@[go_sem] theorem le3 : loadD Go.Proofs.Try.prog σ 3 (.elemP cs off) K = (∃ v, cs[off]? = some v ∧ K (.pv v)) := load_elem hT3 ag3
@[go_sem] theorem stp3 : storeD Go.Proofs.Try.prog σ 3 (.addr id off) (.pv p) KS = stM σ id (σ id) off (.pv p) KS := stA hT3 sz3 rfl rfl
@[go_sem] theorem ld4 : loadD Go.Proofs.Try.prog σ 4 (.addr id off) K = ldM (σ id) off K := ldA hT4 ag4
@[go_sem] theorem le4 : loadD Go.Proofs.Try.prog σ 4 (.elemP cs off) K = (∃ v, cs[off]? = some v ∧ K (.pv v)) := load_elem hT4 ag4
@[go_sem] theorem stp4 : storeD Go.Proofs.Try.prog σ 4 (.addr id off) (.pv p) KS = stM σ id (σ id) off (.pv p) KS := stA hT4 sz4 rfl rfl
@[go_sem] theorem ld5 : loadD Go.Proofs.Try.prog σ 5 (.addr id off) K = ldM (σ id) off K := ldA hT5 ag5
@[go_sem] theorem le5 : loadD Go.Proofs.Try.prog σ 5 (.elemP cs off) K = (∃ v, cs[off]? = some v ∧ K (.pv v)) := load_elem hT5 ag5
@[go_sem] theorem stp5 : storeD Go.Proofs.Try.prog σ 5 (.addr id off) (.pv p) KS = stM σ id (σ id) off (.pv p) KS := stA hT5 sz5 rfl rfl
@[go_sem] theorem ld6 : loadD Go.Proofs.Try.prog σ 6 (.addr id off) K = ldM (σ id) off K := ldA hT6 ag6
@[go_sem] theorem le6 : loadD Go.Proofs.Try.prog σ 6 (.elemP cs off) K = (∃ v, cs[off]? = some v ∧ K (.pv v)) := load_elem hT6 ag6
@[go_sem] theorem stp6 : storeD Go.Proofs.Try.prog σ 6 (.addr id off) (.pv p) KS = stM σ id (σ id) off (.pv p) KS := stA hT6 sz6 rfl rfl
@[go_sem] theorem fa7_0 : fieldAddrD Go.Proofs.Try.prog 7 (.addr id off) 0 K = K (.addr id (off + 0)) := by
  rw [fa_addr (by rw [fo7_0]; rfl)]; simp only [fo7_0, Option.getD_some, hT2, sz2, true_and]; simp
@[go_sem] theorem fe7_0 : fieldAddrD Go.Proofs.Try.prog 7 (.elemP cs off) 0 K = K (.elemP cs (off + 0)) := by
  rw [fa_elem (by rw [fo7_0]; rfl)]; simp only [fo7_0, Option.getD_some, hT2, sz2, true_and]; simp
@[go_sem] theorem fa7_1 : fieldAddrD Go.Proofs.Try.prog 7 (.addr id off) 1 K = K (.addr id (off + 1)) := by
  rw [fa_addr (by rw [fo7_1]; rfl)]; simp only [fo7_1, Option.getD_some, hT3, sz3, true_and]; simp
@[go_sem] theorem fe7_1 : fieldAddrD Go.Proofs.Try.prog 7 (.elemP cs off) 1 K = K (.elemP cs (off + 1)) := by
  rw [fa_elem (by rw [fo7_1]; rfl)]; simp only [fo7_1, Option.getD_some, hT3, sz3, true_and]; simp
@[go_sem] theorem fa7_2 : fieldAddrD Go.Proofs.Try.prog 7 (.addr id off) 2 K = K (.addr id (off + 2)) := by
  rw [fa_addr (by rw [fo7_2]; rfl)]; simp only [fo7_2, Option.getD_some, hT4, sz4, true_and]; simp
@[go_sem] theorem fe7_2 : fieldAddrD Go.Proofs.Try.prog 7 (.elemP cs off) 2 K = K (.elemP cs (off + 2)) := by
  rw [fa_elem (by rw [fo7_2]; rfl)]; simp only [fo7_2, Option.getD_some, hT4, sz4, true_and]; simp
@[go_sem] theorem fa7_3 : fieldAddrD Go.Proofs.Try.prog 7 (.addr id off) 3 K = K (.addr id (off + 3)) := by
  rw [fa_addr (by rw [fo7_3]; rfl)]; simp only [fo7_3, Option.getD_some, hT6, sz6, true_and]; simp
@[go_sem] theorem fe7_3 : fieldAddrD Go.Proofs.Try.prog 7 (.elemP cs off) 3 K = K (.elemP cs (off + 3)) := by
  rw [fa_elem (by rw [fo7_3]; rfl)]; simp only [fo7_3, Option.getD_some, hT6, sz6, true_and]; simp
@[go_sem] theorem fa8_0 : fieldAddrD Go.Proofs.Try.prog 8 (.addr id off) 0 K = K (.addr id (off + 0)) := by
  rw [fa_addr (by rw [fo8_0]; rfl)]; simp only [fo8_0, Option.getD_some, hT2, sz2, true_and]; simp
@[go_sem] theorem fe8_0 : fieldAddrD Go.Proofs.Try.prog 8 (.elemP cs off) 0 K = K (.elemP cs (off + 0)) := by
  rw [fa_elem (by rw [fo8_0]; rfl)]; simp only [fo8_0, Option.getD_some, hT2, sz2, true_and]; simp
@[go_sem] theorem fa8_1 : fieldAddrD Go.Proofs.Try.prog 8 (.addr id off) 1 K = K (.addr id (off + 1)) := by
  rw [fa_addr (by rw [fo8_1]; rfl)]; simp only [fo8_1, Option.getD_some, hT3, sz3, true_and]; simp
@[go_sem] theorem fe8_1 : fieldAddrD Go.Proofs.Try.prog 8 (.elemP cs off) 1 K = K (.elemP cs (off + 1)) := by
  rw [fa_elem (by rw [fo8_1]; rfl)]; simp only [fo8_1, Option.getD_some, hT3, sz3, true_and]; simp
@[go_sem] theorem fa8_2 : fieldAddrD Go.Proofs.Try.prog 8 (.addr id off) 2 K = K (.addr id (off + 2)) := by
  rw [fa_addr (by rw [fo8_2]; rfl)]; simp only [fo8_2, Option.getD_some, hT4, sz4, true_and]; simp
@[go_sem] theorem fe8_2 : fieldAddrD Go.Proofs.Try.prog 8 (.elemP cs off) 2 K = K (.elemP cs (off + 2)) := by
  rw [fa_elem (by rw [fo8_2]; rfl)]; simp only [fo8_2, Option.getD_some, hT4, sz4, true_and]; simp
@[go_sem] theorem fa8_3 : fieldAddrD Go.Proofs.Try.prog 8 (.addr id off) 3 K = K (.addr id (off + 3)) := by
  rw [fa_addr (by rw [fo8_3]; rfl)]; simp only [fo8_3, Option.getD_some, hT6, sz6, true_and]; simp
@[go_sem] theorem fe8_3 : fieldAddrD Go.Proofs.Try.prog 8 (.elemP cs off) 3 K = K (.elemP cs (off + 3)) := by
  rw [fa_elem (by rw [fo8_3]; rfl)]; simp only [fo8_3, Option.getD_some, hT6, sz6, true_and]; simp
@[go_sem] theorem ld9 : loadD Go.Proofs.Try.prog σ 9 (.addr id off) K = ldM (σ id) off K := ldA hT9 ag9
@[go_sem] theorem le9 : loadD Go.Proofs.Try.prog σ 9 (.elemP cs off) K = (∃ v, cs[off]? = some v ∧ K (.pv v)) := load_elem hT9 ag9
@[go_sem] theorem stp9 : storeD Go.Proofs.Try.prog σ 9 (.addr id off) (.pv p) KS = stM σ id (σ id) off (.pv p) KS := stA hT9 sz9 rfl rfl
theorem und9 : (Go.Proofs.Try.prog).underlying 9 = some .string := by kernel_rfl
@[go_sem] theorem ls9 : lenD Go.Proofs.Try.prog 9 (.pv (.str x)) K = K (.pv (.int .i64 x.length)) := len_str und9
theorem is9 (h : i < x.length) : indexD Go.Proofs.Try.prog 9 (.pv (.str x)) (.pv (.int k i)) K = K (.pv (.int .u8 (x.getD i 0).toNat)) := ixS und9 h
theorem ss9 (h : i ≤ x.length) : sliceD Go.Proofs.Try.prog 9 (.pv (.str x)) (some (.pv (.int k i))) none K = K (.pv (.str (x.drop i))) := slS und9 h
theorem st9 (h : i ≤ x.length) : sliceD Go.Proofs.Try.prog 9 (.pv (.str x)) none (some (.pv (.int k i))) K = K (.pv (.str (x.take i))) := slS0 und9 h
theorem sb9 (h : i ≤ j) (h2 : j ≤ x.length) : sliceD Go.Proofs.Try.prog 9 (.pv (.str x)) (some (.pv (.int k i))) (some (.pv (.int k2 j))) K = K (.pv (.str ((x.take j).drop i))) := slS2 und9 h h2
@[go_sem] theorem ld10 : loadD Go.Proofs.Try.prog σ 10 (.addr id off) K = ldM (σ id) off K := ldA hT10 ag10
@[go_sem] theorem le10 : loadD Go.Proofs.Try.prog σ 10 (.elemP cs off) K = (∃ v, cs[off]? = some v ∧ K (.pv v)) := load_elem hT10 ag10
@[go_sem] theorem stp10 : storeD Go.Proofs.Try.prog σ 10 (.addr id off) (.pv p) KS = stM σ id (σ id) off (.pv p) KS := stA hT10 sz10 rfl rfl
theorem und10 : (Go.Proofs.Try.prog).underlying 10 = some .string := by kernel_rfl
@[go_sem] theorem ls10 : lenD Go.Proofs.Try.prog 10 (.pv (.str x)) K = K (.pv (.int .i64 x.length)) := len_str und10
theorem is10 (h : i < x.length) : indexD Go.Proofs.Try.prog 10 (.pv (.str x)) (.pv (.int k i)) K = K (.pv (.int .u8 (x.getD i 0).toNat)) := ixS und10 h
theorem ss10 (h : i ≤ x.length) : sliceD Go.Proofs.Try.prog 10 (.pv (.str x)) (some (.pv (.int k i))) none K = K (.pv (.str (x.drop i))) := slS und10 h
theorem st10 (h : i ≤ x.length) : sliceD Go.Proofs.Try.prog 10 (.pv (.str x)) none (some (.pv (.int k i))) K = K (.pv (.str (x.take i))) := slS0 und10 h
theorem sb10 (h : i ≤ j) (h2 : j ≤ x.length) : sliceD Go.Proofs.Try.prog 10 (.pv (.str x)) (some (.pv (.int k i))) (some (.pv (.int k2 j))) K = K (.pv (.str ((x.take j).drop i))) := slS2 und10 h h2
@[go_sem] theorem ld11 : loadD Go.Proofs.Try.prog σ 11 (.addr id off) K = ldM (σ id) off K := ldA hT11 ag11
@[go_sem] theorem le11 : loadD Go.Proofs.Try.prog σ 11 (.elemP cs off) K = (∃ v, cs[off]? = some v ∧ K (.pv v)) := load_elem hT11 ag11
@[go_sem] theorem stp11 : storeD Go.Proofs.Try.prog σ 11 (.addr id off) (.pv p) KS = stM σ id (σ id) off (.pv p) KS := stA hT11 sz11 rfl rfl
theorem und11 : (Go.Proofs.Try.prog).underlying 11 = some .string := by kernel_rfl
@[go_sem] theorem ls11 : lenD Go.Proofs.Try.prog 11 (.pv (.str x)) K = K (.pv (.int .i64 x.length)) := len_str und11
theorem is11 (h : i < x.length) : indexD Go.Proofs.Try.prog 11 (.pv (.str x)) (.pv (.int k i)) K = K (.pv (.int .u8 (x.getD i 0).toNat)) := ixS und11 h
theorem ss11 (h : i ≤ x.length) : sliceD Go.Proofs.Try.prog 11 (.pv (.str x)) (some (.pv (.int k i))) none K = K (.pv (.str (x.drop i))) := slS und11 h
theorem st11 (h : i ≤ x.length) : sliceD Go.Proofs.Try.prog 11 (.pv (.str x)) none (some (.pv (.int k i))) K = K (.pv (.str (x.take i))) := slS0 und11 h
theorem sb11 (h : i ≤ j) (h2 : j ≤ x.length) : sliceD Go.Proofs.Try.prog 11 (.pv (.str x)) (some (.pv (.int k i))) (some (.pv (.int k2 j))) K = K (.pv (.str ((x.take j).drop i))) := slS2 und11 h h2
@[go_sem] theorem ld12 : loadD Go.Proofs.Try.prog σ 12 (.addr id off) K = ldM (σ id) off K := ldA hT12 ag12
@[go_sem] theorem le12 : loadD Go.Proofs.Try.prog σ 12 (.elemP cs off) K = (∃ v, cs[off]? = some v ∧ K (.pv v)) := load_elem hT12 ag12
@[go_sem] theorem stp12 : storeD Go.Proofs.Try.prog σ 12 (.addr id off) (.pv p) KS = stM σ id (σ id) off (.pv p) KS := stA hT12 sz12 rfl rfl
@[go_sem] theorem fa13_0 : fieldAddrD Go.Proofs.Try.prog 13 (.addr id off) 0 K = K (.addr id (off + 0)) := by
  rw [fa_addr (by rw [fo13_0]; rfl)]; simp only [fo13_0, Option.getD_some, hT9, sz9, true_and]; simp
@[go_sem] theorem fe13_0 : fieldAddrD Go.Proofs.Try.prog 13 (.elemP cs off) 0 K = K (.elemP cs (off + 0)) := by
  rw [fa_elem (by rw [fo13_0]; rfl)]; simp only [fo13_0, Option.getD_some, hT9, sz9, true_and]; simp
@[go_sem] theorem fa13_1 : fieldAddrD Go.Proofs.Try.prog 13 (.addr id off) 1 K = K (.addr id (off + 1)) := by
  rw [fa_addr (by rw [fo13_1]; rfl)]; simp only [fo13_1, Option.getD_some, hT12, sz12, true_and]; simp
@[go_sem] theorem fe13_1 : fieldAddrD Go.Proofs.Try.prog 13 (.elemP cs off) 1 K = K (.elemP cs (off + 1)) := by
  rw [fa_elem (by rw [fo13_1]; rfl)]; simp only [fo13_1, Option.getD_some, hT12, sz12, true_and]; simp
@[go_sem] theorem fa14_0 : fieldAddrD Go.Proofs.Try.prog 14 (.addr id off) 0 K = K (.addr id (off + 0)) := by
  rw [fa_addr (by rw [fo14_0]; rfl)]; simp only [fo14_0, Option.getD_some, hT9, sz9, true_and]; simp
@[go_sem] theorem fe14_0 : fieldAddrD Go.Proofs.Try.prog 14 (.elemP cs off) 0 K = K (.elemP cs (off + 0)) := by
  rw [fa_elem (by rw [fo14_0]; rfl)]; simp only [fo14_0, Option.getD_some, hT9, sz9, true_and]; simp
@[go_sem] theorem fa14_1 : fieldAddrD Go.Proofs.Try.prog 14 (.addr id off) 1 K = K (.addr id (off + 1)) := by
  rw [fa_addr (by rw [fo14_1]; rfl)]; simp only [fo14_1, Option.getD_some, hT12, sz12, true_and]; simp
@[go_sem] theorem fe14_1 : fieldAddrD Go.Proofs.Try.prog 14 (.elemP cs off) 1 K = K (.elemP cs (off + 1)) := by
  rw [fa_elem (by rw [fo14_1]; rfl)]; simp only [fo14_1, Option.getD_some, hT12, sz12, true_and]; simp
@[go_sem] theorem ld15 : loadD Go.Proofs.Try.prog σ 15 (.addr id off) K = ldM (σ id) off K := ldA hT15 ag15
@[go_sem] theorem le15 : loadD Go.Proofs.Try.prog σ 15 (.elemP cs off) K = (∃ v, cs[off]? = some v ∧ K (.pv v)) := load_elem hT15 ag15
@[go_sem] theorem stp15 : storeD Go.Proofs.Try.prog σ 15 (.addr id off) (.pv p) KS = stM σ id (σ id) off (.pv p) KS := stA hT15 sz15 rfl rfl
@[go_sem] theorem sta15 {j o : Nat} : storeD Go.Proofs.Try.prog σ 15 (.addr id off) (.addr j o) KS = stM σ id (σ id) off (.addr j o) KS := stA hT15 sz15 rfl rfl
@[go_sem] theorem ld16 : loadD Go.Proofs.Try.prog σ 16 (.addr id off) K = ldM (σ id) off K := ldA hT16 ag16
@[go_sem] theorem le16 : loadD Go.Proofs.Try.prog σ 16 (.elemP cs off) K = (∃ v, cs[off]? = some v ∧ K (.pv v)) := load_elem hT16 ag16
@[go_sem] theorem stp16 : storeD Go.Proofs.Try.prog σ 16 (.addr id off) (.pv p) KS = stM σ id (σ id) off (.pv p) KS := stA hT16 sz16 rfl rfl
@[go_sem] theorem sta16 {j o : Nat} : storeD Go.Proofs.Try.prog σ 16 (.addr id off) (.addr j o) KS = stM σ id (σ id) off (.addr j o) KS := stA hT16 sz16 rfl rfl
@[go_sem] theorem ld17 : loadD Go.Proofs.Try.prog σ 17 (.addr id off) K = ldM (σ id) off K := ldA hT17 ag17
@[go_sem] theorem le17 : loadD Go.Proofs.Try.prog σ 17 (.elemP cs off) K = (∃ v, cs[off]? = some v ∧ K (.pv v)) := load_elem hT17 ag17
@[go_sem] theorem stp17 : storeD Go.Proofs.Try.prog σ 17 (.addr id off) (.pv p) KS = stM σ id (σ id) off (.pv p) KS := stA hT17 sz17 rfl rfl
@[go_sem] theorem sta17 {j o : Nat} : storeD Go.Proofs.Try.prog σ 17 (.addr id off) (.addr j o) KS = stM σ id (σ id) off (.addr j o) KS := stA hT17 sz17 rfl rfl
@[go_sem] theorem fa18_0 : fieldAddrD Go.Proofs.Try.prog 18 (.addr id off) 0 K = K (.addr id (off + 0)) := by
  rw [fa_addr (by rw [fo18_0]; rfl)]; simp only [fo18_0, Option.getD_some, hT17, sz17, true_and]; simp
@[go_sem] theorem fe18_0 : fieldAddrD Go.Proofs.Try.prog 18 (.elemP cs off) 0 K = K (.elemP cs (off + 0)) := by
  rw [fa_elem (by rw [fo18_0]; rfl)]; simp only [fo18_0, Option.getD_some, hT17, sz17, true_and]; simp
@[go_sem] theorem fa19_0 : fieldAddrD Go.Proofs.Try.prog 19 (.addr id off) 0 K = K (.addr id (off + 0)) := by
  rw [fa_addr (by rw [fo19_0]; rfl)]; simp only [fo19_0, Option.getD_some, hT17, sz17, true_and]; simp
@[go_sem] theorem fe19_0 : fieldAddrD Go.Proofs.Try.prog 19 (.elemP cs off) 0 K = K (.elemP cs (off + 0)) := by
  rw [fa_elem (by rw [fo19_0]; rfl)]; simp only [fo19_0, Option.getD_some, hT17, sz17, true_and]; simp
@[go_sem] theorem ld20 : loadD Go.Proofs.Try.prog σ 20 (.addr id off) K = ldM (σ id) off K := ldA hT20 ag20
@[go_sem] theorem le20 : loadD Go.Proofs.Try.prog σ 20 (.elemP cs off) K = (∃ v, cs[off]? = some v ∧ K (.pv v)) := load_elem hT20 ag20
@[go_sem] theorem stp20 : storeD Go.Proofs.Try.prog σ 20 (.addr id off) (.pv p) KS = stM σ id (σ id) off (.pv p) KS := stA hT20 sz20 rfl rfl
@[go_sem] theorem ld21 : loadD Go.Proofs.Try.prog σ 21 (.addr id off) K = ldM (σ id) off K := ldA hT21 ag21
@[go_sem] theorem le21 : loadD Go.Proofs.Try.prog σ 21 (.elemP cs off) K = (∃ v, cs[off]? = some v ∧ K (.pv v)) := load_elem hT21 ag21
@[go_sem] theorem stp21 : storeD Go.Proofs.Try.prog σ 21 (.addr id off) (.pv p) KS = stM σ id (σ id) off (.pv p) KS := stA hT21 sz21 rfl rfl
@[go_sem] theorem ld22 : loadD Go.Proofs.Try.prog σ 22 (.addr id off) K = ldM (σ id) off K := ldA hT22 ag22
@[go_sem] theorem le22 : loadD Go.Proofs.Try.prog σ 22 (.elemP cs off) K = (∃ v, cs[off]? = some v ∧ K (.pv v)) := load_elem hT22 ag22
@[go_sem] theorem stp22 : storeD Go.Proofs.Try.prog σ 22 (.addr id off) (.pv p) KS = stM σ id (σ id) off (.pv p) KS := stA hT22 sz22 rfl rfl
theorem stv22 {v : AV} (hv : v.cells = [v]) (h2 : v.cellOk = true) : storeD Go.Proofs.Try.prog σ 22 (.addr id off) v KS = stM σ id (σ id) off v KS := stA hT22 sz22 hv h2
@[go_sem] theorem lnl22 : lenD Go.Proofs.Try.prog 22 (.pv (.lst n cs)) K = K (.pv (.int .i64 n)) := len_lst (by rw [el22]; rfl)
@[go_sem] theorem lng22 : lenD Go.Proofs.Try.prog 22 (.grow id n cs) K = K (.pv (.int .i64 n)) := len_grow (by rw [el22]; rfl)
@[go_sem] theorem lnf22 : lenD Go.Proofs.Try.prog 22 (.full n cs) K = K (.pv (.int .i64 n)) := len_full (by rw [el22]; rfl)
@[go_sem] theorem lnm22 : lenD Go.Proofs.Try.prog 22 (.msl id off n size) K = K (.pv (.int .i64 n)) := len_msl (by rw [el22]; rfl)
@[go_sem] theorem lnn22 : lenD Go.Proofs.Try.prog 22 .nilS K = K (.pv (.int .i64 0)) := len_nil (by rw [el22]; rfl)
theorem lnv22 {v : AV} (h : toPV v = some (.lst n cs)) : lenD Go.Proofs.Try.prog 22 v K = K (.pv (.int .i64 n)) := len_of (by rw [el22]; rfl) h
theorem ixm22 (h : i < n) : indexAddrD Go.Proofs.Try.prog 22 (.msl id off n size) (.pv (.int k i)) K = K (.addr id (off + i * 1)) := by
  rw [ix_msl (by rw [el22]; rfl)]; simp only [el22, Option.getD_some, iS3, sz3, Int.toNat_natCast, true_and]; simp [h]
theorem ixl22 (h : i < n) (hl : cs.length = n * 1) : indexAddrD Go.Proofs.Try.prog 22 (.pv (.lst n cs)) (.pv (.int k i)) K = K (.elemP cs (i * 1)) := by
  rw [ix_lst (by rw [el22]; rfl)]; simp only [el22, Option.getD_some, iS3, sz3, Int.toNat_natCast, true_and]; simp [h, hl]
theorem ixv22 {v : AV} (hv : toPV v = some (.lst n cs)) (h : i < n) (hl : cs.length = n * 1) (hK : K (.elemP cs (i * 1))) : indexAddrD Go.Proofs.Try.prog 22 v (.pv (.int k i)) K := by
  refine ix_of (by rw [el22]; rfl) hv (by rw [el22]; exact iS3) (by rw [el22, Option.getD_some, sz3, hl]; exact Nat.le_refl _) (by rw [el22, Option.getD_some, sz3]; decide) (by omega) (by omega) ?_
  rw [el22, Option.getD_some, sz3, Int.toNat_natCast]; exact hK
@[go_sem] theorem ld23 : loadD Go.Proofs.Try.prog σ 23 (.addr id off) K = ldM (σ id) off K := ldA hT23 ag23
@[go_sem] theorem le23 : loadD Go.Proofs.Try.prog σ 23 (.elemP cs off) K = (∃ v, cs[off]? = some v ∧ K (.pv v)) := load_elem hT23 ag23
@[go_sem] theorem stp23 : storeD Go.Proofs.Try.prog σ 23 (.addr id off) (.pv p) KS = stM σ id (σ id) off (.pv p) KS := stA hT23 sz23 rfl rfl
@[go_sem] theorem ld24 : loadD Go.Proofs.Try.prog σ 24 (.addr id off) K = ldM (σ id) off K := ldA hT24 ag24
@[go_sem] theorem le24 : loadD Go.Proofs.Try.prog σ 24 (.elemP cs off) K = (∃ v, cs[off]? = some v ∧ K (.pv v)) := load_elem hT24 ag24
@[go_sem] theorem stp24 : storeD Go.Proofs.Try.prog σ 24 (.addr id off) (.pv p) KS = stM σ id (σ id) off (.pv p) KS := stA hT24 sz24 rfl rfl
theorem stv24 {v : AV} (hv : v.cells = [v]) (h2 : v.cellOk = true) : storeD Go.Proofs.Try.prog σ 24 (.addr id off) v KS = stM σ id (σ id) off v KS := stA hT24 sz24 hv h2
@[go_sem] theorem lnl24 : lenD Go.Proofs.Try.prog 24 (.pv (.lst n cs)) K = K (.pv (.int .i64 n)) := len_lst (by rw [el24]; rfl)
@[go_sem] theorem lng24 : lenD Go.Proofs.Try.prog 24 (.grow id n cs) K = K (.pv (.int .i64 n)) := len_grow (by rw [el24]; rfl)
@[go_sem] theorem lnf24 : lenD Go.Proofs.Try.prog 24 (.full n cs) K = K (.pv (.int .i64 n)) := len_full (by rw [el24]; rfl)
@[go_sem] theorem lnm24 : lenD Go.Proofs.Try.prog 24 (.msl id off n size) K = K (.pv (.int .i64 n)) := len_msl (by rw [el24]; rfl)
@[go_sem] theorem lnn24 : lenD Go.Proofs.Try.prog 24 .nilS K = K (.pv (.int .i64 0)) := len_nil (by rw [el24]; rfl)
theorem lnv24 {v : AV} (h : toPV v = some (.lst n cs)) : lenD Go.Proofs.Try.prog 24 v K = K (.pv (.int .i64 n)) := len_of (by rw [el24]; rfl) h
theorem ixm24 (h : i < n) : indexAddrD Go.Proofs.Try.prog 24 (.msl id off n size) (.pv (.int k i)) K = K (.addr id (off + i * 1)) := by
  rw [ix_msl (by rw [el24]; rfl)]; simp only [el24, Option.getD_some, iS26, sz26, Int.toNat_natCast, true_and]; simp [h]
theorem ixl24 (h : i < n) (hl : cs.length = n * 1) : indexAddrD Go.Proofs.Try.prog 24 (.pv (.lst n cs)) (.pv (.int k i)) K = K (.elemP cs (i * 1)) := by
  rw [ix_lst (by rw [el24]; rfl)]; simp only [el24, Option.getD_some, iS26, sz26, Int.toNat_natCast, true_and]; simp [h, hl]
theorem ixv24 {v : AV} (hv : toPV v = some (.lst n cs)) (h : i < n) (hl : cs.length = n * 1) (hK : K (.elemP cs (i * 1))) : indexAddrD Go.Proofs.Try.prog 24 v (.pv (.int k i)) K := by
  refine ix_of (by rw [el24]; rfl) hv (by rw [el24]; exact iS26) (by rw [el24, Option.getD_some, sz26, hl]; exact Nat.le_refl _) (by rw [el24, Option.getD_some, sz26]; decide) (by omega) (by omega) ?_
  rw [el24, Option.getD_some, sz26, Int.toNat_natCast]; exact hK
@[go_sem] theorem ld25 : loadD Go.Proofs.Try.prog σ 25 (.addr id off) K = ldM (σ id) off K := ldA hT25 ag25
@[go_sem] theorem le25 : loadD Go.Proofs.Try.prog σ 25 (.elemP cs off) K = (∃ v, cs[off]? = some v ∧ K (.pv v)) := load_elem hT25 ag25
@[go_sem] theorem stp25 : storeD Go.Proofs.Try.prog σ 25 (.addr id off) (.pv p) KS = stM σ id (σ id) off (.pv p) KS := stA hT25 sz25 rfl rfl
@[go_sem] theorem ld26 : loadD Go.Proofs.Try.prog σ 26 (.addr id off) K = ldM (σ id) off K := ldA hT26 ag26
@[go_sem] theorem le26 : loadD Go.Proofs.Try.prog σ 26 (.elemP cs off) K = (∃ v, cs[off]? = some v ∧ K (.pv v)) := load_elem hT26 ag26
@[go_sem] theorem stp26 : storeD Go.Proofs.Try.prog σ 26 (.addr id off) (.pv p) KS = stM σ id (σ id) off (.pv p) KS := stA hT26 sz26 rfl rfl
theorem stv26 {v : AV} (hv : v.cells = [v]) (h2 : v.cellOk = true) : storeD Go.Proofs.Try.prog σ 26 (.addr id off) v KS = stM σ id (σ id) off v KS := stA hT26 sz26 hv h2
@[go_sem] theorem lnl26 : lenD Go.Proofs.Try.prog 26 (.pv (.lst n cs)) K = K (.pv (.int .i64 n)) := len_lst (by rw [el26]; rfl)
@[go_sem] theorem lng26 : lenD Go.Proofs.Try.prog 26 (.grow id n cs) K = K (.pv (.int .i64 n)) := len_grow (by rw [el26]; rfl)
@[go_sem] theorem lnf26 : lenD Go.Proofs.Try.prog 26 (.full n cs) K = K (.pv (.int .i64 n)) := len_full (by rw [el26]; rfl)
@[go_sem] theorem lnm26 : lenD Go.Proofs.Try.prog 26 (.msl id off n size) K = K (.pv (.int .i64 n)) := len_msl (by rw [el26]; rfl)
@[go_sem] theorem lnn26 : lenD Go.Proofs.Try.prog 26 .nilS K = K (.pv (.int .i64 0)) := len_nil (by rw [el26]; rfl)
theorem lnv26 {v : AV} (h : toPV v = some (.lst n cs)) : lenD Go.Proofs.Try.prog 26 v K = K (.pv (.int .i64 n)) := len_of (by rw [el26]; rfl) h
theorem ixm26 (h : i < n) : indexAddrD Go.Proofs.Try.prog 26 (.msl id off n size) (.pv (.int k i)) K = K (.addr id (off + i * 3)) := by
  rw [ix_msl (by rw [el26]; rfl)]; simp only [el26, Option.getD_some, iS28, sz28, Int.toNat_natCast, true_and]; simp [h]
theorem ixl26 (h : i < n) (hl : cs.length = n * 3) : indexAddrD Go.Proofs.Try.prog 26 (.pv (.lst n cs)) (.pv (.int k i)) K = K (.elemP cs (i * 3)) := by
  rw [ix_lst (by rw [el26]; rfl)]; simp only [el26, Option.getD_some, iS28, sz28, Int.toNat_natCast, true_and]; simp [h, hl]
theorem ixv26 {v : AV} (hv : toPV v = some (.lst n cs)) (h : i < n) (hl : cs.length = n * 3) (hK : K (.elemP cs (i * 3))) : indexAddrD Go.Proofs.Try.prog 26 v (.pv (.int k i)) K := by
  refine ix_of (by rw [el26]; rfl) hv (by rw [el26]; exact iS28) (by rw [el26, Option.getD_some, sz28, hl]; exact Nat.le_refl _) (by rw [el26, Option.getD_some, sz28]; decide) (by omega) (by omega) ?_
  rw [el26, Option.getD_some, sz28, Int.toNat_natCast]; exact hK
@[go_sem] theorem fa27_0 : fieldAddrD Go.Proofs.Try.prog 27 (.addr id off) 0 K = K (.addr id (off + 0)) := by
  rw [fa_addr (by rw [fo27_0]; rfl)]; simp only [fo27_0, Option.getD_some, hT3, sz3, true_and]; simp
@[go_sem] theorem fe27_0 : fieldAddrD Go.Proofs.Try.prog 27 (.elemP cs off) 0 K = K (.elemP cs (off + 0)) := by
  rw [fa_elem (by rw [fo27_0]; rfl)]; simp only [fo27_0, Option.getD_some, hT3, sz3, true_and]; simp
@[go_sem] theorem fa27_1 : fieldAddrD Go.Proofs.Try.prog 27 (.addr id off) 1 K = K (.addr id (off + 1)) := by
  rw [fa_addr (by rw [fo27_1]; rfl)]; simp only [fo27_1, Option.getD_some, hT3, sz3, true_and]; simp
@[go_sem] theorem fe27_1 : fieldAddrD Go.Proofs.Try.prog 27 (.elemP cs off) 1 K = K (.elemP cs (off + 1)) := by
  rw [fa_elem (by rw [fo27_1]; rfl)]; simp only [fo27_1, Option.getD_some, hT3, sz3, true_and]; simp
@[go_sem] theorem fa27_2 : fieldAddrD Go.Proofs.Try.prog 27 (.addr id off) 2 K = K (.addr id (off + 2)) := by
  rw [fa_addr (by rw [fo27_2]; rfl)]; simp only [fo27_2, Option.getD_some, hT3, sz3, true_and]; simp
@[go_sem] theorem fe27_2 : fieldAddrD Go.Proofs.Try.prog 27 (.elemP cs off) 2 K = K (.elemP cs (off + 2)) := by
  rw [fa_elem (by rw [fo27_2]; rfl)]; simp only [fo27_2, Option.getD_some, hT3, sz3, true_and]; simp
@[go_sem] theorem fa28_0 : fieldAddrD Go.Proofs.Try.prog 28 (.addr id off) 0 K = K (.addr id (off + 0)) := by
  rw [fa_addr (by rw [fo28_0]; rfl)]; simp only [fo28_0, Option.getD_some, hT3, sz3, true_and]; simp
@[go_sem] theorem fe28_0 : fieldAddrD Go.Proofs.Try.prog 28 (.elemP cs off) 0 K = K (.elemP cs (off + 0)) := by
  rw [fa_elem (by rw [fo28_0]; rfl)]; simp only [fo28_0, Option.getD_some, hT3, sz3, true_and]; simp
@[go_sem] theorem fa28_1 : fieldAddrD Go.Proofs.Try.prog 28 (.addr id off) 1 K = K (.addr id (off + 1)) := by
  rw [fa_addr (by rw [fo28_1]; rfl)]; simp only [fo28_1, Option.getD_some, hT3, sz3, true_and]; simp
@[go_sem] theorem fe28_1 : fieldAddrD Go.Proofs.Try.prog 28 (.elemP cs off) 1 K = K (.elemP cs (off + 1)) := by
  rw [fa_elem (by rw [fo28_1]; rfl)]; simp only [fo28_1, Option.getD_some, hT3, sz3, true_and]; simp
@[go_sem] theorem fa28_2 : fieldAddrD Go.Proofs.Try.prog 28 (.addr id off) 2 K = K (.addr id (off + 2)) := by
  rw [fa_addr (by rw [fo28_2]; rfl)]; simp only [fo28_2, Option.getD_some, hT3, sz3, true_and]; simp
@[go_sem] theorem fe28_2 : fieldAddrD Go.Proofs.Try.prog 28 (.elemP cs off) 2 K = K (.elemP cs (off + 2)) := by
  rw [fa_elem (by rw [fo28_2]; rfl)]; simp only [fo28_2, Option.getD_some, hT3, sz3, true_and]; simp
@[go_sem] theorem ld29 : loadD Go.Proofs.Try.prog σ 29 (.addr id off) K = ldM (σ id) off K := ldA hT29 ag29
@[go_sem] theorem le29 : loadD Go.Proofs.Try.prog σ 29 (.elemP cs off) K = (∃ v, cs[off]? = some v ∧ K (.pv v)) := load_elem hT29 ag29
@[go_sem] theorem stp29 : storeD Go.Proofs.Try.prog σ 29 (.addr id off) (.pv p) KS = stM σ id (σ id) off (.pv p) KS := stA hT29 sz29 rfl rfl
@[go_sem] theorem ld30 : loadD Go.Proofs.Try.prog σ 30 (.addr id off) K = ldM (σ id) off K := ldA hT30 ag30
@[go_sem] theorem le30 : loadD Go.Proofs.Try.prog σ 30 (.elemP cs off) K = (∃ v, cs[off]? = some v ∧ K (.pv v)) := load_elem hT30 ag30
@[go_sem] theorem stp30 : storeD Go.Proofs.Try.prog σ 30 (.addr id off) (.pv p) KS = stM σ id (σ id) off (.pv p) KS := stA hT30 sz30 rfl rfl
@[go_sem] theorem ld31 : loadD Go.Proofs.Try.prog σ 31 (.addr id off) K = ldM (σ id) off K := ldA hT31 ag31
@[go_sem] theorem le31 : loadD Go.Proofs.Try.prog σ 31 (.elemP cs off) K = (∃ v, cs[off]? = some v ∧ K (.pv v)) := load_elem hT31 ag31
@[go_sem] theorem stp31 : storeD Go.Proofs.Try.prog σ 31 (.addr id off) (.pv p) KS = stM σ id (σ id) off (.pv p) KS := stA hT31 sz31 rfl rfl
@[go_sem] theorem ld32 : loadD Go.Proofs.Try.prog σ 32 (.addr id off) K = ldM (σ id) off K := ldA hT32 ag32
@[go_sem] theorem le32 : loadD Go.Proofs.Try.prog σ 32 (.elemP cs off) K = (∃ v, cs[off]? = some v ∧ K (.pv v)) := load_elem hT32 ag32
@[go_sem] theorem stp32 : storeD Go.Proofs.Try.prog σ 32 (.addr id off) (.pv p) KS = stM σ id (σ id) off (.pv p) KS := stA hT32 sz32 rfl rfl
@[go_sem] theorem ld33 : loadD Go.Proofs.Try.prog σ 33 (.addr id off) K = ldM (σ id) off K := ldA hT33 ag33
@[go_sem] theorem le33 : loadD Go.Proofs.Try.prog σ 33 (.elemP cs off) K = (∃ v, cs[off]? = some v ∧ K (.pv v)) := load_elem hT33 ag33
@[go_sem] theorem stp33 : storeD Go.Proofs.Try.prog σ 33 (.addr id off) (.pv p) KS = stM σ id (σ id) off (.pv p) KS := stA hT33 sz33 rfl rfl
@[go_sem] theorem ld34 : loadD Go.Proofs.Try.prog σ 34 (.addr id off) K = ldM (σ id) off K := ldA hT34 ag34
@[go_sem] theorem le34 : loadD Go.Proofs.Try.prog σ 34 (.elemP cs off) K = (∃ v, cs[off]? = some v ∧ K (.pv v)) := load_elem hT34 ag34
@[go_sem] theorem stp34 : storeD Go.Proofs.Try.prog σ 34 (.addr id off) (.pv p) KS = stM σ id (σ id) off (.pv p) KS := stA hT34 sz34 rfl rfl
@[go_sem] theorem ld35 : loadD Go.Proofs.Try.prog σ 35 (.addr id off) K = ldM (σ id) off K := ldA hT35 ag35
@[go_sem] theorem le35 : loadD Go.Proofs.Try.prog σ 35 (.elemP cs off) K = (∃ v, cs[off]? = some v ∧ K (.pv v)) := load_elem hT35 ag35
@[go_sem] theorem stp35 : storeD Go.Proofs.Try.prog σ 35 (.addr id off) (.pv p) KS = stM σ id (σ id) off (.pv p) KS := stA hT35 sz35 rfl rfl
@[go_sem] theorem ld36 : loadD Go.Proofs.Try.prog σ 36 (.addr id off) K = ldM (σ id) off K := ldA hT36 ag36
@[go_sem] theorem le36 : loadD Go.Proofs.Try.prog σ 36 (.elemP cs off) K = (∃ v, cs[off]? = some v ∧ K (.pv v)) := load_elem hT36 ag36
@[go_sem] theorem stp36 : storeD Go.Proofs.Try.prog σ 36 (.addr id off) (.pv p) KS = stM σ id (σ id) off (.pv p) KS := stA hT36 sz36 rfl rfl
theorem stv36 {v : AV} (hv : v.cells = [v]) (h2 : v.cellOk = true) : storeD Go.Proofs.Try.prog σ 36 (.addr id off) v KS = stM σ id (σ id) off v KS := stA hT36 sz36 hv h2
@[go_sem] theorem lnl36 : lenD Go.Proofs.Try.prog 36 (.pv (.lst n cs)) K = K (.pv (.int .i64 n)) := len_lst (by rw [el36]; rfl)
@[go_sem] theorem lng36 : lenD Go.Proofs.Try.prog 36 (.grow id n cs) K = K (.pv (.int .i64 n)) := len_grow (by rw [el36]; rfl)
@[go_sem] theorem lnf36 : lenD Go.Proofs.Try.prog 36 (.full n cs) K = K (.pv (.int .i64 n)) := len_full (by rw [el36]; rfl)
@[go_sem] theorem lnm36 : lenD Go.Proofs.Try.prog 36 (.msl id off n size) K = K (.pv (.int .i64 n)) := len_msl (by rw [el36]; rfl)
@[go_sem] theorem lnn36 : lenD Go.Proofs.Try.prog 36 .nilS K = K (.pv (.int .i64 0)) := len_nil (by rw [el36]; rfl)
theorem lnv36 {v : AV} (h : toPV v = some (.lst n cs)) : lenD Go.Proofs.Try.prog 36 v K = K (.pv (.int .i64 n)) := len_of (by rw [el36]; rfl) h
theorem ixm36 (h : i < n) : indexAddrD Go.Proofs.Try.prog 36 (.msl id off n size) (.pv (.int k i)) K = K (.addr id (off + i * 3)) := by
  rw [ix_msl (by rw [el36]; rfl)]; simp only [el36, Option.getD_some, iS42, sz42, Int.toNat_natCast, true_and]; simp [h]
theorem ixl36 (h : i < n) (hl : cs.length = n * 3) : indexAddrD Go.Proofs.Try.prog 36 (.pv (.lst n cs)) (.pv (.int k i)) K = K (.elemP cs (i * 3)) := by
  rw [ix_lst (by rw [el36]; rfl)]; simp only [el36, Option.getD_some, iS42, sz42, Int.toNat_natCast, true_and]; simp [h, hl]
theorem ixv36 {v : AV} (hv : toPV v = some (.lst n cs)) (h : i < n) (hl : cs.length = n * 3) (hK : K (.elemP cs (i * 3))) : indexAddrD Go.Proofs.Try.prog 36 v (.pv (.int k i)) K := by
  refine ix_of (by rw [el36]; rfl) hv (by rw [el36]; exact iS42) (by rw [el36, Option.getD_some, sz42, hl]; exact Nat.le_refl _) (by rw [el36, Option.getD_some, sz42]; decide) (by omega) (by omega) ?_
  rw [el36, Option.getD_some, sz42, Int.toNat_natCast]; exact hK
@[go_sem] theorem ld37 : loadD Go.Proofs.Try.prog σ 37 (.addr id off) K = ldM (σ id) off K := ldA hT37 ag37
@[go_sem] theorem le37 : loadD Go.Proofs.Try.prog σ 37 (.elemP cs off) K = (∃ v, cs[off]? = some v ∧ K (.pv v)) := load_elem hT37 ag37
@[go_sem] theorem stp37 : storeD Go.Proofs.Try.prog σ 37 (.addr id off) (.pv p) KS = stM σ id (σ id) off (.pv p) KS := stA hT37 sz37 rfl rfl
@[go_sem] theorem ld38 : loadD Go.Proofs.Try.prog σ 38 (.addr id off) K = ldM (σ id) off K := ldA hT38 ag38
@[go_sem] theorem le38 : loadD Go.Proofs.Try.prog σ 38 (.elemP cs off) K = (∃ v, cs[off]? = some v ∧ K (.pv v)) := load_elem hT38 ag38
@[go_sem] theorem stp38 : storeD Go.Proofs.Try.prog σ 38 (.addr id off) (.pv p) KS = stM σ id (σ id) off (.pv p) KS := stA hT38 sz38 rfl rfl
@[go_sem] theorem ld39 : loadD Go.Proofs.Try.prog σ 39 (.addr id off) K = ldM (σ id) off K := ldA hT39 ag39
@[go_sem] theorem le39 : loadD Go.Proofs.Try.prog σ 39 (.elemP cs off) K = (∃ v, cs[off]? = some v ∧ K (.pv v)) := load_elem hT39 ag39
@[go_sem] theorem stp39 : storeD Go.Proofs.Try.prog σ 39 (.addr id off) (.pv p) KS = stM σ id (σ id) off (.pv p) KS := stA hT39 sz39 rfl rfl
@[go_sem] theorem ld40 : loadD Go.Proofs.Try.prog σ 40 (.addr id off) K = ldM (σ id) off K := ldA hT40 ag40
@[go_sem] theorem le40 : loadD Go.Proofs.Try.prog σ 40 (.elemP cs off) K = (∃ v, cs[off]? = some v ∧ K (.pv v)) := load_elem hT40 ag40
@[go_sem] theorem stp40 : storeD Go.Proofs.Try.prog σ 40 (.addr id off) (.pv p) KS = stM σ id (σ id) off (.pv p) KS := stA hT40 sz40 rfl rfl
@[go_sem] theorem fa41_0 : fieldAddrD Go.Proofs.Try.prog 41 (.addr id off) 0 K = K (.addr id (off + 0)) := by
  rw [fa_addr (by rw [fo41_0]; rfl)]; simp only [fo41_0, Option.getD_some, hT9, sz9, true_and]; simp
@[go_sem] theorem fe41_0 : fieldAddrD Go.Proofs.Try.prog 41 (.elemP cs off) 0 K = K (.elemP cs (off + 0)) := by
  rw [fa_elem (by rw [fo41_0]; rfl)]; simp only [fo41_0, Option.getD_some, hT9, sz9, true_and]; simp
@[go_sem] theorem fa41_1 : fieldAddrD Go.Proofs.Try.prog 41 (.addr id off) 1 K = K (.addr id (off + 1)) := by
  rw [fa_addr (by rw [fo41_1]; rfl)]; simp only [fo41_1, Option.getD_some, hT3, sz3, true_and]; simp
@[go_sem] theorem fe41_1 : fieldAddrD Go.Proofs.Try.prog 41 (.elemP cs off) 1 K = K (.elemP cs (off + 1)) := by
  rw [fa_elem (by rw [fo41_1]; rfl)]; simp only [fo41_1, Option.getD_some, hT3, sz3, true_and]; simp
@[go_sem] theorem fa41_2 : fieldAddrD Go.Proofs.Try.prog 41 (.addr id off) 2 K = K (.addr id (off + 2)) := by
  rw [fa_addr (by rw [fo41_2]; rfl)]; simp only [fo41_2, Option.getD_some, hT3, sz3, true_and]; simp
@[go_sem] theorem fe41_2 : fieldAddrD Go.Proofs.Try.prog 41 (.elemP cs off) 2 K = K (.elemP cs (off + 2)) := by
  rw [fa_elem (by rw [fo41_2]; rfl)]; simp only [fo41_2, Option.getD_some, hT3, sz3, true_and]; simp
@[go_sem] theorem fa42_0 : fieldAddrD Go.Proofs.Try.prog 42 (.addr id off) 0 K = K (.addr id (off + 0)) := by
  rw [fa_addr (by rw [fo42_0]; rfl)]; simp only [fo42_0, Option.getD_some, hT9, sz9, true_and]; simp
@[go_sem] theorem fe42_0 : fieldAddrD Go.Proofs.Try.prog 42 (.elemP cs off) 0 K = K (.elemP cs (off + 0)) := by
  rw [fa_elem (by rw [fo42_0]; rfl)]; simp only [fo42_0, Option.getD_some, hT9, sz9, true_and]; simp
@[go_sem] theorem fa42_1 : fieldAddrD Go.Proofs.Try.prog 42 (.addr id off) 1 K = K (.addr id (off + 1)) := by
  rw [fa_addr (by rw [fo42_1]; rfl)]; simp only [fo42_1, Option.getD_some, hT3, sz3, true_and]; simp
@[go_sem] theorem fe42_1 : fieldAddrD Go.Proofs.Try.prog 42 (.elemP cs off) 1 K = K (.elemP cs (off + 1)) := by
  rw [fa_elem (by rw [fo42_1]; rfl)]; simp only [fo42_1, Option.getD_some, hT3, sz3, true_and]; simp
@[go_sem] theorem fa42_2 : fieldAddrD Go.Proofs.Try.prog 42 (.addr id off) 2 K = K (.addr id (off + 2)) := by
  rw [fa_addr (by rw [fo42_2]; rfl)]; simp only [fo42_2, Option.getD_some, hT3, sz3, true_and]; simp
@[go_sem] theorem fe42_2 : fieldAddrD Go.Proofs.Try.prog 42 (.elemP cs off) 2 K = K (.elemP cs (off + 2)) := by
  rw [fa_elem (by rw [fo42_2]; rfl)]; simp only [fo42_2, Option.getD_some, hT3, sz3, true_and]; simp
@[go_sem] theorem ld43 : loadD Go.Proofs.Try.prog σ 43 (.addr id off) K = ldM (σ id) off K := ldA hT43 ag43
@[go_sem] theorem le43 : loadD Go.Proofs.Try.prog σ 43 (.elemP cs off) K = (∃ v, cs[off]? = some v ∧ K (.pv v)) := load_elem hT43 ag43
@[go_sem] theorem stp43 : storeD Go.Proofs.Try.prog σ 43 (.addr id off) (.pv p) KS = stM σ id (σ id) off (.pv p) KS := stA hT43 sz43 rfl rfl
@[go_sem] theorem ld44 : loadD Go.Proofs.Try.prog σ 44 (.addr id off) K = ldM (σ id) off K := ldA hT44 ag44
@[go_sem] theorem le44 : loadD Go.Proofs.Try.prog σ 44 (.elemP cs off) K = (∃ v, cs[off]? = some v ∧ K (.pv v)) := load_elem hT44 ag44
@[go_sem] theorem stp44 : storeD Go.Proofs.Try.prog σ 44 (.addr id off) (.pv p) KS = stM σ id (σ id) off (.pv p) KS := stA hT44 sz44 rfl rfl
@[go_sem] theorem ld45 : loadD Go.Proofs.Try.prog σ 45 (.addr id off) K = ldM (σ id) off K := ldA hT45 ag45
@[go_sem] theorem le45 : loadD Go.Proofs.Try.prog σ 45 (.elemP cs off) K = (∃ v, cs[off]? = some v ∧ K (.pv v)) := load_elem hT45 ag45
@[go_sem] theorem stp45 : storeD Go.Proofs.Try.prog σ 45 (.addr id off) (.pv p) KS = stM σ id (σ id) off (.pv p) KS := stA hT45 sz45 rfl rfl
theorem stv45 {v : AV} (hv : v.cells = [v]) (h2 : v.cellOk = true) : storeD Go.Proofs.Try.prog σ 45 (.addr id off) v KS = stM σ id (σ id) off v KS := stA hT45 sz45 hv h2
@[go_sem] theorem lnl45 : lenD Go.Proofs.Try.prog 45 (.pv (.lst n cs)) K = K (.pv (.int .i64 n)) := len_lst (by rw [el45]; rfl)
@[go_sem] theorem lng45 : lenD Go.Proofs.Try.prog 45 (.grow id n cs) K = K (.pv (.int .i64 n)) := len_grow (by rw [el45]; rfl)
@[go_sem] theorem lnf45 : lenD Go.Proofs.Try.prog 45 (.full n cs) K = K (.pv (.int .i64 n)) := len_full (by rw [el45]; rfl)
@[go_sem] theorem lnm45 : lenD Go.Proofs.Try.prog 45 (.msl id off n size) K = K (.pv (.int .i64 n)) := len_msl (by rw [el45]; rfl)
@[go_sem] theorem lnn45 : lenD Go.Proofs.Try.prog 45 .nilS K = K (.pv (.int .i64 0)) := len_nil (by rw [el45]; rfl)
theorem lnv45 {v : AV} (h : toPV v = some (.lst n cs)) : lenD Go.Proofs.Try.prog 45 v K = K (.pv (.int .i64 n)) := len_of (by rw [el45]; rfl) h
theorem ixm45 (h : i < n) : indexAddrD Go.Proofs.Try.prog 45 (.msl id off n size) (.pv (.int k i)) K = K (.addr id (off + i * 1)) := by
  rw [ix_msl (by rw [el45]; rfl)]; simp only [el45, Option.getD_some, iS5, sz5, Int.toNat_natCast, true_and]; simp [h]
theorem ixl45 (h : i < n) (hl : cs.length = n * 1) : indexAddrD Go.Proofs.Try.prog 45 (.pv (.lst n cs)) (.pv (.int k i)) K = K (.elemP cs (i * 1)) := by
  rw [ix_lst (by rw [el45]; rfl)]; simp only [el45, Option.getD_some, iS5, sz5, Int.toNat_natCast, true_and]; simp [h, hl]
theorem ixv45 {v : AV} (hv : toPV v = some (.lst n cs)) (h : i < n) (hl : cs.length = n * 1) (hK : K (.elemP cs (i * 1))) : indexAddrD Go.Proofs.Try.prog 45 v (.pv (.int k i)) K := by
  refine ix_of (by rw [el45]; rfl) hv (by rw [el45]; exact iS5) (by rw [el45, Option.getD_some, sz5, hl]; exact Nat.le_refl _) (by rw [el45, Option.getD_some, sz5]; decide) (by omega) (by omega) ?_
  rw [el45, Option.getD_some, sz5, Int.toNat_natCast]; exact hK
@[go_sem] theorem ld46 : loadD Go.Proofs.Try.prog σ 46 (.addr id off) K = ldM (σ id) off K := ldA hT46 ag46
@[go_sem] theorem le46 : loadD Go.Proofs.Try.prog σ 46 (.elemP cs off) K = (∃ v, cs[off]? = some v ∧ K (.pv v)) := load_elem hT46 ag46
@[go_sem] theorem stp46 : storeD Go.Proofs.Try.prog σ 46 (.addr id off) (.pv p) KS = stM σ id (σ id) off (.pv p) KS := stA hT46 sz46 rfl rfl
@[go_sem] theorem ld47 : loadD Go.Proofs.Try.prog σ 47 (.addr id off) K = ldM (σ id) off K := ldA hT47 ag47
@[go_sem] theorem le47 : loadD Go.Proofs.Try.prog σ 47 (.elemP cs off) K = (∃ v, cs[off]? = some v ∧ K (.pv v)) := load_elem hT47 ag47
@[go_sem] theorem stp47 : storeD Go.Proofs.Try.prog σ 47 (.addr id off) (.pv p) KS = stM σ id (σ id) off (.pv p) KS := stA hT47 sz47 rfl rfl
@[go_sem] theorem sta47 {j o : Nat} : storeD Go.Proofs.Try.prog σ 47 (.addr id off) (.addr j o) KS = stM σ id (σ id) off (.addr j o) KS := stA hT47 sz47 rfl rfl
@[go_sem] theorem fa48_0 : fieldAddrD Go.Proofs.Try.prog 48 (.addr id off) 0 K = K (.addr id (off + 0)) := by
  rw [fa_addr (by rw [fo48_0]; rfl)]; simp only [fo48_0, Option.getD_some, hT47, sz47, true_and]; simp
@[go_sem] theorem fe48_0 : fieldAddrD Go.Proofs.Try.prog 48 (.elemP cs off) 0 K = K (.elemP cs (off + 0)) := by
  rw [fa_elem (by rw [fo48_0]; rfl)]; simp only [fo48_0, Option.getD_some, hT47, sz47, true_and]; simp
@[go_sem] theorem fa48_1 : fieldAddrD Go.Proofs.Try.prog 48 (.addr id off) 1 K = K (.addr id (off + 1)) := by
  rw [fa_addr (by rw [fo48_1]; rfl)]; simp only [fo48_1, Option.getD_some, hT45, sz45, true_and]; simp
@[go_sem] theorem fe48_1 : fieldAddrD Go.Proofs.Try.prog 48 (.elemP cs off) 1 K = K (.elemP cs (off + 1)) := by
  rw [fa_elem (by rw [fo48_1]; rfl)]; simp only [fo48_1, Option.getD_some, hT45, sz45, true_and]; simp
@[go_sem] theorem fa49_0 : fieldAddrD Go.Proofs.Try.prog 49 (.addr id off) 0 K = K (.addr id (off + 0)) := by
  rw [fa_addr (by rw [fo49_0]; rfl)]; simp only [fo49_0, Option.getD_some, hT47, sz47, true_and]; simp
@[go_sem] theorem fe49_0 : fieldAddrD Go.Proofs.Try.prog 49 (.elemP cs off) 0 K = K (.elemP cs (off + 0)) := by
  rw [fa_elem (by rw [fo49_0]; rfl)]; simp only [fo49_0, Option.getD_some, hT47, sz47, true_and]; simp
@[go_sem] theorem fa49_1 : fieldAddrD Go.Proofs.Try.prog 49 (.addr id off) 1 K = K (.addr id (off + 1)) := by
  rw [fa_addr (by rw [fo49_1]; rfl)]; simp only [fo49_1, Option.getD_some, hT45, sz45, true_and]; simp
@[go_sem] theorem fe49_1 : fieldAddrD Go.Proofs.Try.prog 49 (.elemP cs off) 1 K = K (.elemP cs (off + 1)) := by
  rw [fa_elem (by rw [fo49_1]; rfl)]; simp only [fo49_1, Option.getD_some, hT45, sz45, true_and]; simp
@[go_sem] theorem ld50 : loadD Go.Proofs.Try.prog σ 50 (.addr id off) K = ldM (σ id) off K := ldA hT50 ag50
@[go_sem] theorem le50 : loadD Go.Proofs.Try.prog σ 50 (.elemP cs off) K = (∃ v, cs[off]? = some v ∧ K (.pv v)) := load_elem hT50 ag50
@[go_sem] theorem stp50 : storeD Go.Proofs.Try.prog σ 50 (.addr id off) (.pv p) KS = stM σ id (σ id) off (.pv p) KS := stA hT50 sz50 rfl rfl
@[go_sem] theorem ld51 : loadD Go.Proofs.Try.prog σ 51 (.addr id off) K = ldM (σ id) off K := ldA hT51 ag51
@[go_sem] theorem le51 : loadD Go.Proofs.Try.prog σ 51 (.elemP cs off) K = (∃ v, cs[off]? = some v ∧ K (.pv v)) := load_elem hT51 ag51
@[go_sem] theorem stp51 : storeD Go.Proofs.Try.prog σ 51 (.addr id off) (.pv p) KS = stM σ id (σ id) off (.pv p) KS := stA hT51 sz51 rfl rfl
@[go_sem] theorem ld52 : loadD Go.Proofs.Try.prog σ 52 (.addr id off) K = ldM (σ id) off K := ldA hT52 ag52
@[go_sem] theorem le52 : loadD Go.Proofs.Try.prog σ 52 (.elemP cs off) K = (∃ v, cs[off]? = some v ∧ K (.pv v)) := load_elem hT52 ag52
@[go_sem] theorem stp52 : storeD Go.Proofs.Try.prog σ 52 (.addr id off) (.pv p) KS = stM σ id (σ id) off (.pv p) KS := stA hT52 sz52 rfl rfl
@[go_sem] theorem ld53 : loadD Go.Proofs.Try.prog σ 53 (.addr id off) K = ldM (σ id) off K := ldA hT53 ag53
@[go_sem] theorem le53 : loadD Go.Proofs.Try.prog σ 53 (.elemP cs off) K = (∃ v, cs[off]? = some v ∧ K (.pv v)) := load_elem hT53 ag53
@[go_sem] theorem stp53 : storeD Go.Proofs.Try.prog σ 53 (.addr id off) (.pv p) KS = stM σ id (σ id) off (.pv p) KS := stA hT53 sz53 rfl rfl
@[go_sem] theorem ld54 : loadD Go.Proofs.Try.prog σ 54 (.addr id off) K = ldM (σ id) off K := ldA hT54 ag54
@[go_sem] theorem le54 : loadD Go.Proofs.Try.prog σ 54 (.elemP cs off) K = (∃ v, cs[off]? = some v ∧ K (.pv v)) := load_elem hT54 ag54
@[go_sem] theorem stp54 : storeD Go.Proofs.Try.prog σ 54 (.addr id off) (.pv p) KS = stM σ id (σ id) off (.pv p) KS := stA hT54 sz54 rfl rfl
@[go_sem] theorem ld55 : loadD Go.Proofs.Try.prog σ 55 (.addr id off) K = ldM (σ id) off K := ldA hT55 ag55
@[go_sem] theorem le55 : loadD Go.Proofs.Try.prog σ 55 (.elemP cs off) K = (∃ v, cs[off]? = some v ∧ K (.pv v)) := load_elem hT55 ag55
@[go_sem] theorem stp55 : storeD Go.Proofs.Try.prog σ 55 (.addr id off) (.pv p) KS = stM σ id (σ id) off (.pv p) KS := stA hT55 sz55 rfl rfl
@[go_sem] theorem ld56 : loadD Go.Proofs.Try.prog σ 56 (.addr id off) K = ldM (σ id) off K := ldA hT56 ag56
@[go_sem] theorem le56 : loadD Go.Proofs.Try.prog σ 56 (.elemP cs off) K = (∃ v, cs[off]? = some v ∧ K (.pv v)) := load_elem hT56 ag56
@[go_sem] theorem stp56 : storeD Go.Proofs.Try.prog σ 56 (.addr id off) (.pv p) KS = stM σ id (σ id) off (.pv p) KS := stA hT56 sz56 rfl rfl
@[go_sem] theorem ld57 : loadD Go.Proofs.Try.prog σ 57 (.addr id off) K = ldM (σ id) off K := ldA hT57 ag57
@[go_sem] theorem le57 : loadD Go.Proofs.Try.prog σ 57 (.elemP cs off) K = (∃ v, cs[off]? = some v ∧ K (.pv v)) := load_elem hT57 ag57
@[go_sem] theorem stp57 : storeD Go.Proofs.Try.prog σ 57 (.addr id off) (.pv p) KS = stM σ id (σ id) off (.pv p) KS := stA hT57 sz57 rfl rfl
@[go_sem] theorem ld58 : loadD Go.Proofs.Try.prog σ 58 (.addr id off) K = ldM (σ id) off K := ldA hT58 ag58
@[go_sem] theorem le58 : loadD Go.Proofs.Try.prog σ 58 (.elemP cs off) K = (∃ v, cs[off]? = some v ∧ K (.pv v)) := load_elem hT58 ag58
@[go_sem] theorem stp58 : storeD Go.Proofs.Try.prog σ 58 (.addr id off) (.pv p) KS = stM σ id (σ id) off (.pv p) KS := stA hT58 sz58 rfl rfl
@[go_sem] theorem ld59 : loadD Go.Proofs.Try.prog σ 59 (.addr id off) K = ldM (σ id) off K := ldA hT59 ag59
@[go_sem] theorem le59 : loadD Go.Proofs.Try.prog σ 59 (.elemP cs off) K = (∃ v, cs[off]? = some v ∧ K (.pv v)) := load_elem hT59 ag59
@[go_sem] theorem stp59 : storeD Go.Proofs.Try.prog σ 59 (.addr id off) (.pv p) KS = stM σ id (σ id) off (.pv p) KS := stA hT59 sz59 rfl rfl
@[go_sem] theorem ld60 : loadD Go.Proofs.Try.prog σ 60 (.addr id off) K = ldM (σ id) off K := ldA hT60 ag60
@[go_sem] theorem le60 : loadD Go.Proofs.Try.prog σ 60 (.elemP cs off) K = (∃ v, cs[off]? = some v ∧ K (.pv v)) := load_elem hT60 ag60
@[go_sem] theorem stp60 : storeD Go.Proofs.Try.prog σ 60 (.addr id off) (.pv p) KS = stM σ id (σ id) off (.pv p) KS := stA hT60 sz60 rfl rfl
@[go_sem] theorem ld61 : loadD Go.Proofs.Try.prog σ 61 (.addr id off) K = ldM (σ id) off K := ldA hT61 ag61
@[go_sem] theorem le61 : loadD Go.Proofs.Try.prog σ 61 (.elemP cs off) K = (∃ v, cs[off]? = some v ∧ K (.pv v)) := load_elem hT61 ag61
@[go_sem] theorem stp61 : storeD Go.Proofs.Try.prog σ 61 (.addr id off) (.pv p) KS = stM σ id (σ id) off (.pv p) KS := stA hT61 sz61 rfl rfl
@[go_sem] theorem ld62 : loadD Go.Proofs.Try.prog σ 62 (.addr id off) K = ldM (σ id) off K := ldA hT62 ag62
@[go_sem] theorem le62 : loadD Go.Proofs.Try.prog σ 62 (.elemP cs off) K = (∃ v, cs[off]? = some v ∧ K (.pv v)) := load_elem hT62 ag62
@[go_sem] theorem stp62 : storeD Go.Proofs.Try.prog σ 62 (.addr id off) (.pv p) KS = stM σ id (σ id) off (.pv p) KS := stA hT62 sz62 rfl rfl
@[go_sem] theorem ld63 : loadD Go.Proofs.Try.prog σ 63 (.addr id off) K = ldM (σ id) off K := ldA hT63 ag63
@[go_sem] theorem le63 : loadD Go.Proofs.Try.prog σ 63 (.elemP cs off) K = (∃ v, cs[off]? = some v ∧ K (.pv v)) := load_elem hT63 ag63
@[go_sem] theorem stp63 : storeD Go.Proofs.Try.prog σ 63 (.addr id off) (.pv p) KS = stM σ id (σ id) off (.pv p) KS := stA hT63 sz63 rfl rfl
@[go_sem] theorem ld64 : loadD Go.Proofs.Try.prog σ 64 (.addr id off) K = ldM (σ id) off K := ldA hT64 ag64
@[go_sem] theorem le64 : loadD Go.Proofs.Try.prog σ 64 (.elemP cs off) K = (∃ v, cs[off]? = some v ∧ K (.pv v)) := load_elem hT64 ag64
@[go_sem] theorem stp64 : storeD Go.Proofs.Try.prog σ 64 (.addr id off) (.pv p) KS = stM σ id (σ id) off (.pv p) KS := stA hT64 sz64 rfl rfl
@[go_sem] theorem ld65 : loadD Go.Proofs.Try.prog σ 65 (.addr id off) K = ldM (σ id) off K := ldA hT65 ag65
@[go_sem] theorem le65 : loadD Go.Proofs.Try.prog σ 65 (.elemP cs off) K = (∃ v, cs[off]? = some v ∧ K (.pv v)) := load_elem hT65 ag65
@[go_sem] theorem stp65 : storeD Go.Proofs.Try.prog σ 65 (.addr id off) (.pv p) KS = stM σ id (σ id) off (.pv p) KS := stA hT65 sz65 rfl rfl
@[go_sem] theorem sta65 {j o : Nat} : storeD Go.Proofs.Try.prog σ 65 (.addr id off) (.addr j o) KS = stM σ id (σ id) off (.addr j o) KS := stA hT65 sz65 rfl rfl
@[go_sem] theorem ld66 : loadD Go.Proofs.Try.prog σ 66 (.addr id off) K = ldM (σ id) off K := ldA hT66 ag66
@[go_sem] theorem le66 : loadD Go.Proofs.Try.prog σ 66 (.elemP cs off) K = (∃ v, cs[off]? = some v ∧ K (.pv v)) := load_elem hT66 ag66
@[go_sem] theorem stp66 : storeD Go.Proofs.Try.prog σ 66 (.addr id off) (.pv p) KS = stM σ id (σ id) off (.pv p) KS := stA hT66 sz66 rfl rfl
theorem stv66 {v : AV} (hv : v.cells = [v]) (h2 : v.cellOk = true) : storeD Go.Proofs.Try.prog σ 66 (.addr id off) v KS = stM σ id (σ id) off v KS := stA hT66 sz66 hv h2
@[go_sem] theorem lnl66 : lenD Go.Proofs.Try.prog 66 (.pv (.lst n cs)) K = K (.pv (.int .i64 n)) := len_lst (by rw [el66]; rfl)
@[go_sem] theorem lng66 : lenD Go.Proofs.Try.prog 66 (.grow id n cs) K = K (.pv (.int .i64 n)) := len_grow (by rw [el66]; rfl)
@[go_sem] theorem lnf66 : lenD Go.Proofs.Try.prog 66 (.full n cs) K = K (.pv (.int .i64 n)) := len_full (by rw [el66]; rfl)
@[go_sem] theorem lnm66 : lenD Go.Proofs.Try.prog 66 (.msl id off n size) K = K (.pv (.int .i64 n)) := len_msl (by rw [el66]; rfl)
@[go_sem] theorem lnn66 : lenD Go.Proofs.Try.prog 66 .nilS K = K (.pv (.int .i64 0)) := len_nil (by rw [el66]; rfl)
theorem lnv66 {v : AV} (h : toPV v = some (.lst n cs)) : lenD Go.Proofs.Try.prog 66 v K = K (.pv (.int .i64 n)) := len_of (by rw [el66]; rfl) h
theorem ixm66 (h : i < n) : indexAddrD Go.Proofs.Try.prog 66 (.msl id off n size) (.pv (.int k i)) K = K (.addr id (off + i * 1)) := by
  rw [ix_msl (by rw [el66]; rfl)]; simp only [el66, Option.getD_some, iS4, sz4, Int.toNat_natCast, true_and]; simp [h]
theorem ixl66 (h : i < n) (hl : cs.length = n * 1) : indexAddrD Go.Proofs.Try.prog 66 (.pv (.lst n cs)) (.pv (.int k i)) K = K (.elemP cs (i * 1)) := by
  rw [ix_lst (by rw [el66]; rfl)]; simp only [el66, Option.getD_some, iS4, sz4, Int.toNat_natCast, true_and]; simp [h, hl]
theorem ixv66 {v : AV} (hv : toPV v = some (.lst n cs)) (h : i < n) (hl : cs.length = n * 1) (hK : K (.elemP cs (i * 1))) : indexAddrD Go.Proofs.Try.prog 66 v (.pv (.int k i)) K := by
  refine ix_of (by rw [el66]; rfl) hv (by rw [el66]; exact iS4) (by rw [el66, Option.getD_some, sz4, hl]; exact Nat.le_refl _) (by rw [el66, Option.getD_some, sz4]; decide) (by omega) (by omega) ?_
  rw [el66, Option.getD_some, sz4, Int.toNat_natCast]; exact hK
@[go_sem] theorem ld67 : loadD Go.Proofs.Try.prog σ 67 (.addr id off) K = ldM (σ id) off K := ldA hT67 ag67
@[go_sem] theorem le67 : loadD Go.Proofs.Try.prog σ 67 (.elemP cs off) K = (∃ v, cs[off]? = some v ∧ K (.pv v)) := load_elem hT67 ag67
@[go_sem] theorem stp67 : storeD Go.Proofs.Try.prog σ 67 (.addr id off) (.pv p) KS = stM σ id (σ id) off (.pv p) KS := stA hT67 sz67 rfl rfl
@[go_sem] theorem sta67 {j o : Nat} : storeD Go.Proofs.Try.prog σ 67 (.addr id off) (.addr j o) KS = stM σ id (σ id) off (.addr j o) KS := stA hT67 sz67 rfl rfl
@[go_sem] theorem ld68 : loadD Go.Proofs.Try.prog σ 68 (.addr id off) K = ldM (σ id) off K := ldA hT68 ag68
@[go_sem] theorem le68 : loadD Go.Proofs.Try.prog σ 68 (.elemP cs off) K = (∃ v, cs[off]? = some v ∧ K (.pv v)) := load_elem hT68 ag68
@[go_sem] theorem stp68 : storeD Go.Proofs.Try.prog σ 68 (.addr id off) (.pv p) KS = stM σ id (σ id) off (.pv p) KS := stA hT68 sz68 rfl rfl
@[go_sem] theorem fa69_0 : fieldAddrD Go.Proofs.Try.prog 69 (.addr id off) 0 K = K (.addr id (off + 0)) := by
  rw [fa_addr (by rw [fo69_0]; rfl)]; simp only [fo69_0, Option.getD_some, hT22, sz22, true_and]; simp
@[go_sem] theorem fe69_0 : fieldAddrD Go.Proofs.Try.prog 69 (.elemP cs off) 0 K = K (.elemP cs (off + 0)) := by
  rw [fa_elem (by rw [fo69_0]; rfl)]; simp only [fo69_0, Option.getD_some, hT22, sz22, true_and]; simp
@[go_sem] theorem fa69_1 : fieldAddrD Go.Proofs.Try.prog 69 (.addr id off) 1 K = K (.addr id (off + 1)) := by
  rw [fa_addr (by rw [fo69_1]; rfl)]; simp only [fo69_1, Option.getD_some, hT22, sz22, true_and]; simp
@[go_sem] theorem fe69_1 : fieldAddrD Go.Proofs.Try.prog 69 (.elemP cs off) 1 K = K (.elemP cs (off + 1)) := by
  rw [fa_elem (by rw [fo69_1]; rfl)]; simp only [fo69_1, Option.getD_some, hT22, sz22, true_and]; simp
@[go_sem] theorem fa69_2 : fieldAddrD Go.Proofs.Try.prog 69 (.addr id off) 2 K = K (.addr id (off + 2)) := by
  rw [fa_addr (by rw [fo69_2]; rfl)]; simp only [fo69_2, Option.getD_some, hT22, sz22, true_and]; simp
@[go_sem] theorem fe69_2 : fieldAddrD Go.Proofs.Try.prog 69 (.elemP cs off) 2 K = K (.elemP cs (off + 2)) := by
  rw [fa_elem (by rw [fo69_2]; rfl)]; simp only [fo69_2, Option.getD_some, hT22, sz22, true_and]; simp
@[go_sem] theorem fa69_3 : fieldAddrD Go.Proofs.Try.prog 69 (.addr id off) 3 K = K (.addr id (off + 3)) := by
  rw [fa_addr (by rw [fo69_3]; rfl)]; simp only [fo69_3, Option.getD_some, hT66, sz66, true_and]; simp
@[go_sem] theorem fe69_3 : fieldAddrD Go.Proofs.Try.prog 69 (.elemP cs off) 3 K = K (.elemP cs (off + 3)) := by
  rw [fa_elem (by rw [fo69_3]; rfl)]; simp only [fo69_3, Option.getD_some, hT66, sz66, true_and]; simp
@[go_sem] theorem fa69_4 : fieldAddrD Go.Proofs.Try.prog 69 (.addr id off) 4 K = K (.addr id (off + 4)) := by
  rw [fa_addr (by rw [fo69_4]; rfl)]; simp only [fo69_4, Option.getD_some, hT22, sz22, true_and]; simp
@[go_sem] theorem fe69_4 : fieldAddrD Go.Proofs.Try.prog 69 (.elemP cs off) 4 K = K (.elemP cs (off + 4)) := by
  rw [fa_elem (by rw [fo69_4]; rfl)]; simp only [fo69_4, Option.getD_some, hT22, sz22, true_and]; simp
@[go_sem] theorem fa69_5 : fieldAddrD Go.Proofs.Try.prog 69 (.addr id off) 5 K = K (.addr id (off + 5)) := by
  rw [fa_addr (by rw [fo69_5]; rfl)]; simp only [fo69_5, Option.getD_some, hT3, sz3, true_and]; simp
@[go_sem] theorem fe69_5 : fieldAddrD Go.Proofs.Try.prog 69 (.elemP cs off) 5 K = K (.elemP cs (off + 5)) := by
  rw [fa_elem (by rw [fo69_5]; rfl)]; simp only [fo69_5, Option.getD_some, hT3, sz3, true_and]; simp
@[go_sem] theorem fa69_6 : fieldAddrD Go.Proofs.Try.prog 69 (.addr id off) 6 K = K (.addr id (off + 6)) := by
  rw [fa_addr (by rw [fo69_6]; rfl)]; simp only [fo69_6, Option.getD_some, hT3, sz3, true_and]; simp
@[go_sem] theorem fe69_6 : fieldAddrD Go.Proofs.Try.prog 69 (.elemP cs off) 6 K = K (.elemP cs (off + 6)) := by
  rw [fa_elem (by rw [fo69_6]; rfl)]; simp only [fo69_6, Option.getD_some, hT3, sz3, true_and]; simp
@[go_sem] theorem fa69_7 : fieldAddrD Go.Proofs.Try.prog 69 (.addr id off) 7 K = K (.addr id (off + 7)) := by
  rw [fa_addr (by rw [fo69_7]; rfl)]; simp only [fo69_7, Option.getD_some, hT3, sz3, true_and]; simp
@[go_sem] theorem fe69_7 : fieldAddrD Go.Proofs.Try.prog 69 (.elemP cs off) 7 K = K (.elemP cs (off + 7)) := by
  rw [fa_elem (by rw [fo69_7]; rfl)]; simp only [fo69_7, Option.getD_some, hT3, sz3, true_and]; simp
@[go_sem] theorem fa69_8 : fieldAddrD Go.Proofs.Try.prog 69 (.addr id off) 8 K = K (.addr id (off + 8)) := by
  rw [fa_addr (by rw [fo69_8]; rfl)]; simp only [fo69_8, Option.getD_some, hT67, sz67, true_and]; simp
@[go_sem] theorem fe69_8 : fieldAddrD Go.Proofs.Try.prog 69 (.elemP cs off) 8 K = K (.elemP cs (off + 8)) := by
  rw [fa_elem (by rw [fo69_8]; rfl)]; simp only [fo69_8, Option.getD_some, hT67, sz67, true_and]; simp
@[go_sem] theorem fa69_9 : fieldAddrD Go.Proofs.Try.prog 69 (.addr id off) 9 K = K (.addr id (off + 9)) := by
  rw [fa_addr (by rw [fo69_9]; rfl)]; simp only [fo69_9, Option.getD_some, hT4, sz4, true_and]; simp
@[go_sem] theorem fe69_9 : fieldAddrD Go.Proofs.Try.prog 69 (.elemP cs off) 9 K = K (.elemP cs (off + 9)) := by
  rw [fa_elem (by rw [fo69_9]; rfl)]; simp only [fo69_9, Option.getD_some, hT4, sz4, true_and]; simp
@[go_sem] theorem fa70_0 : fieldAddrD Go.Proofs.Try.prog 70 (.addr id off) 0 K = K (.addr id (off + 0)) := by
  rw [fa_addr (by rw [fo70_0]; rfl)]; simp only [fo70_0, Option.getD_some, hT22, sz22, true_and]; simp
@[go_sem] theorem fe70_0 : fieldAddrD Go.Proofs.Try.prog 70 (.elemP cs off) 0 K = K (.elemP cs (off + 0)) := by
  rw [fa_elem (by rw [fo70_0]; rfl)]; simp only [fo70_0, Option.getD_some, hT22, sz22, true_and]; simp
@[go_sem] theorem fa70_1 : fieldAddrD Go.Proofs.Try.prog 70 (.addr id off) 1 K = K (.addr id (off + 1)) := by
  rw [fa_addr (by rw [fo70_1]; rfl)]; simp only [fo70_1, Option.getD_some, hT22, sz22, true_and]; simp
@[go_sem] theorem fe70_1 : fieldAddrD Go.Proofs.Try.prog 70 (.elemP cs off) 1 K = K (.elemP cs (off + 1)) := by
  rw [fa_elem (by rw [fo70_1]; rfl)]; simp only [fo70_1, Option.getD_some, hT22, sz22, true_and]; simp
@[go_sem] theorem fa70_2 : fieldAddrD Go.Proofs.Try.prog 70 (.addr id off) 2 K = K (.addr id (off + 2)) := by
  rw [fa_addr (by rw [fo70_2]; rfl)]; simp only [fo70_2, Option.getD_some, hT22, sz22, true_and]; simp
@[go_sem] theorem fe70_2 : fieldAddrD Go.Proofs.Try.prog 70 (.elemP cs off) 2 K = K (.elemP cs (off + 2)) := by
  rw [fa_elem (by rw [fo70_2]; rfl)]; simp only [fo70_2, Option.getD_some, hT22, sz22, true_and]; simp
@[go_sem] theorem fa70_3 : fieldAddrD Go.Proofs.Try.prog 70 (.addr id off) 3 K = K (.addr id (off + 3)) := by
  rw [fa_addr (by rw [fo70_3]; rfl)]; simp only [fo70_3, Option.getD_some, hT66, sz66, true_and]; simp
@[go_sem] theorem fe70_3 : fieldAddrD Go.Proofs.Try.prog 70 (.elemP cs off) 3 K = K (.elemP cs (off + 3)) := by
  rw [fa_elem (by rw [fo70_3]; rfl)]; simp only [fo70_3, Option.getD_some, hT66, sz66, true_and]; simp
@[go_sem] theorem fa70_4 : fieldAddrD Go.Proofs.Try.prog 70 (.addr id off) 4 K = K (.addr id (off + 4)) := by
  rw [fa_addr (by rw [fo70_4]; rfl)]; simp only [fo70_4, Option.getD_some, hT22, sz22, true_and]; simp
@[go_sem] theorem fe70_4 : fieldAddrD Go.Proofs.Try.prog 70 (.elemP cs off) 4 K = K (.elemP cs (off + 4)) := by
  rw [fa_elem (by rw [fo70_4]; rfl)]; simp only [fo70_4, Option.getD_some, hT22, sz22, true_and]; simp
@[go_sem] theorem fa70_5 : fieldAddrD Go.Proofs.Try.prog 70 (.addr id off) 5 K = K (.addr id (off + 5)) := by
  rw [fa_addr (by rw [fo70_5]; rfl)]; simp only [fo70_5, Option.getD_some, hT3, sz3, true_and]; simp
@[go_sem] theorem fe70_5 : fieldAddrD Go.Proofs.Try.prog 70 (.elemP cs off) 5 K = K (.elemP cs (off + 5)) := by
  rw [fa_elem (by rw [fo70_5]; rfl)]; simp only [fo70_5, Option.getD_some, hT3, sz3, true_and]; simp
@[go_sem] theorem fa70_6 : fieldAddrD Go.Proofs.Try.prog 70 (.addr id off) 6 K = K (.addr id (off + 6)) := by
  rw [fa_addr (by rw [fo70_6]; rfl)]; simp only [fo70_6, Option.getD_some, hT3, sz3, true_and]; simp
@[go_sem] theorem fe70_6 : fieldAddrD Go.Proofs.Try.prog 70 (.elemP cs off) 6 K = K (.elemP cs (off + 6)) := by
  rw [fa_elem (by rw [fo70_6]; rfl)]; simp only [fo70_6, Option.getD_some, hT3, sz3, true_and]; simp
@[go_sem] theorem fa70_7 : fieldAddrD Go.Proofs.Try.prog 70 (.addr id off) 7 K = K (.addr id (off + 7)) := by
  rw [fa_addr (by rw [fo70_7]; rfl)]; simp only [fo70_7, Option.getD_some, hT3, sz3, true_and]; simp
@[go_sem] theorem fe70_7 : fieldAddrD Go.Proofs.Try.prog 70 (.elemP cs off) 7 K = K (.elemP cs (off + 7)) := by
  rw [fa_elem (by rw [fo70_7]; rfl)]; simp only [fo70_7, Option.getD_some, hT3, sz3, true_and]; simp
@[go_sem] theorem fa70_8 : fieldAddrD Go.Proofs.Try.prog 70 (.addr id off) 8 K = K (.addr id (off + 8)) := by
  rw [fa_addr (by rw [fo70_8]; rfl)]; simp only [fo70_8, Option.getD_some, hT67, sz67, true_and]; simp
@[go_sem] theorem fe70_8 : fieldAddrD Go.Proofs.Try.prog 70 (.elemP cs off) 8 K = K (.elemP cs (off + 8)) := by
  rw [fa_elem (by rw [fo70_8]; rfl)]; simp only [fo70_8, Option.getD_some, hT67, sz67, true_and]; simp
@[go_sem] theorem fa70_9 : fieldAddrD Go.Proofs.Try.prog 70 (.addr id off) 9 K = K (.addr id (off + 9)) := by
  rw [fa_addr (by rw [fo70_9]; rfl)]; simp only [fo70_9, Option.getD_some, hT4, sz4, true_and]; simp
@[go_sem] theorem fe70_9 : fieldAddrD Go.Proofs.Try.prog 70 (.elemP cs off) 9 K = K (.elemP cs (off + 9)) := by
  rw [fa_elem (by rw [fo70_9]; rfl)]; simp only [fo70_9, Option.getD_some, hT4, sz4, true_and]; simp
@[go_sem] theorem ld71 : loadD Go.Proofs.Try.prog σ 71 (.addr id off) K = ldM (σ id) off K := ldA hT71 ag71
@[go_sem] theorem le71 : loadD Go.Proofs.Try.prog σ 71 (.elemP cs off) K = (∃ v, cs[off]? = some v ∧ K (.pv v)) := load_elem hT71 ag71
@[go_sem] theorem stp71 : storeD Go.Proofs.Try.prog σ 71 (.addr id off) (.pv p) KS = stM σ id (σ id) off (.pv p) KS := stA hT71 sz71 rfl rfl
@[go_sem] theorem ld72 : loadD Go.Proofs.Try.prog σ 72 (.addr id off) K = ldM (σ id) off K := ldA hT72 ag72
@[go_sem] theorem le72 : loadD Go.Proofs.Try.prog σ 72 (.elemP cs off) K = (∃ v, cs[off]? = some v ∧ K (.pv v)) := load_elem hT72 ag72
@[go_sem] theorem stp72 : storeD Go.Proofs.Try.prog σ 72 (.addr id off) (.pv p) KS = stM σ id (σ id) off (.pv p) KS := stA hT72 sz72 rfl rfl
@[go_sem] theorem ld73 : loadD Go.Proofs.Try.prog σ 73 (.addr id off) K = ldM (σ id) off K := ldA hT73 ag73
@[go_sem] theorem le73 : loadD Go.Proofs.Try.prog σ 73 (.elemP cs off) K = (∃ v, cs[off]? = some v ∧ K (.pv v)) := load_elem hT73 ag73
@[go_sem] theorem stp73 : storeD Go.Proofs.Try.prog σ 73 (.addr id off) (.pv p) KS = stM σ id (σ id) off (.pv p) KS := stA hT73 sz73 rfl rfl
@[go_sem] theorem ld74 : loadD Go.Proofs.Try.prog σ 74 (.addr id off) K = ldM (σ id) off K := ldA hT74 ag74
@[go_sem] theorem le74 : loadD Go.Proofs.Try.prog σ 74 (.elemP cs off) K = (∃ v, cs[off]? = some v ∧ K (.pv v)) := load_elem hT74 ag74
@[go_sem] theorem stp74 : storeD Go.Proofs.Try.prog σ 74 (.addr id off) (.pv p) KS = stM σ id (σ id) off (.pv p) KS := stA hT74 sz74 rfl rfl
@[go_sem] theorem ld75 : loadD Go.Proofs.Try.prog σ 75 (.addr id off) K = ldM (σ id) off K := ldA hT75 ag75
@[go_sem] theorem le75 : loadD Go.Proofs.Try.prog σ 75 (.elemP cs off) K = (∃ v, cs[off]? = some v ∧ K (.pv v)) := load_elem hT75 ag75
@[go_sem] theorem stp75 : storeD Go.Proofs.Try.prog σ 75 (.addr id off) (.pv p) KS = stM σ id (σ id) off (.pv p) KS := stA hT75 sz75 rfl rfl
@[go_sem] theorem ld76 : loadD Go.Proofs.Try.prog σ 76 (.addr id off) K = ldM (σ id) off K := ldA hT76 ag76
@[go_sem] theorem le76 : loadD Go.Proofs.Try.prog σ 76 (.elemP cs off) K = (∃ v, cs[off]? = some v ∧ K (.pv v)) := load_elem hT76 ag76
@[go_sem] theorem stp76 : storeD Go.Proofs.Try.prog σ 76 (.addr id off) (.pv p) KS = stM σ id (σ id) off (.pv p) KS := stA hT76 sz76 rfl rfl
@[go_sem] theorem ld77 : loadD Go.Proofs.Try.prog σ 77 (.addr id off) K = ldM (σ id) off K := ldA hT77 ag77
@[go_sem] theorem le77 : loadD Go.Proofs.Try.prog σ 77 (.elemP cs off) K = (∃ v, cs[off]? = some v ∧ K (.pv v)) := load_elem hT77 ag77
@[go_sem] theorem stp77 : storeD Go.Proofs.Try.prog σ 77 (.addr id off) (.pv p) KS = stM σ id (σ id) off (.pv p) KS := stA hT77 sz77 rfl rfl
@[go_sem] theorem sta77 {j o : Nat} : storeD Go.Proofs.Try.prog σ 77 (.addr id off) (.addr j o) KS = stM σ id (σ id) off (.addr j o) KS := stA hT77 sz77 rfl rfl
@[go_sem] theorem fa78_0 : fieldAddrD Go.Proofs.Try.prog 78 (.addr id off) 0 K = K (.addr id (off + 0)) := by
  rw [fa_addr (by rw [fo78_0]; rfl)]; simp only [fo78_0, Option.getD_some, hT3, sz3, true_and]; simp
@[go_sem] theorem fe78_0 : fieldAddrD Go.Proofs.Try.prog 78 (.elemP cs off) 0 K = K (.elemP cs (off + 0)) := by
  rw [fa_elem (by rw [fo78_0]; rfl)]; simp only [fo78_0, Option.getD_some, hT3, sz3, true_and]; simp
@[go_sem] theorem fa78_1 : fieldAddrD Go.Proofs.Try.prog 78 (.addr id off) 1 K = K (.addr id (off + 1)) := by
  rw [fa_addr (by rw [fo78_1]; rfl)]; simp only [fo78_1, Option.getD_some, hT22, sz22, true_and]; simp
@[go_sem] theorem fe78_1 : fieldAddrD Go.Proofs.Try.prog 78 (.elemP cs off) 1 K = K (.elemP cs (off + 1)) := by
  rw [fa_elem (by rw [fo78_1]; rfl)]; simp only [fo78_1, Option.getD_some, hT22, sz22, true_and]; simp
@[go_sem] theorem fa79_0 : fieldAddrD Go.Proofs.Try.prog 79 (.addr id off) 0 K = K (.addr id (off + 0)) := by
  rw [fa_addr (by rw [fo79_0]; rfl)]; simp only [fo79_0, Option.getD_some, hT3, sz3, true_and]; simp
@[go_sem] theorem fe79_0 : fieldAddrD Go.Proofs.Try.prog 79 (.elemP cs off) 0 K = K (.elemP cs (off + 0)) := by
  rw [fa_elem (by rw [fo79_0]; rfl)]; simp only [fo79_0, Option.getD_some, hT3, sz3, true_and]; simp
@[go_sem] theorem fa79_1 : fieldAddrD Go.Proofs.Try.prog 79 (.addr id off) 1 K = K (.addr id (off + 1)) := by
  rw [fa_addr (by rw [fo79_1]; rfl)]; simp only [fo79_1, Option.getD_some, hT22, sz22, true_and]; simp
@[go_sem] theorem fe79_1 : fieldAddrD Go.Proofs.Try.prog 79 (.elemP cs off) 1 K = K (.elemP cs (off + 1)) := by
  rw [fa_elem (by rw [fo79_1]; rfl)]; simp only [fo79_1, Option.getD_some, hT22, sz22, true_and]; simp
@[go_sem] theorem ld80 : loadD Go.Proofs.Try.prog σ 80 (.addr id off) K = ldM (σ id) off K := ldA hT80 ag80
@[go_sem] theorem le80 : loadD Go.Proofs.Try.prog σ 80 (.elemP cs off) K = (∃ v, cs[off]? = some v ∧ K (.pv v)) := load_elem hT80 ag80
@[go_sem] theorem stp80 : storeD Go.Proofs.Try.prog σ 80 (.addr id off) (.pv p) KS = stM σ id (σ id) off (.pv p) KS := stA hT80 sz80 rfl rfl
@[go_sem] theorem ld81 : loadD Go.Proofs.Try.prog σ 81 (.addr id off) K = ldM (σ id) off K := ldA hT81 ag81
@[go_sem] theorem le81 : loadD Go.Proofs.Try.prog σ 81 (.elemP cs off) K = (∃ v, cs[off]? = some v ∧ K (.pv v)) := load_elem hT81 ag81
@[go_sem] theorem stp81 : storeD Go.Proofs.Try.prog σ 81 (.addr id off) (.pv p) KS = stM σ id (σ id) off (.pv p) KS := stA hT81 sz81 rfl rfl
@[go_sem] theorem ld82 : loadD Go.Proofs.Try.prog σ 82 (.addr id off) K = ldM (σ id) off K := ldA hT82 ag82
@[go_sem] theorem le82 : loadD Go.Proofs.Try.prog σ 82 (.elemP cs off) K = (∃ v, cs[off]? = some v ∧ K (.pv v)) := load_elem hT82 ag82
@[go_sem] theorem stp82 : storeD Go.Proofs.Try.prog σ 82 (.addr id off) (.pv p) KS = stM σ id (σ id) off (.pv p) KS := stA hT82 sz82 rfl rfl
@[go_sem] theorem ld83 : loadD Go.Proofs.Try.prog σ 83 (.addr id off) K = ldM (σ id) off K := ldA hT83 ag83
@[go_sem] theorem le83 : loadD Go.Proofs.Try.prog σ 83 (.elemP cs off) K = (∃ v, cs[off]? = some v ∧ K (.pv v)) := load_elem hT83 ag83
@[go_sem] theorem stp83 : storeD Go.Proofs.Try.prog σ 83 (.addr id off) (.pv p) KS = stM σ id (σ id) off (.pv p) KS := stA hT83 sz83 rfl rfl
@[go_sem] theorem ld84 : loadD Go.Proofs.Try.prog σ 84 (.addr id off) K = ldM (σ id) off K := ldA hT84 ag84
@[go_sem] theorem le84 : loadD Go.Proofs.Try.prog σ 84 (.elemP cs off) K = (∃ v, cs[off]? = some v ∧ K (.pv v)) := load_elem hT84 ag84
@[go_sem] theorem stp84 : storeD Go.Proofs.Try.prog σ 84 (.addr id off) (.pv p) KS = stM σ id (σ id) off (.pv p) KS := stA hT84 sz84 rfl rfl
@[go_sem] theorem ld85 : loadD Go.Proofs.Try.prog σ 85 (.addr id off) K = ldM (σ id) off K := ldA hT85 ag85
@[go_sem] theorem le85 : loadD Go.Proofs.Try.prog σ 85 (.elemP cs off) K = (∃ v, cs[off]? = some v ∧ K (.pv v)) := load_elem hT85 ag85
@[go_sem] theorem stp85 : storeD Go.Proofs.Try.prog σ 85 (.addr id off) (.pv p) KS = stM σ id (σ id) off (.pv p) KS := stA hT85 sz85 rfl rfl
@[go_sem] theorem ld86 : loadD Go.Proofs.Try.prog σ 86 (.addr id off) K = ldM (σ id) off K := ldA hT86 ag86
@[go_sem] theorem le86 : loadD Go.Proofs.Try.prog σ 86 (.elemP cs off) K = (∃ v, cs[off]? = some v ∧ K (.pv v)) := load_elem hT86 ag86
@[go_sem] theorem stp86 : storeD Go.Proofs.Try.prog σ 86 (.addr id off) (.pv p) KS = stM σ id (σ id) off (.pv p) KS := stA hT86 sz86 rfl rfl
@[go_sem] theorem ld87 : loadD Go.Proofs.Try.prog σ 87 (.addr id off) K = ldM (σ id) off K := ldA hT87 ag87
@[go_sem] theorem le87 : loadD Go.Proofs.Try.prog σ 87 (.elemP cs off) K = (∃ v, cs[off]? = some v ∧ K (.pv v)) := load_elem hT87 ag87
@[go_sem] theorem stp87 : storeD Go.Proofs.Try.prog σ 87 (.addr id off) (.pv p) KS = stM σ id (σ id) off (.pv p) KS := stA hT87 sz87 rfl rfl
@[go_sem] theorem fa88_0 : fieldAddrD Go.Proofs.Try.prog 88 (.addr id off) 0 K = K (.addr id (off + 0)) := by
  rw [fa_addr (by rw [fo88_0]; rfl)]; simp only [fo88_0, Option.getD_some, hT17, sz17, true_and]; simp
@[go_sem] theorem fe88_0 : fieldAddrD Go.Proofs.Try.prog 88 (.elemP cs off) 0 K = K (.elemP cs (off + 0)) := by
  rw [fa_elem (by rw [fo88_0]; rfl)]; simp only [fo88_0, Option.getD_some, hT17, sz17, true_and]; simp
@[go_sem] theorem fa88_1 : fieldAddrD Go.Proofs.Try.prog 88 (.addr id off) 1 K = K (.addr id (off + 1)) := by
  rw [fa_addr (by rw [fo88_1]; rfl)]; simp only [fo88_1, Option.getD_some, hT17, sz17, true_and]; simp
@[go_sem] theorem fe88_1 : fieldAddrD Go.Proofs.Try.prog 88 (.elemP cs off) 1 K = K (.elemP cs (off + 1)) := by
  rw [fa_elem (by rw [fo88_1]; rfl)]; simp only [fo88_1, Option.getD_some, hT17, sz17, true_and]; simp
@[go_sem] theorem fa88_2 : fieldAddrD Go.Proofs.Try.prog 88 (.addr id off) 2 K = K (.addr id (off + 2)) := by
  rw [fa_addr (by rw [fo88_2]; rfl)]; simp only [fo88_2, Option.getD_some, hT17, sz17, true_and]; simp
@[go_sem] theorem fe88_2 : fieldAddrD Go.Proofs.Try.prog 88 (.elemP cs off) 2 K = K (.elemP cs (off + 2)) := by
  rw [fa_elem (by rw [fo88_2]; rfl)]; simp only [fo88_2, Option.getD_some, hT17, sz17, true_and]; simp
@[go_sem] theorem fa88_3 : fieldAddrD Go.Proofs.Try.prog 88 (.addr id off) 3 K = K (.addr id (off + 3)) := by
  rw [fa_addr (by rw [fo88_3]; rfl)]; simp only [fo88_3, Option.getD_some, hT9, sz9, true_and]; simp
@[go_sem] theorem fe88_3 : fieldAddrD Go.Proofs.Try.prog 88 (.elemP cs off) 3 K = K (.elemP cs (off + 3)) := by
  rw [fa_elem (by rw [fo88_3]; rfl)]; simp only [fo88_3, Option.getD_some, hT9, sz9, true_and]; simp
@[go_sem] theorem fa89_0 : fieldAddrD Go.Proofs.Try.prog 89 (.addr id off) 0 K = K (.addr id (off + 0)) := by
  rw [fa_addr (by rw [fo89_0]; rfl)]; simp only [fo89_0, Option.getD_some, hT17, sz17, true_and]; simp
@[go_sem] theorem fe89_0 : fieldAddrD Go.Proofs.Try.prog 89 (.elemP cs off) 0 K = K (.elemP cs (off + 0)) := by
  rw [fa_elem (by rw [fo89_0]; rfl)]; simp only [fo89_0, Option.getD_some, hT17, sz17, true_and]; simp
@[go_sem] theorem fa89_1 : fieldAddrD Go.Proofs.Try.prog 89 (.addr id off) 1 K = K (.addr id (off + 1)) := by
  rw [fa_addr (by rw [fo89_1]; rfl)]; simp only [fo89_1, Option.getD_some, hT17, sz17, true_and]; simp
@[go_sem] theorem fe89_1 : fieldAddrD Go.Proofs.Try.prog 89 (.elemP cs off) 1 K = K (.elemP cs (off + 1)) := by
  rw [fa_elem (by rw [fo89_1]; rfl)]; simp only [fo89_1, Option.getD_some, hT17, sz17, true_and]; simp
@[go_sem] theorem fa89_2 : fieldAddrD Go.Proofs.Try.prog 89 (.addr id off) 2 K = K (.addr id (off + 2)) := by
  rw [fa_addr (by rw [fo89_2]; rfl)]; simp only [fo89_2, Option.getD_some, hT17, sz17, true_and]; simp
@[go_sem] theorem fe89_2 : fieldAddrD Go.Proofs.Try.prog 89 (.elemP cs off) 2 K = K (.elemP cs (off + 2)) := by
  rw [fa_elem (by rw [fo89_2]; rfl)]; simp only [fo89_2, Option.getD_some, hT17, sz17, true_and]; simp
@[go_sem] theorem fa89_3 : fieldAddrD Go.Proofs.Try.prog 89 (.addr id off) 3 K = K (.addr id (off + 3)) := by
  rw [fa_addr (by rw [fo89_3]; rfl)]; simp only [fo89_3, Option.getD_some, hT9, sz9, true_and]; simp
@[go_sem] theorem fe89_3 : fieldAddrD Go.Proofs.Try.prog 89 (.elemP cs off) 3 K = K (.elemP cs (off + 3)) := by
  rw [fa_elem (by rw [fo89_3]; rfl)]; simp only [fo89_3, Option.getD_some, hT9, sz9, true_and]; simp
@[go_sem] theorem ld93 : loadD Go.Proofs.Try.prog σ 93 (.addr id off) K = ldM (σ id) off K := ldA hT93 ag93
@[go_sem] theorem le93 : loadD Go.Proofs.Try.prog σ 93 (.elemP cs off) K = (∃ v, cs[off]? = some v ∧ K (.pv v)) := load_elem hT93 ag93
@[go_sem] theorem stp93 : storeD Go.Proofs.Try.prog σ 93 (.addr id off) (.pv p) KS = stM σ id (σ id) off (.pv p) KS := stA hT93 sz93 rfl rfl
@[go_sem] theorem ld94 : loadD Go.Proofs.Try.prog σ 94 (.addr id off) K = ldM (σ id) off K := ldA hT94 ag94
@[go_sem] theorem le94 : loadD Go.Proofs.Try.prog σ 94 (.elemP cs off) K = (∃ v, cs[off]? = some v ∧ K (.pv v)) := load_elem hT94 ag94
@[go_sem] theorem stp94 : storeD Go.Proofs.Try.prog σ 94 (.addr id off) (.pv p) KS = stM σ id (σ id) off (.pv p) KS := stA hT94 sz94 rfl rfl
@[go_sem] theorem ld95 : loadD Go.Proofs.Try.prog σ 95 (.addr id off) K = ldM (σ id) off K := ldA hT95 ag95
@[go_sem] theorem le95 : loadD Go.Proofs.Try.prog σ 95 (.elemP cs off) K = (∃ v, cs[off]? = some v ∧ K (.pv v)) := load_elem hT95 ag95
@[go_sem] theorem stp95 : storeD Go.Proofs.Try.prog σ 95 (.addr id off) (.pv p) KS = stM σ id (σ id) off (.pv p) KS := stA hT95 sz95 rfl rfl
@[go_sem] theorem ld96 : loadD Go.Proofs.Try.prog σ 96 (.addr id off) K = ldM (σ id) off K := ldA hT96 ag96
@[go_sem] theorem le96 : loadD Go.Proofs.Try.prog σ 96 (.elemP cs off) K = (∃ v, cs[off]? = some v ∧ K (.pv v)) := load_elem hT96 ag96
@[go_sem] theorem stp96 : storeD Go.Proofs.Try.prog σ 96 (.addr id off) (.pv p) KS = stM σ id (σ id) off (.pv p) KS := stA hT96 sz96 rfl rfl
@[go_sem] theorem ld97 : loadD Go.Proofs.Try.prog σ 97 (.addr id off) K = ldM (σ id) off K := ldA hT97 ag97
@[go_sem] theorem le97 : loadD Go.Proofs.Try.prog σ 97 (.elemP cs off) K = (∃ v, cs[off]? = some v ∧ K (.pv v)) := load_elem hT97 ag97
@[go_sem] theorem stp97 : storeD Go.Proofs.Try.prog σ 97 (.addr id off) (.pv p) KS = stM σ id (σ id) off (.pv p) KS := stA hT97 sz97 rfl rfl
@[go_sem] theorem ld98 : loadD Go.Proofs.Try.prog σ 98 (.addr id off) K = ldM (σ id) off K := ldA hT98 ag98
@[go_sem] theorem le98 : loadD Go.Proofs.Try.prog σ 98 (.elemP cs off) K = (∃ v, cs[off]? = some v ∧ K (.pv v)) := load_elem hT98 ag98
@[go_sem] theorem stp98 : storeD Go.Proofs.Try.prog σ 98 (.addr id off) (.pv p) KS = stM σ id (σ id) off (.pv p) KS := stA hT98 sz98 rfl rfl
@[go_sem] theorem fa99_0 : fieldAddrD Go.Proofs.Try.prog 99 (.addr id off) 0 K = K (.addr id (off + 0)) := by
  rw [fa_addr (by rw [fo99_0]; rfl)]; simp only [fo99_0, Option.getD_some, hT12, sz12, true_and]; simp
@[go_sem] theorem fe99_0 : fieldAddrD Go.Proofs.Try.prog 99 (.elemP cs off) 0 K = K (.elemP cs (off + 0)) := by
  rw [fa_elem (by rw [fo99_0]; rfl)]; simp only [fo99_0, Option.getD_some, hT12, sz12, true_and]; simp
@[go_sem] theorem fa99_1 : fieldAddrD Go.Proofs.Try.prog 99 (.addr id off) 1 K = K (.addr id (off + 1)) := by
  rw [fa_addr (by rw [fo99_1]; rfl)]; simp only [fo99_1, Option.getD_some, hT12, sz12, true_and]; simp
@[go_sem] theorem fe99_1 : fieldAddrD Go.Proofs.Try.prog 99 (.elemP cs off) 1 K = K (.elemP cs (off + 1)) := by
  rw [fa_elem (by rw [fo99_1]; rfl)]; simp only [fo99_1, Option.getD_some, hT12, sz12, true_and]; simp
@[go_sem] theorem fa99_2 : fieldAddrD Go.Proofs.Try.prog 99 (.addr id off) 2 K = K (.addr id (off + 2)) := by
  rw [fa_addr (by rw [fo99_2]; rfl)]; simp only [fo99_2, Option.getD_some, hT85, sz85, true_and]; simp
@[go_sem] theorem fe99_2 : fieldAddrD Go.Proofs.Try.prog 99 (.elemP cs off) 2 K = K (.elemP cs (off + 2)) := by
  rw [fa_elem (by rw [fo99_2]; rfl)]; simp only [fo99_2, Option.getD_some, hT85, sz85, true_and]; simp
@[go_sem] theorem fa99_3 : fieldAddrD Go.Proofs.Try.prog 99 (.addr id off) 3 K = K (.addr id (off + 3)) := by
  rw [fa_addr (by rw [fo99_3]; rfl)]; simp only [fo99_3, Option.getD_some, hT94, sz94, true_and]; simp
@[go_sem] theorem fe99_3 : fieldAddrD Go.Proofs.Try.prog 99 (.elemP cs off) 3 K = K (.elemP cs (off + 3)) := by
  rw [fa_elem (by rw [fo99_3]; rfl)]; simp only [fo99_3, Option.getD_some, hT94, sz94, true_and]; simp
@[go_sem] theorem fa99_4 : fieldAddrD Go.Proofs.Try.prog 99 (.addr id off) 4 K = K (.addr id (off + 4)) := by
  rw [fa_addr (by rw [fo99_4]; rfl)]; simp only [fo99_4, Option.getD_some, hT5, sz5, true_and]; simp
@[go_sem] theorem fe99_4 : fieldAddrD Go.Proofs.Try.prog 99 (.elemP cs off) 4 K = K (.elemP cs (off + 4)) := by
  rw [fa_elem (by rw [fo99_4]; rfl)]; simp only [fo99_4, Option.getD_some, hT5, sz5, true_and]; simp
@[go_sem] theorem fa99_5 : fieldAddrD Go.Proofs.Try.prog 99 (.addr id off) 5 K = K (.addr id (off + 5)) := by
  rw [fa_addr (by rw [fo99_5]; rfl)]; simp only [fo99_5, Option.getD_some, hT5, sz5, true_and]; simp
@[go_sem] theorem fe99_5 : fieldAddrD Go.Proofs.Try.prog 99 (.elemP cs off) 5 K = K (.elemP cs (off + 5)) := by
  rw [fa_elem (by rw [fo99_5]; rfl)]; simp only [fo99_5, Option.getD_some, hT5, sz5, true_and]; simp
@[go_sem] theorem fa99_6 : fieldAddrD Go.Proofs.Try.prog 99 (.addr id off) 6 K = K (.addr id (off + 6)) := by
  rw [fa_addr (by rw [fo99_6]; rfl)]; simp only [fo99_6, Option.getD_some, hT95, sz95, true_and]; simp
@[go_sem] theorem fe99_6 : fieldAddrD Go.Proofs.Try.prog 99 (.elemP cs off) 6 K = K (.elemP cs (off + 6)) := by
  rw [fa_elem (by rw [fo99_6]; rfl)]; simp only [fo99_6, Option.getD_some, hT95, sz95, true_and]; simp
@[go_sem] theorem fa99_7 : fieldAddrD Go.Proofs.Try.prog 99 (.addr id off) 7 K = K (.addr id (off + 7)) := by
  rw [fa_addr (by rw [fo99_7]; rfl)]; simp only [fo99_7, Option.getD_some, hT96, sz96, true_and]; simp
@[go_sem] theorem fe99_7 : fieldAddrD Go.Proofs.Try.prog 99 (.elemP cs off) 7 K = K (.elemP cs (off + 7)) := by
  rw [fa_elem (by rw [fo99_7]; rfl)]; simp only [fo99_7, Option.getD_some, hT96, sz96, true_and]; simp
@[go_sem] theorem fa99_8 : fieldAddrD Go.Proofs.Try.prog 99 (.addr id off) 8 K = K (.addr id (off + 8)) := by
  rw [fa_addr (by rw [fo99_8]; rfl)]; simp only [fo99_8, Option.getD_some, hT77, sz77, true_and]; simp
@[go_sem] theorem fe99_8 : fieldAddrD Go.Proofs.Try.prog 99 (.elemP cs off) 8 K = K (.elemP cs (off + 8)) := by
  rw [fa_elem (by rw [fo99_8]; rfl)]; simp only [fo99_8, Option.getD_some, hT77, sz77, true_and]; simp
@[go_sem] theorem fa99_9 : fieldAddrD Go.Proofs.Try.prog 99 (.addr id off) 9 K = K (.addr id (off + 9)) := by
  rw [fa_addr (by rw [fo99_9]; rfl)]; simp only [fo99_9, Option.getD_some, hT97, sz97, true_and]; simp
@[go_sem] theorem fe99_9 : fieldAddrD Go.Proofs.Try.prog 99 (.elemP cs off) 9 K = K (.elemP cs (off + 9)) := by
  rw [fa_elem (by rw [fo99_9]; rfl)]; simp only [fo99_9, Option.getD_some, hT97, sz97, true_and]; simp
@[go_sem] theorem fa99_10 : fieldAddrD Go.Proofs.Try.prog 99 (.addr id off) 10 K = K (.addr id (off + 10)) := by
  rw [fa_addr (by rw [fo99_10]; rfl)]; simp only [fo99_10, Option.getD_some, hT98, sz98, true_and]; simp
@[go_sem] theorem fe99_10 : fieldAddrD Go.Proofs.Try.prog 99 (.elemP cs off) 10 K = K (.elemP cs (off + 10)) := by
  rw [fa_elem (by rw [fo99_10]; rfl)]; simp only [fo99_10, Option.getD_some, hT98, sz98, true_and]; simp
@[go_sem] theorem fa100_0 : fieldAddrD Go.Proofs.Try.prog 100 (.addr id off) 0 K = K (.addr id (off + 0)) := by
  rw [fa_addr (by rw [fo100_0]; rfl)]; simp only [fo100_0, Option.getD_some, hT12, sz12, true_and]; simp
@[go_sem] theorem fe100_0 : fieldAddrD Go.Proofs.Try.prog 100 (.elemP cs off) 0 K = K (.elemP cs (off + 0)) := by
  rw [fa_elem (by rw [fo100_0]; rfl)]; simp only [fo100_0, Option.getD_some, hT12, sz12, true_and]; simp
@[go_sem] theorem fa100_1 : fieldAddrD Go.Proofs.Try.prog 100 (.addr id off) 1 K = K (.addr id (off + 1)) := by
  rw [fa_addr (by rw [fo100_1]; rfl)]; simp only [fo100_1, Option.getD_some, hT12, sz12, true_and]; simp
@[go_sem] theorem fe100_1 : fieldAddrD Go.Proofs.Try.prog 100 (.elemP cs off) 1 K = K (.elemP cs (off + 1)) := by
  rw [fa_elem (by rw [fo100_1]; rfl)]; simp only [fo100_1, Option.getD_some, hT12, sz12, true_and]; simp
@[go_sem] theorem fa100_2 : fieldAddrD Go.Proofs.Try.prog 100 (.addr id off) 2 K = K (.addr id (off + 2)) := by
  rw [fa_addr (by rw [fo100_2]; rfl)]; simp only [fo100_2, Option.getD_some, hT85, sz85, true_and]; simp
@[go_sem] theorem fe100_2 : fieldAddrD Go.Proofs.Try.prog 100 (.elemP cs off) 2 K = K (.elemP cs (off + 2)) := by
  rw [fa_elem (by rw [fo100_2]; rfl)]; simp only [fo100_2, Option.getD_some, hT85, sz85, true_and]; simp
@[go_sem] theorem fa100_3 : fieldAddrD Go.Proofs.Try.prog 100 (.addr id off) 3 K = K (.addr id (off + 3)) := by
  rw [fa_addr (by rw [fo100_3]; rfl)]; simp only [fo100_3, Option.getD_some, hT94, sz94, true_and]; simp
@[go_sem] theorem fe100_3 : fieldAddrD Go.Proofs.Try.prog 100 (.elemP cs off) 3 K = K (.elemP cs (off + 3)) := by
  rw [fa_elem (by rw [fo100_3]; rfl)]; simp only [fo100_3, Option.getD_some, hT94, sz94, true_and]; simp
@[go_sem] theorem fa100_4 : fieldAddrD Go.Proofs.Try.prog 100 (.addr id off) 4 K = K (.addr id (off + 4)) := by
  rw [fa_addr (by rw [fo100_4]; rfl)]; simp only [fo100_4, Option.getD_some, hT5, sz5, true_and]; simp
@[go_sem] theorem fe100_4 : fieldAddrD Go.Proofs.Try.prog 100 (.elemP cs off) 4 K = K (.elemP cs (off + 4)) := by
  rw [fa_elem (by rw [fo100_4]; rfl)]; simp only [fo100_4, Option.getD_some, hT5, sz5, true_and]; simp
@[go_sem] theorem fa100_5 : fieldAddrD Go.Proofs.Try.prog 100 (.addr id off) 5 K = K (.addr id (off + 5)) := by
  rw [fa_addr (by rw [fo100_5]; rfl)]; simp only [fo100_5, Option.getD_some, hT5, sz5, true_and]; simp
@[go_sem] theorem fe100_5 : fieldAddrD Go.Proofs.Try.prog 100 (.elemP cs off) 5 K = K (.elemP cs (off + 5)) := by
  rw [fa_elem (by rw [fo100_5]; rfl)]; simp only [fo100_5, Option.getD_some, hT5, sz5, true_and]; simp
@[go_sem] theorem fa100_6 : fieldAddrD Go.Proofs.Try.prog 100 (.addr id off) 6 K = K (.addr id (off + 6)) := by
  rw [fa_addr (by rw [fo100_6]; rfl)]; simp only [fo100_6, Option.getD_some, hT95, sz95, true_and]; simp
@[go_sem] theorem fe100_6 : fieldAddrD Go.Proofs.Try.prog 100 (.elemP cs off) 6 K = K (.elemP cs (off + 6)) := by
  rw [fa_elem (by rw [fo100_6]; rfl)]; simp only [fo100_6, Option.getD_some, hT95, sz95, true_and]; simp
@[go_sem] theorem fa100_7 : fieldAddrD Go.Proofs.Try.prog 100 (.addr id off) 7 K = K (.addr id (off + 7)) := by
  rw [fa_addr (by rw [fo100_7]; rfl)]; simp only [fo100_7, Option.getD_some, hT96, sz96, true_and]; simp
@[go_sem] theorem fe100_7 : fieldAddrD Go.Proofs.Try.prog 100 (.elemP cs off) 7 K = K (.elemP cs (off + 7)) := by
  rw [fa_elem (by rw [fo100_7]; rfl)]; simp only [fo100_7, Option.getD_some, hT96, sz96, true_and]; simp
@[go_sem] theorem fa100_8 : fieldAddrD Go.Proofs.Try.prog 100 (.addr id off) 8 K = K (.addr id (off + 8)) := by
  rw [fa_addr (by rw [fo100_8]; rfl)]; simp only [fo100_8, Option.getD_some, hT77, sz77, true_and]; simp
@[go_sem] theorem fe100_8 : fieldAddrD Go.Proofs.Try.prog 100 (.elemP cs off) 8 K = K (.elemP cs (off + 8)) := by
  rw [fa_elem (by rw [fo100_8]; rfl)]; simp only [fo100_8, Option.getD_some, hT77, sz77, true_and]; simp
@[go_sem] theorem fa100_9 : fieldAddrD Go.Proofs.Try.prog 100 (.addr id off) 9 K = K (.addr id (off + 9)) := by
  rw [fa_addr (by rw [fo100_9]; rfl)]; simp only [fo100_9, Option.getD_some, hT97, sz97, true_and]; simp
@[go_sem] theorem fe100_9 : fieldAddrD Go.Proofs.Try.prog 100 (.elemP cs off) 9 K = K (.elemP cs (off + 9)) := by
  rw [fa_elem (by rw [fo100_9]; rfl)]; simp only [fo100_9, Option.getD_some, hT97, sz97, true_and]; simp
@[go_sem] theorem fa100_10 : fieldAddrD Go.Proofs.Try.prog 100 (.addr id off) 10 K = K (.addr id (off + 10)) := by
  rw [fa_addr (by rw [fo100_10]; rfl)]; simp only [fo100_10, Option.getD_some, hT98, sz98, true_and]; simp
@[go_sem] theorem fe100_10 : fieldAddrD Go.Proofs.Try.prog 100 (.elemP cs off) 10 K = K (.elemP cs (off + 10)) := by
  rw [fa_elem (by rw [fo100_10]; rfl)]; simp only [fo100_10, Option.getD_some, hT98, sz98, true_and]; simp
end Go.AD.T
