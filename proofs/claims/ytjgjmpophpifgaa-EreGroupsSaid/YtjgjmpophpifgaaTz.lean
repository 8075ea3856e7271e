/- The calculus' words at the seat's types. -/
import Derived.Test.YtjgjmpophpifgaaTy
import Derived.Test.YtjgjmpophpifgaaAd17
set_option linter.unusedVariables false
set_option maxRecDepth 100000
namespace Go.AD.T
variable {σ : AS} {id off n size : Nat} {K : AV → Prop} {KS : AS → Prop} {k k2 : IntKind} {cs : List PV} {p : PV} {x : List UInt8} {i j : Nat} {z : Int}
@[go_sem] theorem ld0 : loadD Go.Proofs.Try.prog σ 0 (.addr id off) K = ldM (σ id) off K := ldA hT0 ag0
@[go_sem] theorem le0 : loadD Go.Proofs.Try.prog σ 0 (.elemP cs off) K = (∃ v, cs[off]? = some v ∧ K (.pv v)) := load_elem hT0 ag0
@[go_sem] theorem stp0 : storeD Go.Proofs.Try.prog σ 0 (.addr id off) (.pv p) KS = stM σ id (σ id) off (.pv p) KS := stA hT0 sz0 rfl rfl
@[go_sem] theorem ld1 : loadD Go.Proofs.Try.prog σ 1 (.addr id off) K = ldM (σ id) off K := ldA hT1 ag1
@[go_sem] theorem le1 : loadD Go.Proofs.Try.prog σ 1 (.elemP cs off) K = (∃ v, cs[off]? = some v ∧ K (.pv v)) := load_elem hT1 ag1
@[go_sem] theorem stp1 : storeD Go.Proofs.Try.prog σ 1 (.addr id off) (.pv p) KS = stM σ id (σ id) off (.pv p) KS := stA hT1 sz1 rfl rfl
@[go_sem] theorem ld2 : loadD Go.Proofs.Try.prog σ 2 (.addr id off) K = ldM (σ id) off K := ldA hT2 ag2
@[go_sem] theorem le2 : loadD Go.Proofs.Try.prog σ 2 (.elemP cs off) K = (∃ v, cs[off]? = some v ∧ K (.pv v)) := load_elem hT2 ag2
@[go_sem] theorem stp2 : storeD Go.Proofs.Try.prog σ 2 (.addr id off) (.pv p) KS = stM σ id (σ id) off (.pv p) KS := stA hT2 sz2 rfl rfl
@[go_sem] theorem ld3 : loadD Go.Proofs.Try.prog σ 3 (.addr id off) K = ldM (σ id) off K := ldA hT3 ag3
@[go_sem] theorem le3 : loadD Go.Proofs.Try.prog σ 3 (.elemP cs off) K = (∃ v, cs[off]? = some v ∧ K (.pv v)) := load_elem hT3 ag3
@[go_sem] theorem stp3 : storeD Go.Proofs.Try.prog σ 3 (.addr id off) (.pv p) KS = stM σ id (σ id) off (.pv p) KS := stA hT3 sz3 rfl rfl
@[go_sem] theorem ld4 : loadD Go.Proofs.Try.prog σ 4 (.addr id off) K = ldM (σ id) off K := ldA hT4 ag4
@[go_sem] theorem le4 : loadD Go.Proofs.Try.prog σ 4 (.elemP cs off) K = (∃ v, cs[off]? = some v ∧ K (.pv v)) := load_elem hT4 ag4
@[go_sem] theorem stp4 : storeD Go.Proofs.Try.prog σ 4 (.addr id off) (.pv p) KS = stM σ id (σ id) off (.pv p) KS := stA hT4 sz4 rfl rfl
@[go_sem] theorem ld5 : loadD Go.Proofs.Try.prog σ 5 (.addr id off) K = ldM (σ id) off K := ldA hT5 ag5
@[go_sem] theorem le5 : loadD Go.Proofs.Try.prog σ 5 (.elemP cs off) K = (∃ v, cs[off]? = some v ∧ K (.pv v)) := load_elem hT5 ag5
@[go_sem] theorem stp5 : storeD Go.Proofs.Try.prog σ 5 (.addr id off) (.pv p) KS = stM σ id (σ id) off (.pv p) KS := stA hT5 sz5 rfl rfl
@[go_sem] theorem ld6 : loadD Go.Proofs.Try.prog σ 6 (.addr id off) K = ldM (σ id) off K := ldA hT6 ag6
@[go_sem] theorem le6 : loadD Go.Proofs.Try.prog σ 6 (.elemP cs off) K = (∃ v, cs[off]? = some v ∧ K (.pv v)) := load_elem hT6 ag6
@[go_sem] theorem stp6 : storeD Go.Proofs.Try.prog σ 6 (.addr id off) (.pv p) KS = stM σ id (σ id) off (.pv p) KS := stA hT6 sz6 rfl rfl
@[go_sem] theorem fa7_0 : fieldAddrD Go.Proofs.Try.prog 7 (.addr id off) 0 K = K (.addr id (off + 0)) := by
  rw [fa_addr (by rw [fo7_0]; rfl)]; simp only [fo7_0, Option.getD_some, hT2, sz2, true_and]; simp
@[go_sem] theorem fe7_0 : fieldAddrD Go.Proofs.Try.prog 7 (.elemP cs off) 0 K = K (.elemP cs (off + 0)) := by
  rw [fa_elem (by rw [fo7_0]; rfl)]; simp only [fo7_0, Option.getD_some, hT2, sz2, true_and]; simp
@[go_sem] theorem fa7_1 : fieldAddrD Go.Proofs.Try.prog 7 (.addr id off) 1 K = K (.addr id (off + 1)) := by
  rw [fa_addr (by rw [fo7_1]; rfl)]; simp only [fo7_1, Option.getD_some, hT3, sz3, true_and]; simp
@[go_sem] theorem fe7_1 : fieldAddrD Go.Proofs.Try.prog 7 (.elemP cs off) 1 K = K (.elemP cs (off + 1)) := by
  rw [fa_elem (by rw [fo7_1]; rfl)]; simp only [fo7_1, Option.getD_some, hT3, sz3, true_and]; simp
@[go_sem] theorem fa7_2 : fieldAddrD Go.Proofs.Try.prog 7 (.addr id off) 2 K = K (.addr id (off + 2)) := by
  rw [fa_addr (by rw [fo7_2]; rfl)]; simp only [fo7_2, Option.getD_some, hT4, sz4, true_and]; simp
@[go_sem] theorem fe7_2 : fieldAddrD Go.Proofs.Try.prog 7 (.elemP cs off) 2 K = K (.elemP cs (off + 2)) := by
  rw [fa_elem (by rw [fo7_2]; rfl)]; simp only [fo7_2, Option.getD_some, hT4, sz4, true_and]; simp
@[go_sem] theorem fa7_3 : fieldAddrD Go.Proofs.Try.prog 7 (.addr id off) 3 K = K (.addr id (off + 3)) := by
  rw [fa_addr (by rw [fo7_3]; rfl)]; simp only [fo7_3, Option.getD_some, hT6, sz6, true_and]; simp
@[go_sem] theorem fe7_3 : fieldAddrD Go.Proofs.Try.prog 7 (.elemP cs off) 3 K = K (.elemP cs (off + 3)) := by
  rw [fa_elem (by rw [fo7_3]; rfl)]; simp only [fo7_3, Option.getD_some, hT6, sz6, true_and]; simp
@[go_sem] theorem fa8_0 : fieldAddrD Go.Proofs.Try.prog 8 (.addr id off) 0 K = K (.addr id (off + 0)) := by
  rw [fa_addr (by rw [fo8_0]; rfl)]; simp only [fo8_0, Option.getD_some, hT2, sz2, true_and]; simp
@[go_sem] theorem fe8_0 : fieldAddrD Go.Proofs.Try.prog 8 (.elemP cs off) 0 K = K (.elemP cs (off + 0)) := by
  rw [fa_elem (by rw [fo8_0]; rfl)]; simp only [fo8_0, Option.getD_some, hT2, sz2, true_and]; simp
@[go_sem] theorem fa8_1 : fieldAddrD Go.Proofs.Try.prog 8 (.addr id off) 1 K = K (.addr id (off + 1)) := by
  rw [fa_addr (by rw [fo8_1]; rfl)]; simp only [fo8_1, Option.getD_some, hT3, sz3, true_and]; simp
@[go_sem] theorem fe8_1 : fieldAddrD Go.Proofs.Try.prog 8 (.elemP cs off) 1 K = K (.elemP cs (off + 1)) := by
  rw [fa_elem (by rw [fo8_1]; rfl)]; simp only [fo8_1, Option.getD_some, hT3, sz3, true_and]; simp
@[go_sem] theorem fa8_2 : fieldAddrD Go.Proofs.Try.prog 8 (.addr id off) 2 K = K (.addr id (off + 2)) := by
  rw [fa_addr (by rw [fo8_2]; rfl)]; simp only [fo8_2, Option.getD_some, hT4, sz4, true_and]; simp
@[go_sem] theorem fe8_2 : fieldAddrD Go.Proofs.Try.prog 8 (.elemP cs off) 2 K = K (.elemP cs (off + 2)) := by
  rw [fa_elem (by rw [fo8_2]; rfl)]; simp only [fo8_2, Option.getD_some, hT4, sz4, true_and]; simp
@[go_sem] theorem fa8_3 : fieldAddrD Go.Proofs.Try.prog 8 (.addr id off) 3 K = K (.addr id (off + 3)) := by
  rw [fa_addr (by rw [fo8_3]; rfl)]; simp only [fo8_3, Option.getD_some, hT6, sz6, true_and]; simp
@[go_sem] theorem fe8_3 : fieldAddrD Go.Proofs.Try.prog 8 (.elemP cs off) 3 K = K (.elemP cs (off + 3)) := by
  rw [fa_elem (by rw [fo8_3]; rfl)]; simp only [fo8_3, Option.getD_some, hT6, sz6, true_and]; simp
@[go_sem] theorem ld9 : loadD Go.Proofs.Try.prog σ 9 (.addr id off) K = ldM (σ id) off K := ldA hT9 ag9
@[go_sem] theorem le9 : loadD Go.Proofs.Try.prog σ 9 (.elemP cs off) K = (∃ v, cs[off]? = some v ∧ K (.pv v)) := load_elem hT9 ag9
@[go_sem] theorem stp9 : storeD Go.Proofs.Try.prog σ 9 (.addr id off) (.pv p) KS = stM σ id (σ id) off (.pv p) KS := stA hT9 sz9 rfl rfl
theorem und9 : (Go.Proofs.Try.prog).underlying 9 = some .string := by kernel_rfl
@[go_sem] theorem ls9 : lenD Go.Proofs.Try.prog 9 (.pv (.str x)) K = K (.pv (.int .i64 x.length)) := len_str und9
theorem is9 (h : i < x.length) : indexD Go.Proofs.Try.prog 9 (.pv (.str x)) (.pv (.int k i)) K = K (.pv (.int .u8 (x.getD i 0).toNat)) := ixS und9 h
theorem ss9 (h : i ≤ x.length) : sliceD Go.Proofs.Try.prog 9 (.pv (.str x)) (some (.pv (.int k i))) none K = K (.pv (.str (x.drop i))) := slS und9 h
theorem st9 (h : i ≤ x.length) : sliceD Go.Proofs.Try.prog 9 (.pv (.str x)) none (some (.pv (.int k i))) K = K (.pv (.str (x.take i))) := slS0 und9 h
theorem sb9 (h : i ≤ j) (h2 : j ≤ x.length) : sliceD Go.Proofs.Try.prog 9 (.pv (.str x)) (some (.pv (.int k i))) (some (.pv (.int k2 j))) K = K (.pv (.str ((x.take j).drop i))) := slS2 und9 h h2
@[go_sem] theorem ld10 : loadD Go.Proofs.Try.prog σ 10 (.addr id off) K = ldM (σ id) off K := ldA hT10 ag10
@[go_sem] theorem le10 : loadD Go.Proofs.Try.prog σ 10 (.elemP cs off) K = (∃ v, cs[off]? = some v ∧ K (.pv v)) := load_elem hT10 ag10
@[go_sem] theorem stp10 : storeD Go.Proofs.Try.prog σ 10 (.addr id off) (.pv p) KS = stM σ id (σ id) off (.pv p) KS := stA hT10 sz10 rfl rfl
theorem und10 : (Go.Proofs.Try.prog).underlying 10 = some .string := by kernel_rfl
@[go_sem] theorem ls10 : lenD Go.Proofs.Try.prog 10 (.pv (.str x)) K = K (.pv (.int .i64 x.length)) := len_str und10
theorem is10 (h : i < x.length) : indexD Go.Proofs.Try.prog 10 (.pv (.str x)) (.pv (.int k i)) K = K (.pv (.int .u8 (x.getD i 0).toNat)) := ixS und10 h
theorem ss10 (h : i ≤ x.length) : sliceD Go.Proofs.Try.prog 10 (.pv (.str x)) (some (.pv (.int k i))) none K = K (.pv (.str (x.drop i))) := slS und10 h
theorem st10 (h : i ≤ x.length) : sliceD Go.Proofs.Try.prog 10 (.pv (.str x)) none (some (.pv (.int k i))) K = K (.pv (.str (x.take i))) := slS0 und10 h
theorem sb10 (h : i ≤ j) (h2 : j ≤ x.length) : sliceD Go.Proofs.Try.prog 10 (.pv (.str x)) (some (.pv (.int k i))) (some (.pv (.int k2 j))) K = K (.pv (.str ((x.take j).drop i))) := slS2 und10 h h2
@[go_sem] theorem ld11 : loadD Go.Proofs.Try.prog σ 11 (.addr id off) K = ldM (σ id) off K := ldA hT11 ag11
@[go_sem] theorem le11 : loadD Go.Proofs.Try.prog σ 11 (.elemP cs off) K = (∃ v, cs[off]? = some v ∧ K (.pv v)) := load_elem hT11 ag11
@[go_sem] theorem stp11 : storeD Go.Proofs.Try.prog σ 11 (.addr id off) (.pv p) KS = stM σ id (σ id) off (.pv p) KS := stA hT11 sz11 rfl rfl
theorem und11 : (Go.Proofs.Try.prog).underlying 11 = some .string := by kernel_rfl
@[go_sem] theorem ls11 : lenD Go.Proofs.Try.prog 11 (.pv (.str x)) K = K (.pv (.int .i64 x.length)) := len_str und11
theorem is11 (h : i < x.length) : indexD Go.Proofs.Try.prog 11 (.pv (.str x)) (.pv (.int k i)) K = K (.pv (.int .u8 (x.getD i 0).toNat)) := ixS und11 h
theorem ss11 (h : i ≤ x.length) : sliceD Go.Proofs.Try.prog 11 (.pv (.str x)) (some (.pv (.int k i))) none K = K (.pv (.str (x.drop i))) := slS und11 h
theorem st11 (h : i ≤ x.length) : sliceD Go.Proofs.Try.prog 11 (.pv (.str x)) none (some (.pv (.int k i))) K = K (.pv (.str (x.take i))) := slS0 und11 h
theorem sb11 (h : i ≤ j) (h2 : j ≤ x.length) : sliceD Go.Proofs.Try.prog 11 (.pv (.str x)) (some (.pv (.int k i))) (some (.pv (.int k2 j))) K = K (.pv (.str ((x.take j).drop i))) := slS2 und11 h h2
@[go_sem] theorem ld12 : loadD Go.Proofs.Try.prog σ 12 (.addr id off) K = ldM (σ id) off K := ldA hT12 ag12
@[go_sem] theorem le12 : loadD Go.Proofs.Try.prog σ 12 (.elemP cs off) K = (∃ v, cs[off]? = some v ∧ K (.pv v)) := load_elem hT12 ag12
@[go_sem] theorem stp12 : storeD Go.Proofs.Try.prog σ 12 (.addr id off) (.pv p) KS = stM σ id (σ id) off (.pv p) KS := stA hT12 sz12 rfl rfl
@[go_sem] theorem fa13_0 : fieldAddrD Go.Proofs.Try.prog 13 (.addr id off) 0 K = K (.addr id (off + 0)) := by
  rw [fa_addr (by rw [fo13_0]; rfl)]; simp only [fo13_0, Option.getD_some, hT9, sz9, true_and]; simp
@[go_sem] theorem fe13_0 : fieldAddrD Go.Proofs.Try.prog 13 (.elemP cs off) 0 K = K (.elemP cs (off + 0)) := by
  rw [fa_elem (by rw [fo13_0]; rfl)]; simp only [fo13_0, Option.getD_some, hT9, sz9, true_and]; simp
@[go_sem] theorem fa13_1 : fieldAddrD Go.Proofs.Try.prog 13 (.addr id off) 1 K = K (.addr id (off + 1)) := by
  rw [fa_addr (by rw [fo13_1]; rfl)]; simp only [fo13_1, Option.getD_some, hT12, sz12, true_and]; simp
@[go_sem] theorem fe13_1 : fieldAddrD Go.Proofs.Try.prog 13 (.elemP cs off) 1 K = K (.elemP cs (off + 1)) := by
  rw [fa_elem (by rw [fo13_1]; rfl)]; simp only [fo13_1, Option.getD_some, hT12, sz12, true_and]; simp
@[go_sem] theorem fa14_0 : fieldAddrD Go.Proofs.Try.prog 14 (.addr id off) 0 K = K (.addr id (off + 0)) := by
  rw [fa_addr (by rw [fo14_0]; rfl)]; simp only [fo14_0, Option.getD_some, hT9, sz9, true_and]; simp
@[go_sem] theorem fe14_0 : fieldAddrD Go.Proofs.Try.prog 14 (.elemP cs off) 0 K = K (.elemP cs (off + 0)) := by
  rw [fa_elem (by rw [fo14_0]; rfl)]; simp only [fo14_0, Option.getD_some, hT9, sz9, true_and]; simp
@[go_sem] theorem fa14_1 : fieldAddrD Go.Proofs.Try.prog 14 (.addr id off) 1 K = K (.addr id (off + 1)) := by
  rw [fa_addr (by rw [fo14_1]; rfl)]; simp only [fo14_1, Option.getD_some, hT12, sz12, true_and]; simp
@[go_sem] theorem fe14_1 : fieldAddrD Go.Proofs.Try.prog 14 (.elemP cs off) 1 K = K (.elemP cs (off + 1)) := by
  rw [fa_elem (by rw [fo14_1]; rfl)]; simp only [fo14_1, Option.getD_some, hT12, sz12, true_and]; simp
@[go_sem] theorem ld15 : loadD Go.Proofs.Try.prog σ 15 (.addr id off) K = ldM (σ id) off K := ldA hT15 ag15
@[go_sem] theorem le15 : loadD Go.Proofs.Try.prog σ 15 (.elemP cs off) K = (∃ v, cs[off]? = some v ∧ K (.pv v)) := load_elem hT15 ag15
@[go_sem] theorem stp15 : storeD Go.Proofs.Try.prog σ 15 (.addr id off) (.pv p) KS = stM σ id (σ id) off (.pv p) KS := stA hT15 sz15 rfl rfl
@[go_sem] theorem sta15 {j o : Nat} : storeD Go.Proofs.Try.prog σ 15 (.addr id off) (.addr j o) KS = stM σ id (σ id) off (.addr j o) KS := stA hT15 sz15 rfl rfl
@[go_sem] theorem ld16 : loadD Go.Proofs.Try.prog σ 16 (.addr id off) K = ldM (σ id) off K := ldA hT16 ag16
@[go_sem] theorem le16 : loadD Go.Proofs.Try.prog σ 16 (.elemP cs off) K = (∃ v, cs[off]? = some v ∧ K (.pv v)) := load_elem hT16 ag16
@[go_sem] theorem stp16 : storeD Go.Proofs.Try.prog σ 16 (.addr id off) (.pv p) KS = stM σ id (σ id) off (.pv p) KS := stA hT16 sz16 rfl rfl
@[go_sem] theorem sta16 {j o : Nat} : storeD Go.Proofs.Try.prog σ 16 (.addr id off) (.addr j o) KS = stM σ id (σ id) off (.addr j o) KS := stA hT16 sz16 rfl rfl
@[go_sem] theorem ld17 : loadD Go.Proofs.Try.prog σ 17 (.addr id off) K = ldM (σ id) off K := ldA hT17 ag17
@[go_sem] theorem le17 : loadD Go.Proofs.Try.prog σ 17 (.elemP cs off) K = (∃ v, cs[off]? = some v ∧ K (.pv v)) := load_elem hT17 ag17
@[go_sem] theorem stp17 : storeD Go.Proofs.Try.prog σ 17 (.addr id off) (.pv p) KS = stM σ id (σ id) off (.pv p) KS := stA hT17 sz17 rfl rfl
@[go_sem] theorem sta17 {j o : Nat} : storeD Go.Proofs.Try.prog σ 17 (.addr id off) (.addr j o) KS = stM σ id (σ id) off (.addr j o) KS := stA hT17 sz17 rfl rfl
@[go_sem] theorem fa18_0 : fieldAddrD Go.Proofs.Try.prog 18 (.addr id off) 0 K = K (.addr id (off + 0)) := by
  rw [fa_addr (by rw [fo18_0]; rfl)]; simp only [fo18_0, Option.getD_some, hT17, sz17, true_and]; simp
@[go_sem] theorem fe18_0 : fieldAddrD Go.Proofs.Try.prog 18 (.elemP cs off) 0 K = K (.elemP cs (off + 0)) := by
  rw [fa_elem (by rw [fo18_0]; rfl)]; simp only [fo18_0, Option.getD_some, hT17, sz17, true_and]; simp
@[go_sem] theorem fa19_0 : fieldAddrD Go.Proofs.Try.prog 19 (.addr id off) 0 K = K (.addr id (off + 0)) := by
  rw [fa_addr (by rw [fo19_0]; rfl)]; simp only [fo19_0, Option.getD_some, hT17, sz17, true_and]; simp
@[go_sem] theorem fe19_0 : fieldAddrD Go.Proofs.Try.prog 19 (.elemP cs off) 0 K = K (.elemP cs (off + 0)) := by
  rw [fa_elem (by rw [fo19_0]; rfl)]; simp only [fo19_0, Option.getD_some, hT17, sz17, true_and]; simp
@[go_sem] theorem ld20 : loadD Go.Proofs.Try.prog σ 20 (.addr id off) K = ldM (σ id) off K := ldA hT20 ag20
@[go_sem] theorem le20 : loadD Go.Proofs.Try.prog σ 20 (.elemP cs off) K = (∃ v, cs[off]? = some v ∧ K (.pv v)) := load_elem hT20 ag20
@[go_sem] theorem stp20 : storeD Go.Proofs.Try.prog σ 20 (.addr id off) (.pv p) KS = stM σ id (σ id) off (.pv p) KS := stA hT20 sz20 rfl rfl
@[go_sem] theorem ld21 : loadD Go.Proofs.Try.prog σ 21 (.addr id off) K = ldM (σ id) off K := ldA hT21 ag21
@[go_sem] theorem le21 : loadD Go.Proofs.Try.prog σ 21 (.elemP cs off) K = (∃ v, cs[off]? = some v ∧ K (.pv v)) := load_elem hT21 ag21
@[go_sem] theorem stp21 : storeD Go.Proofs.Try.prog σ 21 (.addr id off) (.pv p) KS = stM σ id (σ id) off (.pv p) KS := stA hT21 sz21 rfl rfl
@[go_sem] theorem ld22 : loadD Go.Proofs.Try.prog σ 22 (.addr id off) K = ldM (σ id) off K := ldA hT22 ag22
@[go_sem] theorem le22 : loadD Go.Proofs.Try.prog σ 22 (.elemP cs off) K = (∃ v, cs[off]? = some v ∧ K (.pv v)) := load_elem hT22 ag22
@[go_sem] theorem stp22 : storeD Go.Proofs.Try.prog σ 22 (.addr id off) (.pv p) KS = stM σ id (σ id) off (.pv p) KS := stA hT22 sz22 rfl rfl
@[go_sem] theorem ld23 : loadD Go.Proofs.Try.prog σ 23 (.addr id off) K = ldM (σ id) off K := ldA hT23 ag23
@[go_sem] theorem le23 : loadD Go.Proofs.Try.prog σ 23 (.elemP cs off) K = (∃ v, cs[off]? = some v ∧ K (.pv v)) := load_elem hT23 ag23
@[go_sem] theorem stp23 : storeD Go.Proofs.Try.prog σ 23 (.addr id off) (.pv p) KS = stM σ id (σ id) off (.pv p) KS := stA hT23 sz23 rfl rfl
theorem stv23 {v : AV} (hv : v.cells = [v]) (h2 : v.cellOk = true) : storeD Go.Proofs.Try.prog σ 23 (.addr id off) v KS = stM σ id (σ id) off v KS := stA hT23 sz23 hv h2
@[go_sem] theorem lnl23 : lenD Go.Proofs.Try.prog 23 (.pv (.lst n cs)) K = K (.pv (.int .i64 n)) := len_lst (by rw [el23]; rfl)
@[go_sem] theorem lng23 : lenD Go.Proofs.Try.prog 23 (.grow id n cs) K = K (.pv (.int .i64 n)) := len_grow (by rw [el23]; rfl)
@[go_sem] theorem lnf23 : lenD Go.Proofs.Try.prog 23 (.full n cs) K = K (.pv (.int .i64 n)) := len_full (by rw [el23]; rfl)
@[go_sem] theorem lnm23 : lenD Go.Proofs.Try.prog 23 (.msl id off n size) K = K (.pv (.int .i64 n)) := len_msl (by rw [el23]; rfl)
@[go_sem] theorem lnn23 : lenD Go.Proofs.Try.prog 23 .nilS K = K (.pv (.int .i64 0)) := len_nil (by rw [el23]; rfl)
theorem lnv23 {v : AV} (h : toPV v = some (.lst n cs)) : lenD Go.Proofs.Try.prog 23 v K = K (.pv (.int .i64 n)) := len_of (by rw [el23]; rfl) h
theorem ixm23 (h : i < n) : indexAddrD Go.Proofs.Try.prog 23 (.msl id off n size) (.pv (.int k i)) K = K (.addr id (off + i * 2)) := by
  rw [ix_msl (by rw [el23]; rfl)]; simp only [el23, Option.getD_some, iS30, sz30, Int.toNat_natCast, true_and]; simp [h]
theorem ixl23 (h : i < n) (hl : cs.length = n * 2) : indexAddrD Go.Proofs.Try.prog 23 (.pv (.lst n cs)) (.pv (.int k i)) K = K (.elemP cs (i * 2)) := by
  rw [ix_lst (by rw [el23]; rfl)]; simp only [el23, Option.getD_some, iS30, sz30, Int.toNat_natCast, true_and]; simp [h, hl]
theorem ixv23 {v : AV} (hv : toPV v = some (.lst n cs)) (h : i < n) (hl : cs.length = n * 2) (hK : K (.elemP cs (i * 2))) : indexAddrD Go.Proofs.Try.prog 23 v (.pv (.int k i)) K := by
  refine ix_of (by rw [el23]; rfl) hv (by rw [el23]; exact iS30) (by rw [el23, Option.getD_some, sz30, hl]; exact Nat.le_refl _) (by rw [el23, Option.getD_some, sz30]; decide) (by omega) (by omega) ?_
  rw [el23, Option.getD_some, sz30, Int.toNat_natCast]; exact hK
@[go_sem] theorem ld24 : loadD Go.Proofs.Try.prog σ 24 (.addr id off) K = ldM (σ id) off K := ldA hT24 ag24
@[go_sem] theorem le24 : loadD Go.Proofs.Try.prog σ 24 (.elemP cs off) K = (∃ v, cs[off]? = some v ∧ K (.pv v)) := load_elem hT24 ag24
@[go_sem] theorem stp24 : storeD Go.Proofs.Try.prog σ 24 (.addr id off) (.pv p) KS = stM σ id (σ id) off (.pv p) KS := stA hT24 sz24 rfl rfl
@[go_sem] theorem ld25 : loadD Go.Proofs.Try.prog σ 25 (.addr id off) K = ldM (σ id) off K := ldA hT25 ag25
@[go_sem] theorem le25 : loadD Go.Proofs.Try.prog σ 25 (.elemP cs off) K = (∃ v, cs[off]? = some v ∧ K (.pv v)) := load_elem hT25 ag25
@[go_sem] theorem stp25 : storeD Go.Proofs.Try.prog σ 25 (.addr id off) (.pv p) KS = stM σ id (σ id) off (.pv p) KS := stA hT25 sz25 rfl rfl
@[go_sem] theorem ld26 : loadD Go.Proofs.Try.prog σ 26 (.addr id off) K = ldM (σ id) off K := ldA hT26 ag26
@[go_sem] theorem le26 : loadD Go.Proofs.Try.prog σ 26 (.elemP cs off) K = (∃ v, cs[off]? = some v ∧ K (.pv v)) := load_elem hT26 ag26
@[go_sem] theorem stp26 : storeD Go.Proofs.Try.prog σ 26 (.addr id off) (.pv p) KS = stM σ id (σ id) off (.pv p) KS := stA hT26 sz26 rfl rfl
@[go_sem] theorem ld27 : loadD Go.Proofs.Try.prog σ 27 (.addr id off) K = ldM (σ id) off K := ldA hT27 ag27
@[go_sem] theorem le27 : loadD Go.Proofs.Try.prog σ 27 (.elemP cs off) K = (∃ v, cs[off]? = some v ∧ K (.pv v)) := load_elem hT27 ag27
@[go_sem] theorem stp27 : storeD Go.Proofs.Try.prog σ 27 (.addr id off) (.pv p) KS = stM σ id (σ id) off (.pv p) KS := stA hT27 sz27 rfl rfl
@[go_sem] theorem ld28 : loadD Go.Proofs.Try.prog σ 28 (.addr id off) K = ldM (σ id) off K := ldA hT28 ag28
@[go_sem] theorem le28 : loadD Go.Proofs.Try.prog σ 28 (.elemP cs off) K = (∃ v, cs[off]? = some v ∧ K (.pv v)) := load_elem hT28 ag28
@[go_sem] theorem stp28 : storeD Go.Proofs.Try.prog σ 28 (.addr id off) (.pv p) KS = stM σ id (σ id) off (.pv p) KS := stA hT28 sz28 rfl rfl
@[go_sem] theorem fa29_0 : fieldAddrD Go.Proofs.Try.prog 29 (.addr id off) 0 K = K (.addr id (off + 0)) := by
  rw [fa_addr (by rw [fo29_0]; rfl)]; simp only [fo29_0, Option.getD_some, hT9, sz9, true_and]; simp
@[go_sem] theorem fe29_0 : fieldAddrD Go.Proofs.Try.prog 29 (.elemP cs off) 0 K = K (.elemP cs (off + 0)) := by
  rw [fa_elem (by rw [fo29_0]; rfl)]; simp only [fo29_0, Option.getD_some, hT9, sz9, true_and]; simp
@[go_sem] theorem fa29_1 : fieldAddrD Go.Proofs.Try.prog 29 (.addr id off) 1 K = K (.addr id (off + 1)) := by
  rw [fa_addr (by rw [fo29_1]; rfl)]; simp only [fo29_1, Option.getD_some, hT9, sz9, true_and]; simp
@[go_sem] theorem fe29_1 : fieldAddrD Go.Proofs.Try.prog 29 (.elemP cs off) 1 K = K (.elemP cs (off + 1)) := by
  rw [fa_elem (by rw [fo29_1]; rfl)]; simp only [fo29_1, Option.getD_some, hT9, sz9, true_and]; simp
@[go_sem] theorem fa30_0 : fieldAddrD Go.Proofs.Try.prog 30 (.addr id off) 0 K = K (.addr id (off + 0)) := by
  rw [fa_addr (by rw [fo30_0]; rfl)]; simp only [fo30_0, Option.getD_some, hT9, sz9, true_and]; simp
@[go_sem] theorem fe30_0 : fieldAddrD Go.Proofs.Try.prog 30 (.elemP cs off) 0 K = K (.elemP cs (off + 0)) := by
  rw [fa_elem (by rw [fo30_0]; rfl)]; simp only [fo30_0, Option.getD_some, hT9, sz9, true_and]; simp
@[go_sem] theorem fa30_1 : fieldAddrD Go.Proofs.Try.prog 30 (.addr id off) 1 K = K (.addr id (off + 1)) := by
  rw [fa_addr (by rw [fo30_1]; rfl)]; simp only [fo30_1, Option.getD_some, hT9, sz9, true_and]; simp
@[go_sem] theorem fe30_1 : fieldAddrD Go.Proofs.Try.prog 30 (.elemP cs off) 1 K = K (.elemP cs (off + 1)) := by
  rw [fa_elem (by rw [fo30_1]; rfl)]; simp only [fo30_1, Option.getD_some, hT9, sz9, true_and]; simp
@[go_sem] theorem ld31 : loadD Go.Proofs.Try.prog σ 31 (.addr id off) K = ldM (σ id) off K := ldA hT31 ag31
@[go_sem] theorem le31 : loadD Go.Proofs.Try.prog σ 31 (.elemP cs off) K = (∃ v, cs[off]? = some v ∧ K (.pv v)) := load_elem hT31 ag31
@[go_sem] theorem stp31 : storeD Go.Proofs.Try.prog σ 31 (.addr id off) (.pv p) KS = stM σ id (σ id) off (.pv p) KS := stA hT31 sz31 rfl rfl
@[go_sem] theorem ld32 : loadD Go.Proofs.Try.prog σ 32 (.addr id off) K = ldM (σ id) off K := ldA hT32 ag32
@[go_sem] theorem le32 : loadD Go.Proofs.Try.prog σ 32 (.elemP cs off) K = (∃ v, cs[off]? = some v ∧ K (.pv v)) := load_elem hT32 ag32
@[go_sem] theorem stp32 : storeD Go.Proofs.Try.prog σ 32 (.addr id off) (.pv p) KS = stM σ id (σ id) off (.pv p) KS := stA hT32 sz32 rfl rfl
theorem stv32 {v : AV} (hv : v.cells = [v]) (h2 : v.cellOk = true) : storeD Go.Proofs.Try.prog σ 32 (.addr id off) v KS = stM σ id (σ id) off v KS := stA hT32 sz32 hv h2
@[go_sem] theorem lnl32 : lenD Go.Proofs.Try.prog 32 (.pv (.lst n cs)) K = K (.pv (.int .i64 n)) := len_lst (by rw [el32]; rfl)
@[go_sem] theorem lng32 : lenD Go.Proofs.Try.prog 32 (.grow id n cs) K = K (.pv (.int .i64 n)) := len_grow (by rw [el32]; rfl)
@[go_sem] theorem lnf32 : lenD Go.Proofs.Try.prog 32 (.full n cs) K = K (.pv (.int .i64 n)) := len_full (by rw [el32]; rfl)
@[go_sem] theorem lnm32 : lenD Go.Proofs.Try.prog 32 (.msl id off n size) K = K (.pv (.int .i64 n)) := len_msl (by rw [el32]; rfl)
@[go_sem] theorem lnn32 : lenD Go.Proofs.Try.prog 32 .nilS K = K (.pv (.int .i64 0)) := len_nil (by rw [el32]; rfl)
theorem lnv32 {v : AV} (h : toPV v = some (.lst n cs)) : lenD Go.Proofs.Try.prog 32 v K = K (.pv (.int .i64 n)) := len_of (by rw [el32]; rfl) h
theorem ixm32 (h : i < n) : indexAddrD Go.Proofs.Try.prog 32 (.msl id off n size) (.pv (.int k i)) K = K (.addr id (off + i * 5)) := by
  rw [ix_msl (by rw [el32]; rfl)]; simp only [el32, Option.getD_some, iS34, sz34, Int.toNat_natCast, true_and]; simp [h]
theorem ixl32 (h : i < n) (hl : cs.length = n * 5) : indexAddrD Go.Proofs.Try.prog 32 (.pv (.lst n cs)) (.pv (.int k i)) K = K (.elemP cs (i * 5)) := by
  rw [ix_lst (by rw [el32]; rfl)]; simp only [el32, Option.getD_some, iS34, sz34, Int.toNat_natCast, true_and]; simp [h, hl]
theorem ixv32 {v : AV} (hv : toPV v = some (.lst n cs)) (h : i < n) (hl : cs.length = n * 5) (hK : K (.elemP cs (i * 5))) : indexAddrD Go.Proofs.Try.prog 32 v (.pv (.int k i)) K := by
  refine ix_of (by rw [el32]; rfl) hv (by rw [el32]; exact iS34) (by rw [el32, Option.getD_some, sz34, hl]; exact Nat.le_refl _) (by rw [el32, Option.getD_some, sz34]; decide) (by omega) (by omega) ?_
  rw [el32, Option.getD_some, sz34, Int.toNat_natCast]; exact hK
@[go_sem] theorem fa33_0 : fieldAddrD Go.Proofs.Try.prog 33 (.addr id off) 0 K = K (.addr id (off + 0)) := by
  rw [fa_addr (by rw [fo33_0]; rfl)]; simp only [fo33_0, Option.getD_some, hT9, sz9, true_and]; simp
@[go_sem] theorem fe33_0 : fieldAddrD Go.Proofs.Try.prog 33 (.elemP cs off) 0 K = K (.elemP cs (off + 0)) := by
  rw [fa_elem (by rw [fo33_0]; rfl)]; simp only [fo33_0, Option.getD_some, hT9, sz9, true_and]; simp
@[go_sem] theorem fa33_1 : fieldAddrD Go.Proofs.Try.prog 33 (.addr id off) 1 K = K (.addr id (off + 1)) := by
  rw [fa_addr (by rw [fo33_1]; rfl)]; simp only [fo33_1, Option.getD_some, hT9, sz9, true_and]; simp
@[go_sem] theorem fe33_1 : fieldAddrD Go.Proofs.Try.prog 33 (.elemP cs off) 1 K = K (.elemP cs (off + 1)) := by
  rw [fa_elem (by rw [fo33_1]; rfl)]; simp only [fo33_1, Option.getD_some, hT9, sz9, true_and]; simp
@[go_sem] theorem fa33_2 : fieldAddrD Go.Proofs.Try.prog 33 (.addr id off) 2 K = K (.addr id (off + 2)) := by
  rw [fa_addr (by rw [fo33_2]; rfl)]; simp only [fo33_2, Option.getD_some, hT32, sz32, true_and]; simp
@[go_sem] theorem fe33_2 : fieldAddrD Go.Proofs.Try.prog 33 (.elemP cs off) 2 K = K (.elemP cs (off + 2)) := by
  rw [fa_elem (by rw [fo33_2]; rfl)]; simp only [fo33_2, Option.getD_some, hT32, sz32, true_and]; simp
@[go_sem] theorem fa33_3 : fieldAddrD Go.Proofs.Try.prog 33 (.addr id off) 3 K = K (.addr id (off + 3)) := by
  rw [fa_addr (by rw [fo33_3]; rfl)]; simp only [fo33_3, Option.getD_some, hT3, sz3, true_and]; simp
@[go_sem] theorem fe33_3 : fieldAddrD Go.Proofs.Try.prog 33 (.elemP cs off) 3 K = K (.elemP cs (off + 3)) := by
  rw [fa_elem (by rw [fo33_3]; rfl)]; simp only [fo33_3, Option.getD_some, hT3, sz3, true_and]; simp
@[go_sem] theorem fa33_4 : fieldAddrD Go.Proofs.Try.prog 33 (.addr id off) 4 K = K (.addr id (off + 4)) := by
  rw [fa_addr (by rw [fo33_4]; rfl)]; simp only [fo33_4, Option.getD_some, hT3, sz3, true_and]; simp
@[go_sem] theorem fe33_4 : fieldAddrD Go.Proofs.Try.prog 33 (.elemP cs off) 4 K = K (.elemP cs (off + 4)) := by
  rw [fa_elem (by rw [fo33_4]; rfl)]; simp only [fo33_4, Option.getD_some, hT3, sz3, true_and]; simp
@[go_sem] theorem fa34_0 : fieldAddrD Go.Proofs.Try.prog 34 (.addr id off) 0 K = K (.addr id (off + 0)) := by
  rw [fa_addr (by rw [fo34_0]; rfl)]; simp only [fo34_0, Option.getD_some, hT9, sz9, true_and]; simp
@[go_sem] theorem fe34_0 : fieldAddrD Go.Proofs.Try.prog 34 (.elemP cs off) 0 K = K (.elemP cs (off + 0)) := by
  rw [fa_elem (by rw [fo34_0]; rfl)]; simp only [fo34_0, Option.getD_some, hT9, sz9, true_and]; simp
@[go_sem] theorem fa34_1 : fieldAddrD Go.Proofs.Try.prog 34 (.addr id off) 1 K = K (.addr id (off + 1)) := by
  rw [fa_addr (by rw [fo34_1]; rfl)]; simp only [fo34_1, Option.getD_some, hT9, sz9, true_and]; simp
@[go_sem] theorem fe34_1 : fieldAddrD Go.Proofs.Try.prog 34 (.elemP cs off) 1 K = K (.elemP cs (off + 1)) := by
  rw [fa_elem (by rw [fo34_1]; rfl)]; simp only [fo34_1, Option.getD_some, hT9, sz9, true_and]; simp
@[go_sem] theorem fa34_2 : fieldAddrD Go.Proofs.Try.prog 34 (.addr id off) 2 K = K (.addr id (off + 2)) := by
  rw [fa_addr (by rw [fo34_2]; rfl)]; simp only [fo34_2, Option.getD_some, hT32, sz32, true_and]; simp
@[go_sem] theorem fe34_2 : fieldAddrD Go.Proofs.Try.prog 34 (.elemP cs off) 2 K = K (.elemP cs (off + 2)) := by
  rw [fa_elem (by rw [fo34_2]; rfl)]; simp only [fo34_2, Option.getD_some, hT32, sz32, true_and]; simp
@[go_sem] theorem fa34_3 : fieldAddrD Go.Proofs.Try.prog 34 (.addr id off) 3 K = K (.addr id (off + 3)) := by
  rw [fa_addr (by rw [fo34_3]; rfl)]; simp only [fo34_3, Option.getD_some, hT3, sz3, true_and]; simp
@[go_sem] theorem fe34_3 : fieldAddrD Go.Proofs.Try.prog 34 (.elemP cs off) 3 K = K (.elemP cs (off + 3)) := by
  rw [fa_elem (by rw [fo34_3]; rfl)]; simp only [fo34_3, Option.getD_some, hT3, sz3, true_and]; simp
@[go_sem] theorem fa34_4 : fieldAddrD Go.Proofs.Try.prog 34 (.addr id off) 4 K = K (.addr id (off + 4)) := by
  rw [fa_addr (by rw [fo34_4]; rfl)]; simp only [fo34_4, Option.getD_some, hT3, sz3, true_and]; simp
@[go_sem] theorem fe34_4 : fieldAddrD Go.Proofs.Try.prog 34 (.elemP cs off) 4 K = K (.elemP cs (off + 4)) := by
  rw [fa_elem (by rw [fo34_4]; rfl)]; simp only [fo34_4, Option.getD_some, hT3, sz3, true_and]; simp
@[go_sem] theorem ld35 : loadD Go.Proofs.Try.prog σ 35 (.addr id off) K = ldM (σ id) off K := ldA hT35 ag35
@[go_sem] theorem le35 : loadD Go.Proofs.Try.prog σ 35 (.elemP cs off) K = (∃ v, cs[off]? = some v ∧ K (.pv v)) := load_elem hT35 ag35
@[go_sem] theorem stp35 : storeD Go.Proofs.Try.prog σ 35 (.addr id off) (.pv p) KS = stM σ id (σ id) off (.pv p) KS := stA hT35 sz35 rfl rfl
@[go_sem] theorem ld36 : loadD Go.Proofs.Try.prog σ 36 (.addr id off) K = ldM (σ id) off K := ldA hT36 ag36
@[go_sem] theorem le36 : loadD Go.Proofs.Try.prog σ 36 (.elemP cs off) K = (∃ v, cs[off]? = some v ∧ K (.pv v)) := load_elem hT36 ag36
@[go_sem] theorem stp36 : storeD Go.Proofs.Try.prog σ 36 (.addr id off) (.pv p) KS = stM σ id (σ id) off (.pv p) KS := stA hT36 sz36 rfl rfl
@[go_sem] theorem ld37 : loadD Go.Proofs.Try.prog σ 37 (.addr id off) K = ldM (σ id) off K := ldA hT37 ag37
@[go_sem] theorem le37 : loadD Go.Proofs.Try.prog σ 37 (.elemP cs off) K = (∃ v, cs[off]? = some v ∧ K (.pv v)) := load_elem hT37 ag37
@[go_sem] theorem stp37 : storeD Go.Proofs.Try.prog σ 37 (.addr id off) (.pv p) KS = stM σ id (σ id) off (.pv p) KS := stA hT37 sz37 rfl rfl
@[go_sem] theorem ld39 : loadD Go.Proofs.Try.prog σ 39 (.addr id off) K = ldM (σ id) off K := ldA hT39 ag39
@[go_sem] theorem le39 : loadD Go.Proofs.Try.prog σ 39 (.elemP cs off) K = (∃ v, cs[off]? = some v ∧ K (.pv v)) := load_elem hT39 ag39
@[go_sem] theorem stp39 : storeD Go.Proofs.Try.prog σ 39 (.addr id off) (.pv p) KS = stM σ id (σ id) off (.pv p) KS := stA hT39 sz39 rfl rfl
@[go_sem] theorem sta39 {j o : Nat} : storeD Go.Proofs.Try.prog σ 39 (.addr id off) (.addr j o) KS = stM σ id (σ id) off (.addr j o) KS := stA hT39 sz39 rfl rfl
@[go_sem] theorem fa40_0 : fieldAddrD Go.Proofs.Try.prog 40 (.addr id off) 0 K = K (.addr id (off + 0)) := by
  rw [fa_addr (by rw [fo40_0]; rfl)]; simp only [fo40_0, Option.getD_some, hT9, sz9, true_and]; simp
@[go_sem] theorem fe40_0 : fieldAddrD Go.Proofs.Try.prog 40 (.elemP cs off) 0 K = K (.elemP cs (off + 0)) := by
  rw [fa_elem (by rw [fo40_0]; rfl)]; simp only [fo40_0, Option.getD_some, hT9, sz9, true_and]; simp
@[go_sem] theorem fa40_1 : fieldAddrD Go.Proofs.Try.prog 40 (.addr id off) 1 K = K (.addr id (off + 1)) := by
  rw [fa_addr (by rw [fo40_1]; rfl)]; simp only [fo40_1, Option.getD_some, hT23, sz23, true_and]; simp
@[go_sem] theorem fe40_1 : fieldAddrD Go.Proofs.Try.prog 40 (.elemP cs off) 1 K = K (.elemP cs (off + 1)) := by
  rw [fa_elem (by rw [fo40_1]; rfl)]; simp only [fo40_1, Option.getD_some, hT23, sz23, true_and]; simp
@[go_sem] theorem fa41_0 : fieldAddrD Go.Proofs.Try.prog 41 (.addr id off) 0 K = K (.addr id (off + 0)) := by
  rw [fa_addr (by rw [fo41_0]; rfl)]; simp only [fo41_0, Option.getD_some, hT9, sz9, true_and]; simp
@[go_sem] theorem fe41_0 : fieldAddrD Go.Proofs.Try.prog 41 (.elemP cs off) 0 K = K (.elemP cs (off + 0)) := by
  rw [fa_elem (by rw [fo41_0]; rfl)]; simp only [fo41_0, Option.getD_some, hT9, sz9, true_and]; simp
@[go_sem] theorem fa41_1 : fieldAddrD Go.Proofs.Try.prog 41 (.addr id off) 1 K = K (.addr id (off + 1)) := by
  rw [fa_addr (by rw [fo41_1]; rfl)]; simp only [fo41_1, Option.getD_some, hT23, sz23, true_and]; simp
@[go_sem] theorem fe41_1 : fieldAddrD Go.Proofs.Try.prog 41 (.elemP cs off) 1 K = K (.elemP cs (off + 1)) := by
  rw [fa_elem (by rw [fo41_1]; rfl)]; simp only [fo41_1, Option.getD_some, hT23, sz23, true_and]; simp
@[go_sem] theorem ld42 : loadD Go.Proofs.Try.prog σ 42 (.addr id off) K = ldM (σ id) off K := ldA hT42 ag42
@[go_sem] theorem le42 : loadD Go.Proofs.Try.prog σ 42 (.elemP cs off) K = (∃ v, cs[off]? = some v ∧ K (.pv v)) := load_elem hT42 ag42
@[go_sem] theorem stp42 : storeD Go.Proofs.Try.prog σ 42 (.addr id off) (.pv p) KS = stM σ id (σ id) off (.pv p) KS := stA hT42 sz42 rfl rfl
@[go_sem] theorem ld43 : loadD Go.Proofs.Try.prog σ 43 (.addr id off) K = ldM (σ id) off K := ldA hT43 ag43
@[go_sem] theorem le43 : loadD Go.Proofs.Try.prog σ 43 (.elemP cs off) K = (∃ v, cs[off]? = some v ∧ K (.pv v)) := load_elem hT43 ag43
@[go_sem] theorem stp43 : storeD Go.Proofs.Try.prog σ 43 (.addr id off) (.pv p) KS = stM σ id (σ id) off (.pv p) KS := stA hT43 sz43 rfl rfl
@[go_sem] theorem ld44 : loadD Go.Proofs.Try.prog σ 44 (.addr id off) K = ldM (σ id) off K := ldA hT44 ag44
@[go_sem] theorem le44 : loadD Go.Proofs.Try.prog σ 44 (.elemP cs off) K = (∃ v, cs[off]? = some v ∧ K (.pv v)) := load_elem hT44 ag44
@[go_sem] theorem stp44 : storeD Go.Proofs.Try.prog σ 44 (.addr id off) (.pv p) KS = stM σ id (σ id) off (.pv p) KS := stA hT44 sz44 rfl rfl
@[go_sem] theorem ld45 : loadD Go.Proofs.Try.prog σ 45 (.addr id off) K = ldM (σ id) off K := ldA hT45 ag45
@[go_sem] theorem le45 : loadD Go.Proofs.Try.prog σ 45 (.elemP cs off) K = (∃ v, cs[off]? = some v ∧ K (.pv v)) := load_elem hT45 ag45
@[go_sem] theorem stp45 : storeD Go.Proofs.Try.prog σ 45 (.addr id off) (.pv p) KS = stM σ id (σ id) off (.pv p) KS := stA hT45 sz45 rfl rfl
@[go_sem] theorem ld46 : loadD Go.Proofs.Try.prog σ 46 (.addr id off) K = ldM (σ id) off K := ldA hT46 ag46
@[go_sem] theorem le46 : loadD Go.Proofs.Try.prog σ 46 (.elemP cs off) K = (∃ v, cs[off]? = some v ∧ K (.pv v)) := load_elem hT46 ag46
@[go_sem] theorem stp46 : storeD Go.Proofs.Try.prog σ 46 (.addr id off) (.pv p) KS = stM σ id (σ id) off (.pv p) KS := stA hT46 sz46 rfl rfl
@[go_sem] theorem ld47 : loadD Go.Proofs.Try.prog σ 47 (.addr id off) K = ldM (σ id) off K := ldA hT47 ag47
@[go_sem] theorem le47 : loadD Go.Proofs.Try.prog σ 47 (.elemP cs off) K = (∃ v, cs[off]? = some v ∧ K (.pv v)) := load_elem hT47 ag47
@[go_sem] theorem stp47 : storeD Go.Proofs.Try.prog σ 47 (.addr id off) (.pv p) KS = stM σ id (σ id) off (.pv p) KS := stA hT47 sz47 rfl rfl
@[go_sem] theorem ld48 : loadD Go.Proofs.Try.prog σ 48 (.addr id off) K = ldM (σ id) off K := ldA hT48 ag48
@[go_sem] theorem le48 : loadD Go.Proofs.Try.prog σ 48 (.elemP cs off) K = (∃ v, cs[off]? = some v ∧ K (.pv v)) := load_elem hT48 ag48
@[go_sem] theorem stp48 : storeD Go.Proofs.Try.prog σ 48 (.addr id off) (.pv p) KS = stM σ id (σ id) off (.pv p) KS := stA hT48 sz48 rfl rfl
theorem stv48 {v : AV} (hv : v.cells = [v]) (h2 : v.cellOk = true) : storeD Go.Proofs.Try.prog σ 48 (.addr id off) v KS = stM σ id (σ id) off v KS := stA hT48 sz48 hv h2
@[go_sem] theorem lnl48 : lenD Go.Proofs.Try.prog 48 (.pv (.lst n cs)) K = K (.pv (.int .i64 n)) := len_lst (by rw [el48]; rfl)
@[go_sem] theorem lng48 : lenD Go.Proofs.Try.prog 48 (.grow id n cs) K = K (.pv (.int .i64 n)) := len_grow (by rw [el48]; rfl)
@[go_sem] theorem lnf48 : lenD Go.Proofs.Try.prog 48 (.full n cs) K = K (.pv (.int .i64 n)) := len_full (by rw [el48]; rfl)
@[go_sem] theorem lnm48 : lenD Go.Proofs.Try.prog 48 (.msl id off n size) K = K (.pv (.int .i64 n)) := len_msl (by rw [el48]; rfl)
@[go_sem] theorem lnn48 : lenD Go.Proofs.Try.prog 48 .nilS K = K (.pv (.int .i64 0)) := len_nil (by rw [el48]; rfl)
theorem lnv48 {v : AV} (h : toPV v = some (.lst n cs)) : lenD Go.Proofs.Try.prog 48 v K = K (.pv (.int .i64 n)) := len_of (by rw [el48]; rfl) h
theorem ixm48 (h : i < n) : indexAddrD Go.Proofs.Try.prog 48 (.msl id off n size) (.pv (.int k i)) K = K (.addr id (off + i * 1)) := by
  rw [ix_msl (by rw [el48]; rfl)]; simp only [el48, Option.getD_some, iS9, sz9, Int.toNat_natCast, true_and]; simp [h]
theorem ixl48 (h : i < n) (hl : cs.length = n * 1) : indexAddrD Go.Proofs.Try.prog 48 (.pv (.lst n cs)) (.pv (.int k i)) K = K (.elemP cs (i * 1)) := by
  rw [ix_lst (by rw [el48]; rfl)]; simp only [el48, Option.getD_some, iS9, sz9, Int.toNat_natCast, true_and]; simp [h, hl]
theorem ixv48 {v : AV} (hv : toPV v = some (.lst n cs)) (h : i < n) (hl : cs.length = n * 1) (hK : K (.elemP cs (i * 1))) : indexAddrD Go.Proofs.Try.prog 48 v (.pv (.int k i)) K := by
  refine ix_of (by rw [el48]; rfl) hv (by rw [el48]; exact iS9) (by rw [el48, Option.getD_some, sz9, hl]; exact Nat.le_refl _) (by rw [el48, Option.getD_some, sz9]; decide) (by omega) (by omega) ?_
  rw [el48, Option.getD_some, sz9, Int.toNat_natCast]; exact hK
@[go_sem] theorem ld49 : loadD Go.Proofs.Try.prog σ 49 (.addr id off) K = ldM (σ id) off K := ldA hT49 ag49
@[go_sem] theorem le49 : loadD Go.Proofs.Try.prog σ 49 (.elemP cs off) K = (∃ v, cs[off]? = some v ∧ K (.pv v)) := load_elem hT49 ag49
@[go_sem] theorem stp49 : storeD Go.Proofs.Try.prog σ 49 (.addr id off) (.pv p) KS = stM σ id (σ id) off (.pv p) KS := stA hT49 sz49 rfl rfl
@[go_sem] theorem ld50 : loadD Go.Proofs.Try.prog σ 50 (.addr id off) K = ldM (σ id) off K := ldA hT50 ag50
@[go_sem] theorem le50 : loadD Go.Proofs.Try.prog σ 50 (.elemP cs off) K = (∃ v, cs[off]? = some v ∧ K (.pv v)) := load_elem hT50 ag50
@[go_sem] theorem stp50 : storeD Go.Proofs.Try.prog σ 50 (.addr id off) (.pv p) KS = stM σ id (σ id) off (.pv p) KS := stA hT50 sz50 rfl rfl
theorem stv50 {v : AV} (hv : v.cells = [v]) (h2 : v.cellOk = true) : storeD Go.Proofs.Try.prog σ 50 (.addr id off) v KS = stM σ id (σ id) off v KS := stA hT50 sz50 hv h2
@[go_sem] theorem lnl50 : lenD Go.Proofs.Try.prog 50 (.pv (.lst n cs)) K = K (.pv (.int .i64 n)) := len_lst (by rw [el50]; rfl)
@[go_sem] theorem lng50 : lenD Go.Proofs.Try.prog 50 (.grow id n cs) K = K (.pv (.int .i64 n)) := len_grow (by rw [el50]; rfl)
@[go_sem] theorem lnf50 : lenD Go.Proofs.Try.prog 50 (.full n cs) K = K (.pv (.int .i64 n)) := len_full (by rw [el50]; rfl)
@[go_sem] theorem lnm50 : lenD Go.Proofs.Try.prog 50 (.msl id off n size) K = K (.pv (.int .i64 n)) := len_msl (by rw [el50]; rfl)
@[go_sem] theorem lnn50 : lenD Go.Proofs.Try.prog 50 .nilS K = K (.pv (.int .i64 0)) := len_nil (by rw [el50]; rfl)
theorem lnv50 {v : AV} (h : toPV v = some (.lst n cs)) : lenD Go.Proofs.Try.prog 50 v K = K (.pv (.int .i64 n)) := len_of (by rw [el50]; rfl) h
theorem ixm50 (h : i < n) : indexAddrD Go.Proofs.Try.prog 50 (.msl id off n size) (.pv (.int k i)) K = K (.addr id (off + i * 1)) := by
  rw [ix_msl (by rw [el50]; rfl)]; simp only [el50, Option.getD_some, iS5, sz5, Int.toNat_natCast, true_and]; simp [h]
theorem ixl50 (h : i < n) (hl : cs.length = n * 1) : indexAddrD Go.Proofs.Try.prog 50 (.pv (.lst n cs)) (.pv (.int k i)) K = K (.elemP cs (i * 1)) := by
  rw [ix_lst (by rw [el50]; rfl)]; simp only [el50, Option.getD_some, iS5, sz5, Int.toNat_natCast, true_and]; simp [h, hl]
theorem ixv50 {v : AV} (hv : toPV v = some (.lst n cs)) (h : i < n) (hl : cs.length = n * 1) (hK : K (.elemP cs (i * 1))) : indexAddrD Go.Proofs.Try.prog 50 v (.pv (.int k i)) K := by
  refine ix_of (by rw [el50]; rfl) hv (by rw [el50]; exact iS5) (by rw [el50, Option.getD_some, sz5, hl]; exact Nat.le_refl _) (by rw [el50, Option.getD_some, sz5]; decide) (by omega) (by omega) ?_
  rw [el50, Option.getD_some, sz5, Int.toNat_natCast]; exact hK
@[go_sem] theorem ld51 : loadD Go.Proofs.Try.prog σ 51 (.addr id off) K = ldM (σ id) off K := ldA hT51 ag51
@[go_sem] theorem le51 : loadD Go.Proofs.Try.prog σ 51 (.elemP cs off) K = (∃ v, cs[off]? = some v ∧ K (.pv v)) := load_elem hT51 ag51
@[go_sem] theorem stp51 : storeD Go.Proofs.Try.prog σ 51 (.addr id off) (.pv p) KS = stM σ id (σ id) off (.pv p) KS := stA hT51 sz51 rfl rfl
@[go_sem] theorem ld52 : loadD Go.Proofs.Try.prog σ 52 (.addr id off) K = ldM (σ id) off K := ldA hT52 ag52
@[go_sem] theorem le52 : loadD Go.Proofs.Try.prog σ 52 (.elemP cs off) K = (∃ v, cs[off]? = some v ∧ K (.pv v)) := load_elem hT52 ag52
@[go_sem] theorem stp52 : storeD Go.Proofs.Try.prog σ 52 (.addr id off) (.pv p) KS = stM σ id (σ id) off (.pv p) KS := stA hT52 sz52 rfl rfl
@[go_sem] theorem sta52 {j o : Nat} : storeD Go.Proofs.Try.prog σ 52 (.addr id off) (.addr j o) KS = stM σ id (σ id) off (.addr j o) KS := stA hT52 sz52 rfl rfl
@[go_sem] theorem fa53_0 : fieldAddrD Go.Proofs.Try.prog 53 (.addr id off) 0 K = K (.addr id (off + 0)) := by
  rw [fa_addr (by rw [fo53_0]; rfl)]; simp only [fo53_0, Option.getD_some, hT9, sz9, true_and]; simp
@[go_sem] theorem fe53_0 : fieldAddrD Go.Proofs.Try.prog 53 (.elemP cs off) 0 K = K (.elemP cs (off + 0)) := by
  rw [fa_elem (by rw [fo53_0]; rfl)]; simp only [fo53_0, Option.getD_some, hT9, sz9, true_and]; simp
@[go_sem] theorem fa53_1 : fieldAddrD Go.Proofs.Try.prog 53 (.addr id off) 1 K = K (.addr id (off + 1)) := by
  rw [fa_addr (by rw [fo53_1]; rfl)]; simp only [fo53_1, Option.getD_some, hT3, sz3, true_and]; simp
@[go_sem] theorem fe53_1 : fieldAddrD Go.Proofs.Try.prog 53 (.elemP cs off) 1 K = K (.elemP cs (off + 1)) := by
  rw [fa_elem (by rw [fo53_1]; rfl)]; simp only [fo53_1, Option.getD_some, hT3, sz3, true_and]; simp
@[go_sem] theorem fa54_0 : fieldAddrD Go.Proofs.Try.prog 54 (.addr id off) 0 K = K (.addr id (off + 0)) := by
  rw [fa_addr (by rw [fo54_0]; rfl)]; simp only [fo54_0, Option.getD_some, hT9, sz9, true_and]; simp
@[go_sem] theorem fe54_0 : fieldAddrD Go.Proofs.Try.prog 54 (.elemP cs off) 0 K = K (.elemP cs (off + 0)) := by
  rw [fa_elem (by rw [fo54_0]; rfl)]; simp only [fo54_0, Option.getD_some, hT9, sz9, true_and]; simp
@[go_sem] theorem fa54_1 : fieldAddrD Go.Proofs.Try.prog 54 (.addr id off) 1 K = K (.addr id (off + 1)) := by
  rw [fa_addr (by rw [fo54_1]; rfl)]; simp only [fo54_1, Option.getD_some, hT3, sz3, true_and]; simp
@[go_sem] theorem fe54_1 : fieldAddrD Go.Proofs.Try.prog 54 (.elemP cs off) 1 K = K (.elemP cs (off + 1)) := by
  rw [fa_elem (by rw [fo54_1]; rfl)]; simp only [fo54_1, Option.getD_some, hT3, sz3, true_and]; simp
@[go_sem] theorem ld55 : loadD Go.Proofs.Try.prog σ 55 (.addr id off) K = ldM (σ id) off K := ldA hT55 ag55
@[go_sem] theorem le55 : loadD Go.Proofs.Try.prog σ 55 (.elemP cs off) K = (∃ v, cs[off]? = some v ∧ K (.pv v)) := load_elem hT55 ag55
@[go_sem] theorem stp55 : storeD Go.Proofs.Try.prog σ 55 (.addr id off) (.pv p) KS = stM σ id (σ id) off (.pv p) KS := stA hT55 sz55 rfl rfl
@[go_sem] theorem ld56 : loadD Go.Proofs.Try.prog σ 56 (.addr id off) K = ldM (σ id) off K := ldA hT56 ag56
@[go_sem] theorem le56 : loadD Go.Proofs.Try.prog σ 56 (.elemP cs off) K = (∃ v, cs[off]? = some v ∧ K (.pv v)) := load_elem hT56 ag56
@[go_sem] theorem stp56 : storeD Go.Proofs.Try.prog σ 56 (.addr id off) (.pv p) KS = stM σ id (σ id) off (.pv p) KS := stA hT56 sz56 rfl rfl
@[go_sem] theorem ld57 : loadD Go.Proofs.Try.prog σ 57 (.addr id off) K = ldM (σ id) off K := ldA hT57 ag57
@[go_sem] theorem le57 : loadD Go.Proofs.Try.prog σ 57 (.elemP cs off) K = (∃ v, cs[off]? = some v ∧ K (.pv v)) := load_elem hT57 ag57
@[go_sem] theorem stp57 : storeD Go.Proofs.Try.prog σ 57 (.addr id off) (.pv p) KS = stM σ id (σ id) off (.pv p) KS := stA hT57 sz57 rfl rfl
@[go_sem] theorem ld58 : loadD Go.Proofs.Try.prog σ 58 (.addr id off) K = ldM (σ id) off K := ldA hT58 ag58
@[go_sem] theorem le58 : loadD Go.Proofs.Try.prog σ 58 (.elemP cs off) K = (∃ v, cs[off]? = some v ∧ K (.pv v)) := load_elem hT58 ag58
@[go_sem] theorem stp58 : storeD Go.Proofs.Try.prog σ 58 (.addr id off) (.pv p) KS = stM σ id (σ id) off (.pv p) KS := stA hT58 sz58 rfl rfl
@[go_sem] theorem ld59 : loadD Go.Proofs.Try.prog σ 59 (.addr id off) K = ldM (σ id) off K := ldA hT59 ag59
@[go_sem] theorem le59 : loadD Go.Proofs.Try.prog σ 59 (.elemP cs off) K = (∃ v, cs[off]? = some v ∧ K (.pv v)) := load_elem hT59 ag59
@[go_sem] theorem stp59 : storeD Go.Proofs.Try.prog σ 59 (.addr id off) (.pv p) KS = stM σ id (σ id) off (.pv p) KS := stA hT59 sz59 rfl rfl
@[go_sem] theorem ld60 : loadD Go.Proofs.Try.prog σ 60 (.addr id off) K = ldM (σ id) off K := ldA hT60 ag60
@[go_sem] theorem le60 : loadD Go.Proofs.Try.prog σ 60 (.elemP cs off) K = (∃ v, cs[off]? = some v ∧ K (.pv v)) := load_elem hT60 ag60
@[go_sem] theorem stp60 : storeD Go.Proofs.Try.prog σ 60 (.addr id off) (.pv p) KS = stM σ id (σ id) off (.pv p) KS := stA hT60 sz60 rfl rfl
@[go_sem] theorem ld61 : loadD Go.Proofs.Try.prog σ 61 (.addr id off) K = ldM (σ id) off K := ldA hT61 ag61
@[go_sem] theorem le61 : loadD Go.Proofs.Try.prog σ 61 (.elemP cs off) K = (∃ v, cs[off]? = some v ∧ K (.pv v)) := load_elem hT61 ag61
@[go_sem] theorem stp61 : storeD Go.Proofs.Try.prog σ 61 (.addr id off) (.pv p) KS = stM σ id (σ id) off (.pv p) KS := stA hT61 sz61 rfl rfl
@[go_sem] theorem ld62 : loadD Go.Proofs.Try.prog σ 62 (.addr id off) K = ldM (σ id) off K := ldA hT62 ag62
@[go_sem] theorem le62 : loadD Go.Proofs.Try.prog σ 62 (.elemP cs off) K = (∃ v, cs[off]? = some v ∧ K (.pv v)) := load_elem hT62 ag62
@[go_sem] theorem stp62 : storeD Go.Proofs.Try.prog σ 62 (.addr id off) (.pv p) KS = stM σ id (σ id) off (.pv p) KS := stA hT62 sz62 rfl rfl
@[go_sem] theorem ld63 : loadD Go.Proofs.Try.prog σ 63 (.addr id off) K = ldM (σ id) off K := ldA hT63 ag63
@[go_sem] theorem le63 : loadD Go.Proofs.Try.prog σ 63 (.elemP cs off) K = (∃ v, cs[off]? = some v ∧ K (.pv v)) := load_elem hT63 ag63
@[go_sem] theorem stp63 : storeD Go.Proofs.Try.prog σ 63 (.addr id off) (.pv p) KS = stM σ id (σ id) off (.pv p) KS := stA hT63 sz63 rfl rfl
@[go_sem] theorem ld64 : loadD Go.Proofs.Try.prog σ 64 (.addr id off) K = ldM (σ id) off K := ldA hT64 ag64
@[go_sem] theorem le64 : loadD Go.Proofs.Try.prog σ 64 (.elemP cs off) K = (∃ v, cs[off]? = some v ∧ K (.pv v)) := load_elem hT64 ag64
@[go_sem] theorem stp64 : storeD Go.Proofs.Try.prog σ 64 (.addr id off) (.pv p) KS = stM σ id (σ id) off (.pv p) KS := stA hT64 sz64 rfl rfl
@[go_sem] theorem ld65 : loadD Go.Proofs.Try.prog σ 65 (.addr id off) K = ldM (σ id) off K := ldA hT65 ag65
@[go_sem] theorem le65 : loadD Go.Proofs.Try.prog σ 65 (.elemP cs off) K = (∃ v, cs[off]? = some v ∧ K (.pv v)) := load_elem hT65 ag65
@[go_sem] theorem stp65 : storeD Go.Proofs.Try.prog σ 65 (.addr id off) (.pv p) KS = stM σ id (σ id) off (.pv p) KS := stA hT65 sz65 rfl rfl
@[go_sem] theorem sta65 {j o : Nat} : storeD Go.Proofs.Try.prog σ 65 (.addr id off) (.addr j o) KS = stM σ id (σ id) off (.addr j o) KS := stA hT65 sz65 rfl rfl
@[go_sem] theorem fa66_0 : fieldAddrD Go.Proofs.Try.prog 66 (.addr id off) 0 K = K (.addr id (off + 0)) := by
  rw [fa_addr (by rw [fo66_0]; rfl)]; simp only [fo66_0, Option.getD_some, hT65, sz65, true_and]; simp
@[go_sem] theorem fe66_0 : fieldAddrD Go.Proofs.Try.prog 66 (.elemP cs off) 0 K = K (.elemP cs (off + 0)) := by
  rw [fa_elem (by rw [fo66_0]; rfl)]; simp only [fo66_0, Option.getD_some, hT65, sz65, true_and]; simp
@[go_sem] theorem fa66_1 : fieldAddrD Go.Proofs.Try.prog 66 (.addr id off) 1 K = K (.addr id (off + 1)) := by
  rw [fa_addr (by rw [fo66_1]; rfl)]; simp only [fo66_1, Option.getD_some, hT50, sz50, true_and]; simp
@[go_sem] theorem fe66_1 : fieldAddrD Go.Proofs.Try.prog 66 (.elemP cs off) 1 K = K (.elemP cs (off + 1)) := by
  rw [fa_elem (by rw [fo66_1]; rfl)]; simp only [fo66_1, Option.getD_some, hT50, sz50, true_and]; simp
@[go_sem] theorem fa67_0 : fieldAddrD Go.Proofs.Try.prog 67 (.addr id off) 0 K = K (.addr id (off + 0)) := by
  rw [fa_addr (by rw [fo67_0]; rfl)]; simp only [fo67_0, Option.getD_some, hT65, sz65, true_and]; simp
@[go_sem] theorem fe67_0 : fieldAddrD Go.Proofs.Try.prog 67 (.elemP cs off) 0 K = K (.elemP cs (off + 0)) := by
  rw [fa_elem (by rw [fo67_0]; rfl)]; simp only [fo67_0, Option.getD_some, hT65, sz65, true_and]; simp
@[go_sem] theorem fa67_1 : fieldAddrD Go.Proofs.Try.prog 67 (.addr id off) 1 K = K (.addr id (off + 1)) := by
  rw [fa_addr (by rw [fo67_1]; rfl)]; simp only [fo67_1, Option.getD_some, hT50, sz50, true_and]; simp
@[go_sem] theorem fe67_1 : fieldAddrD Go.Proofs.Try.prog 67 (.elemP cs off) 1 K = K (.elemP cs (off + 1)) := by
  rw [fa_elem (by rw [fo67_1]; rfl)]; simp only [fo67_1, Option.getD_some, hT50, sz50, true_and]; simp
@[go_sem] theorem ld68 : loadD Go.Proofs.Try.prog σ 68 (.addr id off) K = ldM (σ id) off K := ldA hT68 ag68
@[go_sem] theorem le68 : loadD Go.Proofs.Try.prog σ 68 (.elemP cs off) K = (∃ v, cs[off]? = some v ∧ K (.pv v)) := load_elem hT68 ag68
@[go_sem] theorem stp68 : storeD Go.Proofs.Try.prog σ 68 (.addr id off) (.pv p) KS = stM σ id (σ id) off (.pv p) KS := stA hT68 sz68 rfl rfl
@[go_sem] theorem ld69 : loadD Go.Proofs.Try.prog σ 69 (.addr id off) K = ldM (σ id) off K := ldA hT69 ag69
@[go_sem] theorem le69 : loadD Go.Proofs.Try.prog σ 69 (.elemP cs off) K = (∃ v, cs[off]? = some v ∧ K (.pv v)) := load_elem hT69 ag69
@[go_sem] theorem stp69 : storeD Go.Proofs.Try.prog σ 69 (.addr id off) (.pv p) KS = stM σ id (σ id) off (.pv p) KS := stA hT69 sz69 rfl rfl
@[go_sem] theorem ld70 : loadD Go.Proofs.Try.prog σ 70 (.addr id off) K = ldM (σ id) off K := ldA hT70 ag70
@[go_sem] theorem le70 : loadD Go.Proofs.Try.prog σ 70 (.elemP cs off) K = (∃ v, cs[off]? = some v ∧ K (.pv v)) := load_elem hT70 ag70
@[go_sem] theorem stp70 : storeD Go.Proofs.Try.prog σ 70 (.addr id off) (.pv p) KS = stM σ id (σ id) off (.pv p) KS := stA hT70 sz70 rfl rfl
@[go_sem] theorem ld71 : loadD Go.Proofs.Try.prog σ 71 (.addr id off) K = ldM (σ id) off K := ldA hT71 ag71
@[go_sem] theorem le71 : loadD Go.Proofs.Try.prog σ 71 (.elemP cs off) K = (∃ v, cs[off]? = some v ∧ K (.pv v)) := load_elem hT71 ag71
@[go_sem] theorem stp71 : storeD Go.Proofs.Try.prog σ 71 (.addr id off) (.pv p) KS = stM σ id (σ id) off (.pv p) KS := stA hT71 sz71 rfl rfl
@[go_sem] theorem ld72 : loadD Go.Proofs.Try.prog σ 72 (.addr id off) K = ldM (σ id) off K := ldA hT72 ag72
@[go_sem] theorem le72 : loadD Go.Proofs.Try.prog σ 72 (.elemP cs off) K = (∃ v, cs[off]? = some v ∧ K (.pv v)) := load_elem hT72 ag72
@[go_sem] theorem stp72 : storeD Go.Proofs.Try.prog σ 72 (.addr id off) (.pv p) KS = stM σ id (σ id) off (.pv p) KS := stA hT72 sz72 rfl rfl
@[go_sem] theorem ld73 : loadD Go.Proofs.Try.prog σ 73 (.addr id off) K = ldM (σ id) off K := ldA hT73 ag73
@[go_sem] theorem le73 : loadD Go.Proofs.Try.prog σ 73 (.elemP cs off) K = (∃ v, cs[off]? = some v ∧ K (.pv v)) := load_elem hT73 ag73
@[go_sem] theorem stp73 : storeD Go.Proofs.Try.prog σ 73 (.addr id off) (.pv p) KS = stM σ id (σ id) off (.pv p) KS := stA hT73 sz73 rfl rfl
@[go_sem] theorem ld74 : loadD Go.Proofs.Try.prog σ 74 (.addr id off) K = ldM (σ id) off K := ldA hT74 ag74
@[go_sem] theorem le74 : loadD Go.Proofs.Try.prog σ 74 (.elemP cs off) K = (∃ v, cs[off]? = some v ∧ K (.pv v)) := load_elem hT74 ag74
@[go_sem] theorem stp74 : storeD Go.Proofs.Try.prog σ 74 (.addr id off) (.pv p) KS = stM σ id (σ id) off (.pv p) KS := stA hT74 sz74 rfl rfl
@[go_sem] theorem ld75 : loadD Go.Proofs.Try.prog σ 75 (.addr id off) K = ldM (σ id) off K := ldA hT75 ag75
@[go_sem] theorem le75 : loadD Go.Proofs.Try.prog σ 75 (.elemP cs off) K = (∃ v, cs[off]? = some v ∧ K (.pv v)) := load_elem hT75 ag75
@[go_sem] theorem stp75 : storeD Go.Proofs.Try.prog σ 75 (.addr id off) (.pv p) KS = stM σ id (σ id) off (.pv p) KS := stA hT75 sz75 rfl rfl
@[go_sem] theorem ld76 : loadD Go.Proofs.Try.prog σ 76 (.addr id off) K = ldM (σ id) off K := ldA hT76 ag76
@[go_sem] theorem le76 : loadD Go.Proofs.Try.prog σ 76 (.elemP cs off) K = (∃ v, cs[off]? = some v ∧ K (.pv v)) := load_elem hT76 ag76
@[go_sem] theorem stp76 : storeD Go.Proofs.Try.prog σ 76 (.addr id off) (.pv p) KS = stM σ id (σ id) off (.pv p) KS := stA hT76 sz76 rfl rfl
@[go_sem] theorem ld77 : loadD Go.Proofs.Try.prog σ 77 (.addr id off) K = ldM (σ id) off K := ldA hT77 ag77
@[go_sem] theorem le77 : loadD Go.Proofs.Try.prog σ 77 (.elemP cs off) K = (∃ v, cs[off]? = some v ∧ K (.pv v)) := load_elem hT77 ag77
@[go_sem] theorem stp77 : storeD Go.Proofs.Try.prog σ 77 (.addr id off) (.pv p) KS = stM σ id (σ id) off (.pv p) KS := stA hT77 sz77 rfl rfl
@[go_sem] theorem sta77 {j o : Nat} : storeD Go.Proofs.Try.prog σ 77 (.addr id off) (.addr j o) KS = stM σ id (σ id) off (.addr j o) KS := stA hT77 sz77 rfl rfl
@[go_sem] theorem ld78 : loadD Go.Proofs.Try.prog σ 78 (.addr id off) K = ldM (σ id) off K := ldA hT78 ag78
@[go_sem] theorem le78 : loadD Go.Proofs.Try.prog σ 78 (.elemP cs off) K = (∃ v, cs[off]? = some v ∧ K (.pv v)) := load_elem hT78 ag78
@[go_sem] theorem stp78 : storeD Go.Proofs.Try.prog σ 78 (.addr id off) (.pv p) KS = stM σ id (σ id) off (.pv p) KS := stA hT78 sz78 rfl rfl
@[go_sem] theorem ld79 : loadD Go.Proofs.Try.prog σ 79 (.addr id off) K = ldM (σ id) off K := ldA hT79 ag79
@[go_sem] theorem le79 : loadD Go.Proofs.Try.prog σ 79 (.elemP cs off) K = (∃ v, cs[off]? = some v ∧ K (.pv v)) := load_elem hT79 ag79
@[go_sem] theorem stp79 : storeD Go.Proofs.Try.prog σ 79 (.addr id off) (.pv p) KS = stM σ id (σ id) off (.pv p) KS := stA hT79 sz79 rfl rfl
@[go_sem] theorem ld80 : loadD Go.Proofs.Try.prog σ 80 (.addr id off) K = ldM (σ id) off K := ldA hT80 ag80
@[go_sem] theorem le80 : loadD Go.Proofs.Try.prog σ 80 (.elemP cs off) K = (∃ v, cs[off]? = some v ∧ K (.pv v)) := load_elem hT80 ag80
@[go_sem] theorem stp80 : storeD Go.Proofs.Try.prog σ 80 (.addr id off) (.pv p) KS = stM σ id (σ id) off (.pv p) KS := stA hT80 sz80 rfl rfl
@[go_sem] theorem ld81 : loadD Go.Proofs.Try.prog σ 81 (.addr id off) K = ldM (σ id) off K := ldA hT81 ag81
@[go_sem] theorem le81 : loadD Go.Proofs.Try.prog σ 81 (.elemP cs off) K = (∃ v, cs[off]? = some v ∧ K (.pv v)) := load_elem hT81 ag81
@[go_sem] theorem stp81 : storeD Go.Proofs.Try.prog σ 81 (.addr id off) (.pv p) KS = stM σ id (σ id) off (.pv p) KS := stA hT81 sz81 rfl rfl
@[go_sem] theorem sta81 {j o : Nat} : storeD Go.Proofs.Try.prog σ 81 (.addr id off) (.addr j o) KS = stM σ id (σ id) off (.addr j o) KS := stA hT81 sz81 rfl rfl
@[go_sem] theorem ld84 : loadD Go.Proofs.Try.prog σ 84 (.addr id off) K = ldM (σ id) off K := ldA hT84 ag84
@[go_sem] theorem le84 : loadD Go.Proofs.Try.prog σ 84 (.elemP cs off) K = (∃ v, cs[off]? = some v ∧ K (.pv v)) := load_elem hT84 ag84
@[go_sem] theorem stp84 : storeD Go.Proofs.Try.prog σ 84 (.addr id off) (.pv p) KS = stM σ id (σ id) off (.pv p) KS := stA hT84 sz84 rfl rfl
@[go_sem] theorem ld85 : loadD Go.Proofs.Try.prog σ 85 (.addr id off) K = ldM (σ id) off K := ldA hT85 ag85
@[go_sem] theorem le85 : loadD Go.Proofs.Try.prog σ 85 (.elemP cs off) K = (∃ v, cs[off]? = some v ∧ K (.pv v)) := load_elem hT85 ag85
@[go_sem] theorem stp85 : storeD Go.Proofs.Try.prog σ 85 (.addr id off) (.pv p) KS = stM σ id (σ id) off (.pv p) KS := stA hT85 sz85 rfl rfl
@[go_sem] theorem ld86 : loadD Go.Proofs.Try.prog σ 86 (.addr id off) K = ldM (σ id) off K := ldA hT86 ag86
@[go_sem] theorem le86 : loadD Go.Proofs.Try.prog σ 86 (.elemP cs off) K = (∃ v, cs[off]? = some v ∧ K (.pv v)) := load_elem hT86 ag86
@[go_sem] theorem stp86 : storeD Go.Proofs.Try.prog σ 86 (.addr id off) (.pv p) KS = stM σ id (σ id) off (.pv p) KS := stA hT86 sz86 rfl rfl
@[go_sem] theorem ld87 : loadD Go.Proofs.Try.prog σ 87 (.addr id off) K = ldM (σ id) off K := ldA hT87 ag87
@[go_sem] theorem le87 : loadD Go.Proofs.Try.prog σ 87 (.elemP cs off) K = (∃ v, cs[off]? = some v ∧ K (.pv v)) := load_elem hT87 ag87
@[go_sem] theorem stp87 : storeD Go.Proofs.Try.prog σ 87 (.addr id off) (.pv p) KS = stM σ id (σ id) off (.pv p) KS := stA hT87 sz87 rfl rfl
@[go_sem] theorem ld88 : loadD Go.Proofs.Try.prog σ 88 (.addr id off) K = ldM (σ id) off K := ldA hT88 ag88
@[go_sem] theorem le88 : loadD Go.Proofs.Try.prog σ 88 (.elemP cs off) K = (∃ v, cs[off]? = some v ∧ K (.pv v)) := load_elem hT88 ag88
@[go_sem] theorem stp88 : storeD Go.Proofs.Try.prog σ 88 (.addr id off) (.pv p) KS = stM σ id (σ id) off (.pv p) KS := stA hT88 sz88 rfl rfl
@[go_sem] theorem ld89 : loadD Go.Proofs.Try.prog σ 89 (.addr id off) K = ldM (σ id) off K := ldA hT89 ag89
@[go_sem] theorem le89 : loadD Go.Proofs.Try.prog σ 89 (.elemP cs off) K = (∃ v, cs[off]? = some v ∧ K (.pv v)) := load_elem hT89 ag89
@[go_sem] theorem stp89 : storeD Go.Proofs.Try.prog σ 89 (.addr id off) (.pv p) KS = stM σ id (σ id) off (.pv p) KS := stA hT89 sz89 rfl rfl
@[go_sem] theorem ld90 : loadD Go.Proofs.Try.prog σ 90 (.addr id off) K = ldM (σ id) off K := ldA hT90 ag90
@[go_sem] theorem le90 : loadD Go.Proofs.Try.prog σ 90 (.elemP cs off) K = (∃ v, cs[off]? = some v ∧ K (.pv v)) := load_elem hT90 ag90
@[go_sem] theorem stp90 : storeD Go.Proofs.Try.prog σ 90 (.addr id off) (.pv p) KS = stM σ id (σ id) off (.pv p) KS := stA hT90 sz90 rfl rfl
@[go_sem] theorem ld91 : loadD Go.Proofs.Try.prog σ 91 (.addr id off) K = ldM (σ id) off K := ldA hT91 ag91
@[go_sem] theorem le91 : loadD Go.Proofs.Try.prog σ 91 (.elemP cs off) K = (∃ v, cs[off]? = some v ∧ K (.pv v)) := load_elem hT91 ag91
@[go_sem] theorem stp91 : storeD Go.Proofs.Try.prog σ 91 (.addr id off) (.pv p) KS = stM σ id (σ id) off (.pv p) KS := stA hT91 sz91 rfl rfl
@[go_sem] theorem ld92 : loadD Go.Proofs.Try.prog σ 92 (.addr id off) K = ldM (σ id) off K := ldA hT92 ag92
@[go_sem] theorem le92 : loadD Go.Proofs.Try.prog σ 92 (.elemP cs off) K = (∃ v, cs[off]? = some v ∧ K (.pv v)) := load_elem hT92 ag92
@[go_sem] theorem stp92 : storeD Go.Proofs.Try.prog σ 92 (.addr id off) (.pv p) KS = stM σ id (σ id) off (.pv p) KS := stA hT92 sz92 rfl rfl
@[go_sem] theorem ld93 : loadD Go.Proofs.Try.prog σ 93 (.addr id off) K = ldM (σ id) off K := ldA hT93 ag93
@[go_sem] theorem le93 : loadD Go.Proofs.Try.prog σ 93 (.elemP cs off) K = (∃ v, cs[off]? = some v ∧ K (.pv v)) := load_elem hT93 ag93
@[go_sem] theorem stp93 : storeD Go.Proofs.Try.prog σ 93 (.addr id off) (.pv p) KS = stM σ id (σ id) off (.pv p) KS := stA hT93 sz93 rfl rfl
@[go_sem] theorem ld94 : loadD Go.Proofs.Try.prog σ 94 (.addr id off) K = ldM (σ id) off K := ldA hT94 ag94
@[go_sem] theorem le94 : loadD Go.Proofs.Try.prog σ 94 (.elemP cs off) K = (∃ v, cs[off]? = some v ∧ K (.pv v)) := load_elem hT94 ag94
@[go_sem] theorem stp94 : storeD Go.Proofs.Try.prog σ 94 (.addr id off) (.pv p) KS = stM σ id (σ id) off (.pv p) KS := stA hT94 sz94 rfl rfl
@[go_sem] theorem ld95 : loadD Go.Proofs.Try.prog σ 95 (.addr id off) K = ldM (σ id) off K := ldA hT95 ag95
@[go_sem] theorem le95 : loadD Go.Proofs.Try.prog σ 95 (.elemP cs off) K = (∃ v, cs[off]? = some v ∧ K (.pv v)) := load_elem hT95 ag95
@[go_sem] theorem stp95 : storeD Go.Proofs.Try.prog σ 95 (.addr id off) (.pv p) KS = stM σ id (σ id) off (.pv p) KS := stA hT95 sz95 rfl rfl
@[go_sem] theorem ld96 : loadD Go.Proofs.Try.prog σ 96 (.addr id off) K = ldM (σ id) off K := ldA hT96 ag96
@[go_sem] theorem le96 : loadD Go.Proofs.Try.prog σ 96 (.elemP cs off) K = (∃ v, cs[off]? = some v ∧ K (.pv v)) := load_elem hT96 ag96
@[go_sem] theorem stp96 : storeD Go.Proofs.Try.prog σ 96 (.addr id off) (.pv p) KS = stM σ id (σ id) off (.pv p) KS := stA hT96 sz96 rfl rfl
@[go_sem] theorem ld97 : loadD Go.Proofs.Try.prog σ 97 (.addr id off) K = ldM (σ id) off K := ldA hT97 ag97
@[go_sem] theorem le97 : loadD Go.Proofs.Try.prog σ 97 (.elemP cs off) K = (∃ v, cs[off]? = some v ∧ K (.pv v)) := load_elem hT97 ag97
@[go_sem] theorem stp97 : storeD Go.Proofs.Try.prog σ 97 (.addr id off) (.pv p) KS = stM σ id (σ id) off (.pv p) KS := stA hT97 sz97 rfl rfl
@[go_sem] theorem fa98_0 : fieldAddrD Go.Proofs.Try.prog 98 (.addr id off) 0 K = K (.addr id (off + 0)) := by
  rw [fa_addr (by rw [fo98_0]; rfl)]; simp only [fo98_0, Option.getD_some, hT17, sz17, true_and]; simp
@[go_sem] theorem fe98_0 : fieldAddrD Go.Proofs.Try.prog 98 (.elemP cs off) 0 K = K (.elemP cs (off + 0)) := by
  rw [fa_elem (by rw [fo98_0]; rfl)]; simp only [fo98_0, Option.getD_some, hT17, sz17, true_and]; simp
@[go_sem] theorem fa98_1 : fieldAddrD Go.Proofs.Try.prog 98 (.addr id off) 1 K = K (.addr id (off + 1)) := by
  rw [fa_addr (by rw [fo98_1]; rfl)]; simp only [fo98_1, Option.getD_some, hT17, sz17, true_and]; simp
@[go_sem] theorem fe98_1 : fieldAddrD Go.Proofs.Try.prog 98 (.elemP cs off) 1 K = K (.elemP cs (off + 1)) := by
  rw [fa_elem (by rw [fo98_1]; rfl)]; simp only [fo98_1, Option.getD_some, hT17, sz17, true_and]; simp
@[go_sem] theorem fa98_2 : fieldAddrD Go.Proofs.Try.prog 98 (.addr id off) 2 K = K (.addr id (off + 2)) := by
  rw [fa_addr (by rw [fo98_2]; rfl)]; simp only [fo98_2, Option.getD_some, hT17, sz17, true_and]; simp
@[go_sem] theorem fe98_2 : fieldAddrD Go.Proofs.Try.prog 98 (.elemP cs off) 2 K = K (.elemP cs (off + 2)) := by
  rw [fa_elem (by rw [fo98_2]; rfl)]; simp only [fo98_2, Option.getD_some, hT17, sz17, true_and]; simp
@[go_sem] theorem fa98_3 : fieldAddrD Go.Proofs.Try.prog 98 (.addr id off) 3 K = K (.addr id (off + 3)) := by
  rw [fa_addr (by rw [fo98_3]; rfl)]; simp only [fo98_3, Option.getD_some, hT9, sz9, true_and]; simp
@[go_sem] theorem fe98_3 : fieldAddrD Go.Proofs.Try.prog 98 (.elemP cs off) 3 K = K (.elemP cs (off + 3)) := by
  rw [fa_elem (by rw [fo98_3]; rfl)]; simp only [fo98_3, Option.getD_some, hT9, sz9, true_and]; simp
@[go_sem] theorem fa99_0 : fieldAddrD Go.Proofs.Try.prog 99 (.addr id off) 0 K = K (.addr id (off + 0)) := by
  rw [fa_addr (by rw [fo99_0]; rfl)]; simp only [fo99_0, Option.getD_some, hT17, sz17, true_and]; simp
@[go_sem] theorem fe99_0 : fieldAddrD Go.Proofs.Try.prog 99 (.elemP cs off) 0 K = K (.elemP cs (off + 0)) := by
  rw [fa_elem (by rw [fo99_0]; rfl)]; simp only [fo99_0, Option.getD_some, hT17, sz17, true_and]; simp
@[go_sem] theorem fa99_1 : fieldAddrD Go.Proofs.Try.prog 99 (.addr id off) 1 K = K (.addr id (off + 1)) := by
  rw [fa_addr (by rw [fo99_1]; rfl)]; simp only [fo99_1, Option.getD_some, hT17, sz17, true_and]; simp
@[go_sem] theorem fe99_1 : fieldAddrD Go.Proofs.Try.prog 99 (.elemP cs off) 1 K = K (.elemP cs (off + 1)) := by
  rw [fa_elem (by rw [fo99_1]; rfl)]; simp only [fo99_1, Option.getD_some, hT17, sz17, true_and]; simp
@[go_sem] theorem fa99_2 : fieldAddrD Go.Proofs.Try.prog 99 (.addr id off) 2 K = K (.addr id (off + 2)) := by
  rw [fa_addr (by rw [fo99_2]; rfl)]; simp only [fo99_2, Option.getD_some, hT17, sz17, true_and]; simp
@[go_sem] theorem fe99_2 : fieldAddrD Go.Proofs.Try.prog 99 (.elemP cs off) 2 K = K (.elemP cs (off + 2)) := by
  rw [fa_elem (by rw [fo99_2]; rfl)]; simp only [fo99_2, Option.getD_some, hT17, sz17, true_and]; simp
@[go_sem] theorem fa99_3 : fieldAddrD Go.Proofs.Try.prog 99 (.addr id off) 3 K = K (.addr id (off + 3)) := by
  rw [fa_addr (by rw [fo99_3]; rfl)]; simp only [fo99_3, Option.getD_some, hT9, sz9, true_and]; simp
@[go_sem] theorem fe99_3 : fieldAddrD Go.Proofs.Try.prog 99 (.elemP cs off) 3 K = K (.elemP cs (off + 3)) := by
  rw [fa_elem (by rw [fo99_3]; rfl)]; simp only [fo99_3, Option.getD_some, hT9, sz9, true_and]; simp
@[go_sem] theorem ld103 : loadD Go.Proofs.Try.prog σ 103 (.addr id off) K = ldM (σ id) off K := ldA hT103 ag103
@[go_sem] theorem le103 : loadD Go.Proofs.Try.prog σ 103 (.elemP cs off) K = (∃ v, cs[off]? = some v ∧ K (.pv v)) := load_elem hT103 ag103
@[go_sem] theorem stp103 : storeD Go.Proofs.Try.prog σ 103 (.addr id off) (.pv p) KS = stM σ id (σ id) off (.pv p) KS := stA hT103 sz103 rfl rfl
@[go_sem] theorem ld104 : loadD Go.Proofs.Try.prog σ 104 (.addr id off) K = ldM (σ id) off K := ldA hT104 ag104
@[go_sem] theorem le104 : loadD Go.Proofs.Try.prog σ 104 (.elemP cs off) K = (∃ v, cs[off]? = some v ∧ K (.pv v)) := load_elem hT104 ag104
@[go_sem] theorem stp104 : storeD Go.Proofs.Try.prog σ 104 (.addr id off) (.pv p) KS = stM σ id (σ id) off (.pv p) KS := stA hT104 sz104 rfl rfl
@[go_sem] theorem ld105 : loadD Go.Proofs.Try.prog σ 105 (.addr id off) K = ldM (σ id) off K := ldA hT105 ag105
@[go_sem] theorem le105 : loadD Go.Proofs.Try.prog σ 105 (.elemP cs off) K = (∃ v, cs[off]? = some v ∧ K (.pv v)) := load_elem hT105 ag105
@[go_sem] theorem stp105 : storeD Go.Proofs.Try.prog σ 105 (.addr id off) (.pv p) KS = stM σ id (σ id) off (.pv p) KS := stA hT105 sz105 rfl rfl
@[go_sem] theorem ld106 : loadD Go.Proofs.Try.prog σ 106 (.addr id off) K = ldM (σ id) off K := ldA hT106 ag106
@[go_sem] theorem le106 : loadD Go.Proofs.Try.prog σ 106 (.elemP cs off) K = (∃ v, cs[off]? = some v ∧ K (.pv v)) := load_elem hT106 ag106
@[go_sem] theorem stp106 : storeD Go.Proofs.Try.prog σ 106 (.addr id off) (.pv p) KS = stM σ id (σ id) off (.pv p) KS := stA hT106 sz106 rfl rfl
@[go_sem] theorem ld107 : loadD Go.Proofs.Try.prog σ 107 (.addr id off) K = ldM (σ id) off K := ldA hT107 ag107
@[go_sem] theorem le107 : loadD Go.Proofs.Try.prog σ 107 (.elemP cs off) K = (∃ v, cs[off]? = some v ∧ K (.pv v)) := load_elem hT107 ag107
@[go_sem] theorem stp107 : storeD Go.Proofs.Try.prog σ 107 (.addr id off) (.pv p) KS = stM σ id (σ id) off (.pv p) KS := stA hT107 sz107 rfl rfl
@[go_sem] theorem ld108 : loadD Go.Proofs.Try.prog σ 108 (.addr id off) K = ldM (σ id) off K := ldA hT108 ag108
@[go_sem] theorem le108 : loadD Go.Proofs.Try.prog σ 108 (.elemP cs off) K = (∃ v, cs[off]? = some v ∧ K (.pv v)) := load_elem hT108 ag108
@[go_sem] theorem stp108 : storeD Go.Proofs.Try.prog σ 108 (.addr id off) (.pv p) KS = stM σ id (σ id) off (.pv p) KS := stA hT108 sz108 rfl rfl
@[go_sem] theorem fa109_0 : fieldAddrD Go.Proofs.Try.prog 109 (.addr id off) 0 K = K (.addr id (off + 0)) := by
  rw [fa_addr (by rw [fo109_0]; rfl)]; simp only [fo109_0, Option.getD_some, hT12, sz12, true_and]; simp
@[go_sem] theorem fe109_0 : fieldAddrD Go.Proofs.Try.prog 109 (.elemP cs off) 0 K = K (.elemP cs (off + 0)) := by
  rw [fa_elem (by rw [fo109_0]; rfl)]; simp only [fo109_0, Option.getD_some, hT12, sz12, true_and]; simp
@[go_sem] theorem fa109_1 : fieldAddrD Go.Proofs.Try.prog 109 (.addr id off) 1 K = K (.addr id (off + 1)) := by
  rw [fa_addr (by rw [fo109_1]; rfl)]; simp only [fo109_1, Option.getD_some, hT12, sz12, true_and]; simp
@[go_sem] theorem fe109_1 : fieldAddrD Go.Proofs.Try.prog 109 (.elemP cs off) 1 K = K (.elemP cs (off + 1)) := by
  rw [fa_elem (by rw [fo109_1]; rfl)]; simp only [fo109_1, Option.getD_some, hT12, sz12, true_and]; simp
@[go_sem] theorem fa109_2 : fieldAddrD Go.Proofs.Try.prog 109 (.addr id off) 2 K = K (.addr id (off + 2)) := by
  rw [fa_addr (by rw [fo109_2]; rfl)]; simp only [fo109_2, Option.getD_some, hT95, sz95, true_and]; simp
@[go_sem] theorem fe109_2 : fieldAddrD Go.Proofs.Try.prog 109 (.elemP cs off) 2 K = K (.elemP cs (off + 2)) := by
  rw [fa_elem (by rw [fo109_2]; rfl)]; simp only [fo109_2, Option.getD_some, hT95, sz95, true_and]; simp
@[go_sem] theorem fa109_3 : fieldAddrD Go.Proofs.Try.prog 109 (.addr id off) 3 K = K (.addr id (off + 3)) := by
  rw [fa_addr (by rw [fo109_3]; rfl)]; simp only [fo109_3, Option.getD_some, hT104, sz104, true_and]; simp
@[go_sem] theorem fe109_3 : fieldAddrD Go.Proofs.Try.prog 109 (.elemP cs off) 3 K = K (.elemP cs (off + 3)) := by
  rw [fa_elem (by rw [fo109_3]; rfl)]; simp only [fo109_3, Option.getD_some, hT104, sz104, true_and]; simp
@[go_sem] theorem fa109_4 : fieldAddrD Go.Proofs.Try.prog 109 (.addr id off) 4 K = K (.addr id (off + 4)) := by
  rw [fa_addr (by rw [fo109_4]; rfl)]; simp only [fo109_4, Option.getD_some, hT5, sz5, true_and]; simp
@[go_sem] theorem fe109_4 : fieldAddrD Go.Proofs.Try.prog 109 (.elemP cs off) 4 K = K (.elemP cs (off + 4)) := by
  rw [fa_elem (by rw [fo109_4]; rfl)]; simp only [fo109_4, Option.getD_some, hT5, sz5, true_and]; simp
@[go_sem] theorem fa109_5 : fieldAddrD Go.Proofs.Try.prog 109 (.addr id off) 5 K = K (.addr id (off + 5)) := by
  rw [fa_addr (by rw [fo109_5]; rfl)]; simp only [fo109_5, Option.getD_some, hT5, sz5, true_and]; simp
@[go_sem] theorem fe109_5 : fieldAddrD Go.Proofs.Try.prog 109 (.elemP cs off) 5 K = K (.elemP cs (off + 5)) := by
  rw [fa_elem (by rw [fo109_5]; rfl)]; simp only [fo109_5, Option.getD_some, hT5, sz5, true_and]; simp
@[go_sem] theorem fa109_6 : fieldAddrD Go.Proofs.Try.prog 109 (.addr id off) 6 K = K (.addr id (off + 6)) := by
  rw [fa_addr (by rw [fo109_6]; rfl)]; simp only [fo109_6, Option.getD_some, hT105, sz105, true_and]; simp
@[go_sem] theorem fe109_6 : fieldAddrD Go.Proofs.Try.prog 109 (.elemP cs off) 6 K = K (.elemP cs (off + 6)) := by
  rw [fa_elem (by rw [fo109_6]; rfl)]; simp only [fo109_6, Option.getD_some, hT105, sz105, true_and]; simp
@[go_sem] theorem fa109_7 : fieldAddrD Go.Proofs.Try.prog 109 (.addr id off) 7 K = K (.addr id (off + 7)) := by
  rw [fa_addr (by rw [fo109_7]; rfl)]; simp only [fo109_7, Option.getD_some, hT106, sz106, true_and]; simp
@[go_sem] theorem fe109_7 : fieldAddrD Go.Proofs.Try.prog 109 (.elemP cs off) 7 K = K (.elemP cs (off + 7)) := by
  rw [fa_elem (by rw [fo109_7]; rfl)]; simp only [fo109_7, Option.getD_some, hT106, sz106, true_and]; simp
@[go_sem] theorem fa109_8 : fieldAddrD Go.Proofs.Try.prog 109 (.addr id off) 8 K = K (.addr id (off + 8)) := by
  rw [fa_addr (by rw [fo109_8]; rfl)]; simp only [fo109_8, Option.getD_some, hT77, sz77, true_and]; simp
@[go_sem] theorem fe109_8 : fieldAddrD Go.Proofs.Try.prog 109 (.elemP cs off) 8 K = K (.elemP cs (off + 8)) := by
  rw [fa_elem (by rw [fo109_8]; rfl)]; simp only [fo109_8, Option.getD_some, hT77, sz77, true_and]; simp
@[go_sem] theorem fa109_9 : fieldAddrD Go.Proofs.Try.prog 109 (.addr id off) 9 K = K (.addr id (off + 9)) := by
  rw [fa_addr (by rw [fo109_9]; rfl)]; simp only [fo109_9, Option.getD_some, hT107, sz107, true_and]; simp
@[go_sem] theorem fe109_9 : fieldAddrD Go.Proofs.Try.prog 109 (.elemP cs off) 9 K = K (.elemP cs (off + 9)) := by
  rw [fa_elem (by rw [fo109_9]; rfl)]; simp only [fo109_9, Option.getD_some, hT107, sz107, true_and]; simp
@[go_sem] theorem fa109_10 : fieldAddrD Go.Proofs.Try.prog 109 (.addr id off) 10 K = K (.addr id (off + 10)) := by
  rw [fa_addr (by rw [fo109_10]; rfl)]; simp only [fo109_10, Option.getD_some, hT108, sz108, true_and]; simp
@[go_sem] theorem fe109_10 : fieldAddrD Go.Proofs.Try.prog 109 (.elemP cs off) 10 K = K (.elemP cs (off + 10)) := by
  rw [fa_elem (by rw [fo109_10]; rfl)]; simp only [fo109_10, Option.getD_some, hT108, sz108, true_and]; simp
@[go_sem] theorem fa110_0 : fieldAddrD Go.Proofs.Try.prog 110 (.addr id off) 0 K = K (.addr id (off + 0)) := by
  rw [fa_addr (by rw [fo110_0]; rfl)]; simp only [fo110_0, Option.getD_some, hT12, sz12, true_and]; simp
@[go_sem] theorem fe110_0 : fieldAddrD Go.Proofs.Try.prog 110 (.elemP cs off) 0 K = K (.elemP cs (off + 0)) := by
  rw [fa_elem (by rw [fo110_0]; rfl)]; simp only [fo110_0, Option.getD_some, hT12, sz12, true_and]; simp
@[go_sem] theorem fa110_1 : fieldAddrD Go.Proofs.Try.prog 110 (.addr id off) 1 K = K (.addr id (off + 1)) := by
  rw [fa_addr (by rw [fo110_1]; rfl)]; simp only [fo110_1, Option.getD_some, hT12, sz12, true_and]; simp
@[go_sem] theorem fe110_1 : fieldAddrD Go.Proofs.Try.prog 110 (.elemP cs off) 1 K = K (.elemP cs (off + 1)) := by
  rw [fa_elem (by rw [fo110_1]; rfl)]; simp only [fo110_1, Option.getD_some, hT12, sz12, true_and]; simp
@[go_sem] theorem fa110_2 : fieldAddrD Go.Proofs.Try.prog 110 (.addr id off) 2 K = K (.addr id (off + 2)) := by
  rw [fa_addr (by rw [fo110_2]; rfl)]; simp only [fo110_2, Option.getD_some, hT95, sz95, true_and]; simp
@[go_sem] theorem fe110_2 : fieldAddrD Go.Proofs.Try.prog 110 (.elemP cs off) 2 K = K (.elemP cs (off + 2)) := by
  rw [fa_elem (by rw [fo110_2]; rfl)]; simp only [fo110_2, Option.getD_some, hT95, sz95, true_and]; simp
@[go_sem] theorem fa110_3 : fieldAddrD Go.Proofs.Try.prog 110 (.addr id off) 3 K = K (.addr id (off + 3)) := by
  rw [fa_addr (by rw [fo110_3]; rfl)]; simp only [fo110_3, Option.getD_some, hT104, sz104, true_and]; simp
@[go_sem] theorem fe110_3 : fieldAddrD Go.Proofs.Try.prog 110 (.elemP cs off) 3 K = K (.elemP cs (off + 3)) := by
  rw [fa_elem (by rw [fo110_3]; rfl)]; simp only [fo110_3, Option.getD_some, hT104, sz104, true_and]; simp
@[go_sem] theorem fa110_4 : fieldAddrD Go.Proofs.Try.prog 110 (.addr id off) 4 K = K (.addr id (off + 4)) := by
  rw [fa_addr (by rw [fo110_4]; rfl)]; simp only [fo110_4, Option.getD_some, hT5, sz5, true_and]; simp
@[go_sem] theorem fe110_4 : fieldAddrD Go.Proofs.Try.prog 110 (.elemP cs off) 4 K = K (.elemP cs (off + 4)) := by
  rw [fa_elem (by rw [fo110_4]; rfl)]; simp only [fo110_4, Option.getD_some, hT5, sz5, true_and]; simp
@[go_sem] theorem fa110_5 : fieldAddrD Go.Proofs.Try.prog 110 (.addr id off) 5 K = K (.addr id (off + 5)) := by
  rw [fa_addr (by rw [fo110_5]; rfl)]; simp only [fo110_5, Option.getD_some, hT5, sz5, true_and]; simp
@[go_sem] theorem fe110_5 : fieldAddrD Go.Proofs.Try.prog 110 (.elemP cs off) 5 K = K (.elemP cs (off + 5)) := by
  rw [fa_elem (by rw [fo110_5]; rfl)]; simp only [fo110_5, Option.getD_some, hT5, sz5, true_and]; simp
@[go_sem] theorem fa110_6 : fieldAddrD Go.Proofs.Try.prog 110 (.addr id off) 6 K = K (.addr id (off + 6)) := by
  rw [fa_addr (by rw [fo110_6]; rfl)]; simp only [fo110_6, Option.getD_some, hT105, sz105, true_and]; simp
@[go_sem] theorem fe110_6 : fieldAddrD Go.Proofs.Try.prog 110 (.elemP cs off) 6 K = K (.elemP cs (off + 6)) := by
  rw [fa_elem (by rw [fo110_6]; rfl)]; simp only [fo110_6, Option.getD_some, hT105, sz105, true_and]; simp
@[go_sem] theorem fa110_7 : fieldAddrD Go.Proofs.Try.prog 110 (.addr id off) 7 K = K (.addr id (off + 7)) := by
  rw [fa_addr (by rw [fo110_7]; rfl)]; simp only [fo110_7, Option.getD_some, hT106, sz106, true_and]; simp
@[go_sem] theorem fe110_7 : fieldAddrD Go.Proofs.Try.prog 110 (.elemP cs off) 7 K = K (.elemP cs (off + 7)) := by
  rw [fa_elem (by rw [fo110_7]; rfl)]; simp only [fo110_7, Option.getD_some, hT106, sz106, true_and]; simp
@[go_sem] theorem fa110_8 : fieldAddrD Go.Proofs.Try.prog 110 (.addr id off) 8 K = K (.addr id (off + 8)) := by
  rw [fa_addr (by rw [fo110_8]; rfl)]; simp only [fo110_8, Option.getD_some, hT77, sz77, true_and]; simp
@[go_sem] theorem fe110_8 : fieldAddrD Go.Proofs.Try.prog 110 (.elemP cs off) 8 K = K (.elemP cs (off + 8)) := by
  rw [fa_elem (by rw [fo110_8]; rfl)]; simp only [fo110_8, Option.getD_some, hT77, sz77, true_and]; simp
@[go_sem] theorem fa110_9 : fieldAddrD Go.Proofs.Try.prog 110 (.addr id off) 9 K = K (.addr id (off + 9)) := by
  rw [fa_addr (by rw [fo110_9]; rfl)]; simp only [fo110_9, Option.getD_some, hT107, sz107, true_and]; simp
@[go_sem] theorem fe110_9 : fieldAddrD Go.Proofs.Try.prog 110 (.elemP cs off) 9 K = K (.elemP cs (off + 9)) := by
  rw [fa_elem (by rw [fo110_9]; rfl)]; simp only [fo110_9, Option.getD_some, hT107, sz107, true_and]; simp
@[go_sem] theorem fa110_10 : fieldAddrD Go.Proofs.Try.prog 110 (.addr id off) 10 K = K (.addr id (off + 10)) := by
  rw [fa_addr (by rw [fo110_10]; rfl)]; simp only [fo110_10, Option.getD_some, hT108, sz108, true_and]; simp
@[go_sem] theorem fe110_10 : fieldAddrD Go.Proofs.Try.prog 110 (.elemP cs off) 10 K = K (.elemP cs (off + 10)) := by
  rw [fa_elem (by rw [fo110_10]; rfl)]; simp only [fo110_10, Option.getD_some, hT108, sz108, true_and]; simp
end Go.AD.T
