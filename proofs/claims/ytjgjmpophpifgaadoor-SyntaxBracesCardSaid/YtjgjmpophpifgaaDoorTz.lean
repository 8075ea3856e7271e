/- The calculus' words at the seat's types. -/
import Derived.Test.YtjgjmpophpifgaaDoorTy
import Derived.Test.YtjgjmpophpifgaaDoorAd17
set_option linter.unusedVariables false
set_option maxRecDepth 100000
namespace Go.AD.T
variable {σ : AS} {id off n size : Nat} {K : AV → Prop} {KS : AS → Prop} {k k2 : IntKind} {cs : List PV} {p : PV} {x : List UInt8} {i j : Nat} {z : Int}
@[go_sem] theorem ld0 : loadD Go.Proofs.Tryd.prog σ 0 (.addr id off) K = ldM (σ id) off K := ldA hT0 ag0
@[go_sem] theorem le0 : loadD Go.Proofs.Tryd.prog σ 0 (.elemP cs off) K = (∃ v, cs[off]? = some v ∧ K (.pv v)) := load_elem hT0 ag0
@[go_sem] theorem stp0 : storeD Go.Proofs.Tryd.prog σ 0 (.addr id off) (.pv p) KS = stM σ id (σ id) off (.pv p) KS := stA hT0 sz0 rfl rfl
@[go_sem] theorem ld1 : loadD Go.Proofs.Tryd.prog σ 1 (.addr id off) K = ldM (σ id) off K := ldA hT1 ag1
@[go_sem] theorem le1 : loadD Go.Proofs.Tryd.prog σ 1 (.elemP cs off) K = (∃ v, cs[off]? = some v ∧ K (.pv v)) := load_elem hT1 ag1
@[go_sem] theorem stp1 : storeD Go.Proofs.Tryd.prog σ 1 (.addr id off) (.pv p) KS = stM σ id (σ id) off (.pv p) KS := stA hT1 sz1 rfl rfl
@[go_sem] theorem ld2 : loadD Go.Proofs.Tryd.prog σ 2 (.addr id off) K = ldM (σ id) off K := ldA hT2 ag2
@[go_sem] theorem le2 : loadD Go.Proofs.Tryd.prog σ 2 (.elemP cs off) K = (∃ v, cs[off]? = some v ∧ K (.pv v)) := load_elem hT2 ag2
@[go_sem] theorem stp2 : storeD Go.Proofs.Tryd.prog σ 2 (.addr id off) (.pv p) KS = stM σ id (σ id) off (.pv p) KS := stA hT2 sz2 rfl rfl
@[go_sem] theorem ld3 : loadD Go.Proofs.Tryd.prog σ 3 (.addr id off) K = ldM (σ id) off K := ldA hT3 ag3
@[go_sem] theorem le3 : loadD Go.Proofs.Tryd.prog σ 3 (.elemP cs off) K = (∃ v, cs[off]? = some v ∧ K (.pv v)) := load_elem hT3 ag3
@[go_sem] theorem stp3 : storeD Go.Proofs.Tryd.prog σ 3 (.addr id off) (.pv p) KS = stM σ id (σ id) off (.pv p) KS := stA hT3 sz3 rfl rfl
@[go_sem] theorem ld4 : loadD Go.Proofs.Tryd.prog σ 4 (.addr id off) K = ldM (σ id) off K := ldA hT4 ag4
@[go_sem] theorem le4 : loadD Go.Proofs.Tryd.prog σ 4 (.elemP cs off) K = (∃ v, cs[off]? = some v ∧ K (.pv v)) := load_elem hT4 ag4
@[go_sem] theorem stp4 : storeD Go.Proofs.Tryd.prog σ 4 (.addr id off) (.pv p) KS = stM σ id (σ id) off (.pv p) KS := stA hT4 sz4 rfl rfl
@[go_sem] theorem ld5 : loadD Go.Proofs.Tryd.prog σ 5 (.addr id off) K = ldM (σ id) off K := ldA hT5 ag5
@[go_sem] theorem le5 : loadD Go.Proofs.Tryd.prog σ 5 (.elemP cs off) K = (∃ v, cs[off]? = some v ∧ K (.pv v)) := load_elem hT5 ag5
@[go_sem] theorem stp5 : storeD Go.Proofs.Tryd.prog σ 5 (.addr id off) (.pv p) KS = stM σ id (σ id) off (.pv p) KS := stA hT5 sz5 rfl rfl
@[go_sem] theorem ld6 : loadD Go.Proofs.Tryd.prog σ 6 (.addr id off) K = ldM (σ id) off K := ldA hT6 ag6
@[go_sem] theorem le6 : loadD Go.Proofs.Tryd.prog σ 6 (.elemP cs off) K = (∃ v, cs[off]? = some v ∧ K (.pv v)) := load_elem hT6 ag6
@[go_sem] theorem stp6 : storeD Go.Proofs.Tryd.prog σ 6 (.addr id off) (.pv p) KS = stM σ id (σ id) off (.pv p) KS := stA hT6 sz6 rfl rfl
@[go_sem] theorem fa7_0 : fieldAddrD Go.Proofs.Tryd.prog 7 (.addr id off) 0 K = K (.addr id (off + 0)) := by
  rw [fa_addr (by rw [fo7_0]; rfl)]; simp only [fo7_0, Option.getD_some, hT2, sz2, true_and]; simp
@[go_sem] theorem fe7_0 : fieldAddrD Go.Proofs.Tryd.prog 7 (.elemP cs off) 0 K = K (.elemP cs (off + 0)) := by
  rw [fa_elem (by rw [fo7_0]; rfl)]; simp only [fo7_0, Option.getD_some, hT2, sz2, true_and]; simp
@[go_sem] theorem fa7_1 : fieldAddrD Go.Proofs.Tryd.prog 7 (.addr id off) 1 K = K (.addr id (off + 1)) := by
  rw [fa_addr (by rw [fo7_1]; rfl)]; simp only [fo7_1, Option.getD_some, hT3, sz3, true_and]; simp
@[go_sem] theorem fe7_1 : fieldAddrD Go.Proofs.Tryd.prog 7 (.elemP cs off) 1 K = K (.elemP cs (off + 1)) := by
  rw [fa_elem (by rw [fo7_1]; rfl)]; simp only [fo7_1, Option.getD_some, hT3, sz3, true_and]; simp
@[go_sem] theorem fa7_2 : fieldAddrD Go.Proofs.Tryd.prog 7 (.addr id off) 2 K = K (.addr id (off + 2)) := by
  rw [fa_addr (by rw [fo7_2]; rfl)]; simp only [fo7_2, Option.getD_some, hT4, sz4, true_and]; simp
@[go_sem] theorem fe7_2 : fieldAddrD Go.Proofs.Tryd.prog 7 (.elemP cs off) 2 K = K (.elemP cs (off + 2)) := by
  rw [fa_elem (by rw [fo7_2]; rfl)]; simp only [fo7_2, Option.getD_some, hT4, sz4, true_and]; simp
@[go_sem] theorem fa7_3 : fieldAddrD Go.Proofs.Tryd.prog 7 (.addr id off) 3 K = K (.addr id (off + 3)) := by
  rw [fa_addr (by rw [fo7_3]; rfl)]; simp only [fo7_3, Option.getD_some, hT6, sz6, true_and]; simp
@[go_sem] theorem fe7_3 : fieldAddrD Go.Proofs.Tryd.prog 7 (.elemP cs off) 3 K = K (.elemP cs (off + 3)) := by
  rw [fa_elem (by rw [fo7_3]; rfl)]; simp only [fo7_3, Option.getD_some, hT6, sz6, true_and]; simp
@[go_sem] theorem fa8_0 : fieldAddrD Go.Proofs.Tryd.prog 8 (.addr id off) 0 K = K (.addr id (off + 0)) := by
  rw [fa_addr (by rw [fo8_0]; rfl)]; simp only [fo8_0, Option.getD_some, hT2, sz2, true_and]; simp
@[go_sem] theorem fe8_0 : fieldAddrD Go.Proofs.Tryd.prog 8 (.elemP cs off) 0 K = K (.elemP cs (off + 0)) := by
  rw [fa_elem (by rw [fo8_0]; rfl)]; simp only [fo8_0, Option.getD_some, hT2, sz2, true_and]; simp
@[go_sem] theorem fa8_1 : fieldAddrD Go.Proofs.Tryd.prog 8 (.addr id off) 1 K = K (.addr id (off + 1)) := by
  rw [fa_addr (by rw [fo8_1]; rfl)]; simp only [fo8_1, Option.getD_some, hT3, sz3, true_and]; simp
@[go_sem] theorem fe8_1 : fieldAddrD Go.Proofs.Tryd.prog 8 (.elemP cs off) 1 K = K (.elemP cs (off + 1)) := by
  rw [fa_elem (by rw [fo8_1]; rfl)]; simp only [fo8_1, Option.getD_some, hT3, sz3, true_and]; simp
@[go_sem] theorem fa8_2 : fieldAddrD Go.Proofs.Tryd.prog 8 (.addr id off) 2 K = K (.addr id (off + 2)) := by
  rw [fa_addr (by rw [fo8_2]; rfl)]; simp only [fo8_2, Option.getD_some, hT4, sz4, true_and]; simp
@[go_sem] theorem fe8_2 : fieldAddrD Go.Proofs.Tryd.prog 8 (.elemP cs off) 2 K = K (.elemP cs (off + 2)) := by
  rw [fa_elem (by rw [fo8_2]; rfl)]; simp only [fo8_2, Option.getD_some, hT4, sz4, true_and]; simp
@[go_sem] theorem fa8_3 : fieldAddrD Go.Proofs.Tryd.prog 8 (.addr id off) 3 K = K (.addr id (off + 3)) := by
  rw [fa_addr (by rw [fo8_3]; rfl)]; simp only [fo8_3, Option.getD_some, hT6, sz6, true_and]; simp
@[go_sem] theorem fe8_3 : fieldAddrD Go.Proofs.Tryd.prog 8 (.elemP cs off) 3 K = K (.elemP cs (off + 3)) := by
  rw [fa_elem (by rw [fo8_3]; rfl)]; simp only [fo8_3, Option.getD_some, hT6, sz6, true_and]; simp
@[go_sem] theorem ld9 : loadD Go.Proofs.Tryd.prog σ 9 (.addr id off) K = ldM (σ id) off K := ldA hT9 ag9
@[go_sem] theorem le9 : loadD Go.Proofs.Tryd.prog σ 9 (.elemP cs off) K = (∃ v, cs[off]? = some v ∧ K (.pv v)) := load_elem hT9 ag9
@[go_sem] theorem stp9 : storeD Go.Proofs.Tryd.prog σ 9 (.addr id off) (.pv p) KS = stM σ id (σ id) off (.pv p) KS := stA hT9 sz9 rfl rfl
theorem und9 : (Go.Proofs.Tryd.prog).underlying 9 = some .string := by kernel_rfl
@[go_sem] theorem ls9 : lenD Go.Proofs.Tryd.prog 9 (.pv (.str x)) K = K (.pv (.int .i64 x.length)) := len_str und9
theorem is9 (h : i < x.length) : indexD Go.Proofs.Tryd.prog 9 (.pv (.str x)) (.pv (.int k i)) K = K (.pv (.int .u8 (x.getD i 0).toNat)) := ixS und9 h
theorem ss9 (h : i ≤ x.length) : sliceD Go.Proofs.Tryd.prog 9 (.pv (.str x)) (some (.pv (.int k i))) none K = K (.pv (.str (x.drop i))) := slS und9 h
theorem st9 (h : i ≤ x.length) : sliceD Go.Proofs.Tryd.prog 9 (.pv (.str x)) none (some (.pv (.int k i))) K = K (.pv (.str (x.take i))) := slS0 und9 h
theorem sb9 (h : i ≤ j) (h2 : j ≤ x.length) : sliceD Go.Proofs.Tryd.prog 9 (.pv (.str x)) (some (.pv (.int k i))) (some (.pv (.int k2 j))) K = K (.pv (.str ((x.take j).drop i))) := slS2 und9 h h2
@[go_sem] theorem ld10 : loadD Go.Proofs.Tryd.prog σ 10 (.addr id off) K = ldM (σ id) off K := ldA hT10 ag10
@[go_sem] theorem le10 : loadD Go.Proofs.Tryd.prog σ 10 (.elemP cs off) K = (∃ v, cs[off]? = some v ∧ K (.pv v)) := load_elem hT10 ag10
@[go_sem] theorem stp10 : storeD Go.Proofs.Tryd.prog σ 10 (.addr id off) (.pv p) KS = stM σ id (σ id) off (.pv p) KS := stA hT10 sz10 rfl rfl
theorem und10 : (Go.Proofs.Tryd.prog).underlying 10 = some .string := by kernel_rfl
@[go_sem] theorem ls10 : lenD Go.Proofs.Tryd.prog 10 (.pv (.str x)) K = K (.pv (.int .i64 x.length)) := len_str und10
theorem is10 (h : i < x.length) : indexD Go.Proofs.Tryd.prog 10 (.pv (.str x)) (.pv (.int k i)) K = K (.pv (.int .u8 (x.getD i 0).toNat)) := ixS und10 h
theorem ss10 (h : i ≤ x.length) : sliceD Go.Proofs.Tryd.prog 10 (.pv (.str x)) (some (.pv (.int k i))) none K = K (.pv (.str (x.drop i))) := slS und10 h
theorem st10 (h : i ≤ x.length) : sliceD Go.Proofs.Tryd.prog 10 (.pv (.str x)) none (some (.pv (.int k i))) K = K (.pv (.str (x.take i))) := slS0 und10 h
theorem sb10 (h : i ≤ j) (h2 : j ≤ x.length) : sliceD Go.Proofs.Tryd.prog 10 (.pv (.str x)) (some (.pv (.int k i))) (some (.pv (.int k2 j))) K = K (.pv (.str ((x.take j).drop i))) := slS2 und10 h h2
@[go_sem] theorem ld11 : loadD Go.Proofs.Tryd.prog σ 11 (.addr id off) K = ldM (σ id) off K := ldA hT11 ag11
@[go_sem] theorem le11 : loadD Go.Proofs.Tryd.prog σ 11 (.elemP cs off) K = (∃ v, cs[off]? = some v ∧ K (.pv v)) := load_elem hT11 ag11
@[go_sem] theorem stp11 : storeD Go.Proofs.Tryd.prog σ 11 (.addr id off) (.pv p) KS = stM σ id (σ id) off (.pv p) KS := stA hT11 sz11 rfl rfl
theorem und11 : (Go.Proofs.Tryd.prog).underlying 11 = some .string := by kernel_rfl
@[go_sem] theorem ls11 : lenD Go.Proofs.Tryd.prog 11 (.pv (.str x)) K = K (.pv (.int .i64 x.length)) := len_str und11
theorem is11 (h : i < x.length) : indexD Go.Proofs.Tryd.prog 11 (.pv (.str x)) (.pv (.int k i)) K = K (.pv (.int .u8 (x.getD i 0).toNat)) := ixS und11 h
theorem ss11 (h : i ≤ x.length) : sliceD Go.Proofs.Tryd.prog 11 (.pv (.str x)) (some (.pv (.int k i))) none K = K (.pv (.str (x.drop i))) := slS und11 h
theorem st11 (h : i ≤ x.length) : sliceD Go.Proofs.Tryd.prog 11 (.pv (.str x)) none (some (.pv (.int k i))) K = K (.pv (.str (x.take i))) := slS0 und11 h
theorem sb11 (h : i ≤ j) (h2 : j ≤ x.length) : sliceD Go.Proofs.Tryd.prog 11 (.pv (.str x)) (some (.pv (.int k i))) (some (.pv (.int k2 j))) K = K (.pv (.str ((x.take j).drop i))) := slS2 und11 h h2
@[go_sem] theorem ld12 : loadD Go.Proofs.Tryd.prog σ 12 (.addr id off) K = ldM (σ id) off K := ldA hT12 ag12
@[go_sem] theorem le12 : loadD Go.Proofs.Tryd.prog σ 12 (.elemP cs off) K = (∃ v, cs[off]? = some v ∧ K (.pv v)) := load_elem hT12 ag12
@[go_sem] theorem stp12 : storeD Go.Proofs.Tryd.prog σ 12 (.addr id off) (.pv p) KS = stM σ id (σ id) off (.pv p) KS := stA hT12 sz12 rfl rfl
@[go_sem] theorem fa13_0 : fieldAddrD Go.Proofs.Tryd.prog 13 (.addr id off) 0 K = K (.addr id (off + 0)) := by
  rw [fa_addr (by rw [fo13_0]; rfl)]; simp only [fo13_0, Option.getD_some, hT9, sz9, true_and]; simp
@[go_sem] theorem fe13_0 : fieldAddrD Go.Proofs.Tryd.prog 13 (.elemP cs off) 0 K = K (.elemP cs (off + 0)) := by
  rw [fa_elem (by rw [fo13_0]; rfl)]; simp only [fo13_0, Option.getD_some, hT9, sz9, true_and]; simp
@[go_sem] theorem fa13_1 : fieldAddrD Go.Proofs.Tryd.prog 13 (.addr id off) 1 K = K (.addr id (off + 1)) := by
  rw [fa_addr (by rw [fo13_1]; rfl)]; simp only [fo13_1, Option.getD_some, hT12, sz12, true_and]; simp
@[go_sem] theorem fe13_1 : fieldAddrD Go.Proofs.Tryd.prog 13 (.elemP cs off) 1 K = K (.elemP cs (off + 1)) := by
  rw [fa_elem (by rw [fo13_1]; rfl)]; simp only [fo13_1, Option.getD_some, hT12, sz12, true_and]; simp
@[go_sem] theorem fa14_0 : fieldAddrD Go.Proofs.Tryd.prog 14 (.addr id off) 0 K = K (.addr id (off + 0)) := by
  rw [fa_addr (by rw [fo14_0]; rfl)]; simp only [fo14_0, Option.getD_some, hT9, sz9, true_and]; simp
@[go_sem] theorem fe14_0 : fieldAddrD Go.Proofs.Tryd.prog 14 (.elemP cs off) 0 K = K (.elemP cs (off + 0)) := by
  rw [fa_elem (by rw [fo14_0]; rfl)]; simp only [fo14_0, Option.getD_some, hT9, sz9, true_and]; simp
@[go_sem] theorem fa14_1 : fieldAddrD Go.Proofs.Tryd.prog 14 (.addr id off) 1 K = K (.addr id (off + 1)) := by
  rw [fa_addr (by rw [fo14_1]; rfl)]; simp only [fo14_1, Option.getD_some, hT12, sz12, true_and]; simp
@[go_sem] theorem fe14_1 : fieldAddrD Go.Proofs.Tryd.prog 14 (.elemP cs off) 1 K = K (.elemP cs (off + 1)) := by
  rw [fa_elem (by rw [fo14_1]; rfl)]; simp only [fo14_1, Option.getD_some, hT12, sz12, true_and]; simp
@[go_sem] theorem ld15 : loadD Go.Proofs.Tryd.prog σ 15 (.addr id off) K = ldM (σ id) off K := ldA hT15 ag15
@[go_sem] theorem le15 : loadD Go.Proofs.Tryd.prog σ 15 (.elemP cs off) K = (∃ v, cs[off]? = some v ∧ K (.pv v)) := load_elem hT15 ag15
@[go_sem] theorem stp15 : storeD Go.Proofs.Tryd.prog σ 15 (.addr id off) (.pv p) KS = stM σ id (σ id) off (.pv p) KS := stA hT15 sz15 rfl rfl
@[go_sem] theorem sta15 {j o : Nat} : storeD Go.Proofs.Tryd.prog σ 15 (.addr id off) (.addr j o) KS = stM σ id (σ id) off (.addr j o) KS := stA hT15 sz15 rfl rfl
@[go_sem] theorem ld16 : loadD Go.Proofs.Tryd.prog σ 16 (.addr id off) K = ldM (σ id) off K := ldA hT16 ag16
@[go_sem] theorem le16 : loadD Go.Proofs.Tryd.prog σ 16 (.elemP cs off) K = (∃ v, cs[off]? = some v ∧ K (.pv v)) := load_elem hT16 ag16
@[go_sem] theorem stp16 : storeD Go.Proofs.Tryd.prog σ 16 (.addr id off) (.pv p) KS = stM σ id (σ id) off (.pv p) KS := stA hT16 sz16 rfl rfl
@[go_sem] theorem sta16 {j o : Nat} : storeD Go.Proofs.Tryd.prog σ 16 (.addr id off) (.addr j o) KS = stM σ id (σ id) off (.addr j o) KS := stA hT16 sz16 rfl rfl
@[go_sem] theorem ld17 : loadD Go.Proofs.Tryd.prog σ 17 (.addr id off) K = ldM (σ id) off K := ldA hT17 ag17
@[go_sem] theorem le17 : loadD Go.Proofs.Tryd.prog σ 17 (.elemP cs off) K = (∃ v, cs[off]? = some v ∧ K (.pv v)) := load_elem hT17 ag17
@[go_sem] theorem stp17 : storeD Go.Proofs.Tryd.prog σ 17 (.addr id off) (.pv p) KS = stM σ id (σ id) off (.pv p) KS := stA hT17 sz17 rfl rfl
@[go_sem] theorem sta17 {j o : Nat} : storeD Go.Proofs.Tryd.prog σ 17 (.addr id off) (.addr j o) KS = stM σ id (σ id) off (.addr j o) KS := stA hT17 sz17 rfl rfl
@[go_sem] theorem fa18_0 : fieldAddrD Go.Proofs.Tryd.prog 18 (.addr id off) 0 K = K (.addr id (off + 0)) := by
  rw [fa_addr (by rw [fo18_0]; rfl)]; simp only [fo18_0, Option.getD_some, hT17, sz17, true_and]; simp
@[go_sem] theorem fe18_0 : fieldAddrD Go.Proofs.Tryd.prog 18 (.elemP cs off) 0 K = K (.elemP cs (off + 0)) := by
  rw [fa_elem (by rw [fo18_0]; rfl)]; simp only [fo18_0, Option.getD_some, hT17, sz17, true_and]; simp
@[go_sem] theorem fa19_0 : fieldAddrD Go.Proofs.Tryd.prog 19 (.addr id off) 0 K = K (.addr id (off + 0)) := by
  rw [fa_addr (by rw [fo19_0]; rfl)]; simp only [fo19_0, Option.getD_some, hT17, sz17, true_and]; simp
@[go_sem] theorem fe19_0 : fieldAddrD Go.Proofs.Tryd.prog 19 (.elemP cs off) 0 K = K (.elemP cs (off + 0)) := by
  rw [fa_elem (by rw [fo19_0]; rfl)]; simp only [fo19_0, Option.getD_some, hT17, sz17, true_and]; simp
@[go_sem] theorem ld20 : loadD Go.Proofs.Tryd.prog σ 20 (.addr id off) K = ldM (σ id) off K := ldA hT20 ag20
@[go_sem] theorem le20 : loadD Go.Proofs.Tryd.prog σ 20 (.elemP cs off) K = (∃ v, cs[off]? = some v ∧ K (.pv v)) := load_elem hT20 ag20
@[go_sem] theorem stp20 : storeD Go.Proofs.Tryd.prog σ 20 (.addr id off) (.pv p) KS = stM σ id (σ id) off (.pv p) KS := stA hT20 sz20 rfl rfl
@[go_sem] theorem ld21 : loadD Go.Proofs.Tryd.prog σ 21 (.addr id off) K = ldM (σ id) off K := ldA hT21 ag21
@[go_sem] theorem le21 : loadD Go.Proofs.Tryd.prog σ 21 (.elemP cs off) K = (∃ v, cs[off]? = some v ∧ K (.pv v)) := load_elem hT21 ag21
@[go_sem] theorem stp21 : storeD Go.Proofs.Tryd.prog σ 21 (.addr id off) (.pv p) KS = stM σ id (σ id) off (.pv p) KS := stA hT21 sz21 rfl rfl
@[go_sem] theorem ld22 : loadD Go.Proofs.Tryd.prog σ 22 (.addr id off) K = ldM (σ id) off K := ldA hT22 ag22
@[go_sem] theorem le22 : loadD Go.Proofs.Tryd.prog σ 22 (.elemP cs off) K = (∃ v, cs[off]? = some v ∧ K (.pv v)) := load_elem hT22 ag22
@[go_sem] theorem stp22 : storeD Go.Proofs.Tryd.prog σ 22 (.addr id off) (.pv p) KS = stM σ id (σ id) off (.pv p) KS := stA hT22 sz22 rfl rfl
@[go_sem] theorem ld23 : loadD Go.Proofs.Tryd.prog σ 23 (.addr id off) K = ldM (σ id) off K := ldA hT23 ag23
@[go_sem] theorem le23 : loadD Go.Proofs.Tryd.prog σ 23 (.elemP cs off) K = (∃ v, cs[off]? = some v ∧ K (.pv v)) := load_elem hT23 ag23
@[go_sem] theorem stp23 : storeD Go.Proofs.Tryd.prog σ 23 (.addr id off) (.pv p) KS = stM σ id (σ id) off (.pv p) KS := stA hT23 sz23 rfl rfl
theorem stv23 {v : AV} (hv : v.cells = [v]) (h2 : v.cellOk = true) : storeD Go.Proofs.Tryd.prog σ 23 (.addr id off) v KS = stM σ id (σ id) off v KS := stA hT23 sz23 hv h2
@[go_sem] theorem lnl23 : lenD Go.Proofs.Tryd.prog 23 (.pv (.lst n cs)) K = K (.pv (.int .i64 n)) := len_lst (by rw [el23]; rfl)
@[go_sem] theorem lng23 : lenD Go.Proofs.Tryd.prog 23 (.grow id n cs) K = K (.pv (.int .i64 n)) := len_grow (by rw [el23]; rfl)
@[go_sem] theorem lnf23 : lenD Go.Proofs.Tryd.prog 23 (.full n cs) K = K (.pv (.int .i64 n)) := len_full (by rw [el23]; rfl)
@[go_sem] theorem lnm23 : lenD Go.Proofs.Tryd.prog 23 (.msl id off n size) K = K (.pv (.int .i64 n)) := len_msl (by rw [el23]; rfl)
@[go_sem] theorem lnn23 : lenD Go.Proofs.Tryd.prog 23 .nilS K = K (.pv (.int .i64 0)) := len_nil (by rw [el23]; rfl)
theorem lnv23 {v : AV} (h : toPV v = some (.lst n cs)) : lenD Go.Proofs.Tryd.prog 23 v K = K (.pv (.int .i64 n)) := len_of (by rw [el23]; rfl) h
theorem ixm23 (h : i < n) : indexAddrD Go.Proofs.Tryd.prog 23 (.msl id off n size) (.pv (.int k i)) K = K (.addr id (off + i * 2)) := by
  rw [ix_msl (by rw [el23]; rfl)]; simp only [el23, Option.getD_some, iS25, sz25, Int.toNat_natCast, true_and]; simp [h]
theorem ixl23 (h : i < n) (hl : cs.length = n * 2) : indexAddrD Go.Proofs.Tryd.prog 23 (.pv (.lst n cs)) (.pv (.int k i)) K = K (.elemP cs (i * 2)) := by
  rw [ix_lst (by rw [el23]; rfl)]; simp only [el23, Option.getD_some, iS25, sz25, Int.toNat_natCast, true_and]; simp [h, hl]
theorem ixv23 {v : AV} (hv : toPV v = some (.lst n cs)) (h : i < n) (hl : cs.length = n * 2) (hK : K (.elemP cs (i * 2))) : indexAddrD Go.Proofs.Tryd.prog 23 v (.pv (.int k i)) K := by
  refine ix_of (by rw [el23]; rfl) hv (by rw [el23]; exact iS25) (by rw [el23, Option.getD_some, sz25, hl]; exact Nat.le_refl _) (by rw [el23, Option.getD_some, sz25]; decide) (by omega) (by omega) ?_
  rw [el23, Option.getD_some, sz25, Int.toNat_natCast]; exact hK
@[go_sem] theorem ld24 : loadD Go.Proofs.Tryd.prog σ 24 (.addr id off) K = ldM (σ id) off K := ldA hT24 ag24
@[go_sem] theorem le24 : loadD Go.Proofs.Tryd.prog σ 24 (.elemP cs off) K = (∃ v, cs[off]? = some v ∧ K (.pv v)) := load_elem hT24 ag24
@[go_sem] theorem stp24 : storeD Go.Proofs.Tryd.prog σ 24 (.addr id off) (.pv p) KS = stM σ id (σ id) off (.pv p) KS := stA hT24 sz24 rfl rfl
@[go_sem] theorem ld26 : loadD Go.Proofs.Tryd.prog σ 26 (.addr id off) K = ldM (σ id) off K := ldA hT26 ag26
@[go_sem] theorem le26 : loadD Go.Proofs.Tryd.prog σ 26 (.elemP cs off) K = (∃ v, cs[off]? = some v ∧ K (.pv v)) := load_elem hT26 ag26
@[go_sem] theorem stp26 : storeD Go.Proofs.Tryd.prog σ 26 (.addr id off) (.pv p) KS = stM σ id (σ id) off (.pv p) KS := stA hT26 sz26 rfl rfl
@[go_sem] theorem ld27 : loadD Go.Proofs.Tryd.prog σ 27 (.addr id off) K = ldM (σ id) off K := ldA hT27 ag27
@[go_sem] theorem le27 : loadD Go.Proofs.Tryd.prog σ 27 (.elemP cs off) K = (∃ v, cs[off]? = some v ∧ K (.pv v)) := load_elem hT27 ag27
@[go_sem] theorem stp27 : storeD Go.Proofs.Tryd.prog σ 27 (.addr id off) (.pv p) KS = stM σ id (σ id) off (.pv p) KS := stA hT27 sz27 rfl rfl
theorem stv27 {v : AV} (hv : v.cells = [v]) (h2 : v.cellOk = true) : storeD Go.Proofs.Tryd.prog σ 27 (.addr id off) v KS = stM σ id (σ id) off v KS := stA hT27 sz27 hv h2
@[go_sem] theorem lnl27 : lenD Go.Proofs.Tryd.prog 27 (.pv (.lst n cs)) K = K (.pv (.int .i64 n)) := len_lst (by rw [el27]; rfl)
@[go_sem] theorem lng27 : lenD Go.Proofs.Tryd.prog 27 (.grow id n cs) K = K (.pv (.int .i64 n)) := len_grow (by rw [el27]; rfl)
@[go_sem] theorem lnf27 : lenD Go.Proofs.Tryd.prog 27 (.full n cs) K = K (.pv (.int .i64 n)) := len_full (by rw [el27]; rfl)
@[go_sem] theorem lnm27 : lenD Go.Proofs.Tryd.prog 27 (.msl id off n size) K = K (.pv (.int .i64 n)) := len_msl (by rw [el27]; rfl)
@[go_sem] theorem lnn27 : lenD Go.Proofs.Tryd.prog 27 .nilS K = K (.pv (.int .i64 0)) := len_nil (by rw [el27]; rfl)
theorem lnv27 {v : AV} (h : toPV v = some (.lst n cs)) : lenD Go.Proofs.Tryd.prog 27 v K = K (.pv (.int .i64 n)) := len_of (by rw [el27]; rfl) h
theorem ixm27 (h : i < n) : indexAddrD Go.Proofs.Tryd.prog 27 (.msl id off n size) (.pv (.int k i)) K = K (.addr id (off + i * 1)) := by
  rw [ix_msl (by rw [el27]; rfl)]; simp only [el27, Option.getD_some, iS9, sz9, Int.toNat_natCast, true_and]; simp [h]
theorem ixl27 (h : i < n) (hl : cs.length = n * 1) : indexAddrD Go.Proofs.Tryd.prog 27 (.pv (.lst n cs)) (.pv (.int k i)) K = K (.elemP cs (i * 1)) := by
  rw [ix_lst (by rw [el27]; rfl)]; simp only [el27, Option.getD_some, iS9, sz9, Int.toNat_natCast, true_and]; simp [h, hl]
theorem ixv27 {v : AV} (hv : toPV v = some (.lst n cs)) (h : i < n) (hl : cs.length = n * 1) (hK : K (.elemP cs (i * 1))) : indexAddrD Go.Proofs.Tryd.prog 27 v (.pv (.int k i)) K := by
  refine ix_of (by rw [el27]; rfl) hv (by rw [el27]; exact iS9) (by rw [el27, Option.getD_some, sz9, hl]; exact Nat.le_refl _) (by rw [el27, Option.getD_some, sz9]; decide) (by omega) (by omega) ?_
  rw [el27, Option.getD_some, sz9, Int.toNat_natCast]; exact hK
@[go_sem] theorem ld28 : loadD Go.Proofs.Tryd.prog σ 28 (.addr id off) K = ldM (σ id) off K := ldA hT28 ag28
@[go_sem] theorem le28 : loadD Go.Proofs.Tryd.prog σ 28 (.elemP cs off) K = (∃ v, cs[off]? = some v ∧ K (.pv v)) := load_elem hT28 ag28
@[go_sem] theorem stp28 : storeD Go.Proofs.Tryd.prog σ 28 (.addr id off) (.pv p) KS = stM σ id (σ id) off (.pv p) KS := stA hT28 sz28 rfl rfl
@[go_sem] theorem ld29 : loadD Go.Proofs.Tryd.prog σ 29 (.addr id off) K = ldM (σ id) off K := ldA hT29 ag29
@[go_sem] theorem le29 : loadD Go.Proofs.Tryd.prog σ 29 (.elemP cs off) K = (∃ v, cs[off]? = some v ∧ K (.pv v)) := load_elem hT29 ag29
@[go_sem] theorem stp29 : storeD Go.Proofs.Tryd.prog σ 29 (.addr id off) (.pv p) KS = stM σ id (σ id) off (.pv p) KS := stA hT29 sz29 rfl rfl
@[go_sem] theorem ld30 : loadD Go.Proofs.Tryd.prog σ 30 (.addr id off) K = ldM (σ id) off K := ldA hT30 ag30
@[go_sem] theorem le30 : loadD Go.Proofs.Tryd.prog σ 30 (.elemP cs off) K = (∃ v, cs[off]? = some v ∧ K (.pv v)) := load_elem hT30 ag30
@[go_sem] theorem stp30 : storeD Go.Proofs.Tryd.prog σ 30 (.addr id off) (.pv p) KS = stM σ id (σ id) off (.pv p) KS := stA hT30 sz30 rfl rfl
theorem stv30 {v : AV} (hv : v.cells = [v]) (h2 : v.cellOk = true) : storeD Go.Proofs.Tryd.prog σ 30 (.addr id off) v KS = stM σ id (σ id) off v KS := stA hT30 sz30 hv h2
@[go_sem] theorem lnl30 : lenD Go.Proofs.Tryd.prog 30 (.pv (.lst n cs)) K = K (.pv (.int .i64 n)) := len_lst (by rw [el30]; rfl)
@[go_sem] theorem lng30 : lenD Go.Proofs.Tryd.prog 30 (.grow id n cs) K = K (.pv (.int .i64 n)) := len_grow (by rw [el30]; rfl)
@[go_sem] theorem lnf30 : lenD Go.Proofs.Tryd.prog 30 (.full n cs) K = K (.pv (.int .i64 n)) := len_full (by rw [el30]; rfl)
@[go_sem] theorem lnm30 : lenD Go.Proofs.Tryd.prog 30 (.msl id off n size) K = K (.pv (.int .i64 n)) := len_msl (by rw [el30]; rfl)
@[go_sem] theorem lnn30 : lenD Go.Proofs.Tryd.prog 30 .nilS K = K (.pv (.int .i64 0)) := len_nil (by rw [el30]; rfl)
theorem lnv30 {v : AV} (h : toPV v = some (.lst n cs)) : lenD Go.Proofs.Tryd.prog 30 v K = K (.pv (.int .i64 n)) := len_of (by rw [el30]; rfl) h
theorem ixm30 (h : i < n) : indexAddrD Go.Proofs.Tryd.prog 30 (.msl id off n size) (.pv (.int k i)) K = K (.addr id (off + i * 1)) := by
  rw [ix_msl (by rw [el30]; rfl)]; simp only [el30, Option.getD_some, iS5, sz5, Int.toNat_natCast, true_and]; simp [h]
theorem ixl30 (h : i < n) (hl : cs.length = n * 1) : indexAddrD Go.Proofs.Tryd.prog 30 (.pv (.lst n cs)) (.pv (.int k i)) K = K (.elemP cs (i * 1)) := by
  rw [ix_lst (by rw [el30]; rfl)]; simp only [el30, Option.getD_some, iS5, sz5, Int.toNat_natCast, true_and]; simp [h, hl]
theorem ixv30 {v : AV} (hv : toPV v = some (.lst n cs)) (h : i < n) (hl : cs.length = n * 1) (hK : K (.elemP cs (i * 1))) : indexAddrD Go.Proofs.Tryd.prog 30 v (.pv (.int k i)) K := by
  refine ix_of (by rw [el30]; rfl) hv (by rw [el30]; exact iS5) (by rw [el30, Option.getD_some, sz5, hl]; exact Nat.le_refl _) (by rw [el30, Option.getD_some, sz5]; decide) (by omega) (by omega) ?_
  rw [el30, Option.getD_some, sz5, Int.toNat_natCast]; exact hK
@[go_sem] theorem ld31 : loadD Go.Proofs.Tryd.prog σ 31 (.addr id off) K = ldM (σ id) off K := ldA hT31 ag31
@[go_sem] theorem le31 : loadD Go.Proofs.Tryd.prog σ 31 (.elemP cs off) K = (∃ v, cs[off]? = some v ∧ K (.pv v)) := load_elem hT31 ag31
@[go_sem] theorem stp31 : storeD Go.Proofs.Tryd.prog σ 31 (.addr id off) (.pv p) KS = stM σ id (σ id) off (.pv p) KS := stA hT31 sz31 rfl rfl
@[go_sem] theorem ld32 : loadD Go.Proofs.Tryd.prog σ 32 (.addr id off) K = ldM (σ id) off K := ldA hT32 ag32
@[go_sem] theorem le32 : loadD Go.Proofs.Tryd.prog σ 32 (.elemP cs off) K = (∃ v, cs[off]? = some v ∧ K (.pv v)) := load_elem hT32 ag32
@[go_sem] theorem stp32 : storeD Go.Proofs.Tryd.prog σ 32 (.addr id off) (.pv p) KS = stM σ id (σ id) off (.pv p) KS := stA hT32 sz32 rfl rfl
@[go_sem] theorem ld33 : loadD Go.Proofs.Tryd.prog σ 33 (.addr id off) K = ldM (σ id) off K := ldA hT33 ag33
@[go_sem] theorem le33 : loadD Go.Proofs.Tryd.prog σ 33 (.elemP cs off) K = (∃ v, cs[off]? = some v ∧ K (.pv v)) := load_elem hT33 ag33
@[go_sem] theorem stp33 : storeD Go.Proofs.Tryd.prog σ 33 (.addr id off) (.pv p) KS = stM σ id (σ id) off (.pv p) KS := stA hT33 sz33 rfl rfl
@[go_sem] theorem ld34 : loadD Go.Proofs.Tryd.prog σ 34 (.addr id off) K = ldM (σ id) off K := ldA hT34 ag34
@[go_sem] theorem le34 : loadD Go.Proofs.Tryd.prog σ 34 (.elemP cs off) K = (∃ v, cs[off]? = some v ∧ K (.pv v)) := load_elem hT34 ag34
@[go_sem] theorem stp34 : storeD Go.Proofs.Tryd.prog σ 34 (.addr id off) (.pv p) KS = stM σ id (σ id) off (.pv p) KS := stA hT34 sz34 rfl rfl
@[go_sem] theorem ld35 : loadD Go.Proofs.Tryd.prog σ 35 (.addr id off) K = ldM (σ id) off K := ldA hT35 ag35
@[go_sem] theorem le35 : loadD Go.Proofs.Tryd.prog σ 35 (.elemP cs off) K = (∃ v, cs[off]? = some v ∧ K (.pv v)) := load_elem hT35 ag35
@[go_sem] theorem stp35 : storeD Go.Proofs.Tryd.prog σ 35 (.addr id off) (.pv p) KS = stM σ id (σ id) off (.pv p) KS := stA hT35 sz35 rfl rfl
theorem stv35 {v : AV} (hv : v.cells = [v]) (h2 : v.cellOk = true) : storeD Go.Proofs.Tryd.prog σ 35 (.addr id off) v KS = stM σ id (σ id) off v KS := stA hT35 sz35 hv h2
@[go_sem] theorem lnl35 : lenD Go.Proofs.Tryd.prog 35 (.pv (.lst n cs)) K = K (.pv (.int .i64 n)) := len_lst (by rw [el35]; rfl)
@[go_sem] theorem lng35 : lenD Go.Proofs.Tryd.prog 35 (.grow id n cs) K = K (.pv (.int .i64 n)) := len_grow (by rw [el35]; rfl)
@[go_sem] theorem lnf35 : lenD Go.Proofs.Tryd.prog 35 (.full n cs) K = K (.pv (.int .i64 n)) := len_full (by rw [el35]; rfl)
@[go_sem] theorem lnm35 : lenD Go.Proofs.Tryd.prog 35 (.msl id off n size) K = K (.pv (.int .i64 n)) := len_msl (by rw [el35]; rfl)
@[go_sem] theorem lnn35 : lenD Go.Proofs.Tryd.prog 35 .nilS K = K (.pv (.int .i64 0)) := len_nil (by rw [el35]; rfl)
theorem lnv35 {v : AV} (h : toPV v = some (.lst n cs)) : lenD Go.Proofs.Tryd.prog 35 v K = K (.pv (.int .i64 n)) := len_of (by rw [el35]; rfl) h
theorem ixm35 (h : i < n) : indexAddrD Go.Proofs.Tryd.prog 35 (.msl id off n size) (.pv (.int k i)) K = K (.addr id (off + i * 3)) := by
  rw [ix_msl (by rw [el35]; rfl)]; simp only [el35, Option.getD_some, iS39, sz39, Int.toNat_natCast, true_and]; simp [h]
theorem ixl35 (h : i < n) (hl : cs.length = n * 3) : indexAddrD Go.Proofs.Tryd.prog 35 (.pv (.lst n cs)) (.pv (.int k i)) K = K (.elemP cs (i * 3)) := by
  rw [ix_lst (by rw [el35]; rfl)]; simp only [el35, Option.getD_some, iS39, sz39, Int.toNat_natCast, true_and]; simp [h, hl]
theorem ixv35 {v : AV} (hv : toPV v = some (.lst n cs)) (h : i < n) (hl : cs.length = n * 3) (hK : K (.elemP cs (i * 3))) : indexAddrD Go.Proofs.Tryd.prog 35 v (.pv (.int k i)) K := by
  refine ix_of (by rw [el35]; rfl) hv (by rw [el35]; exact iS39) (by rw [el35, Option.getD_some, sz39, hl]; exact Nat.le_refl _) (by rw [el35, Option.getD_some, sz39]; decide) (by omega) (by omega) ?_
  rw [el35, Option.getD_some, sz39, Int.toNat_natCast]; exact hK
@[go_sem] theorem ld36 : loadD Go.Proofs.Tryd.prog σ 36 (.addr id off) K = ldM (σ id) off K := ldA hT36 ag36
@[go_sem] theorem le36 : loadD Go.Proofs.Tryd.prog σ 36 (.elemP cs off) K = (∃ v, cs[off]? = some v ∧ K (.pv v)) := load_elem hT36 ag36
@[go_sem] theorem stp36 : storeD Go.Proofs.Tryd.prog σ 36 (.addr id off) (.pv p) KS = stM σ id (σ id) off (.pv p) KS := stA hT36 sz36 rfl rfl
@[go_sem] theorem ld37 : loadD Go.Proofs.Tryd.prog σ 37 (.addr id off) K = ldM (σ id) off K := ldA hT37 ag37
@[go_sem] theorem le37 : loadD Go.Proofs.Tryd.prog σ 37 (.elemP cs off) K = (∃ v, cs[off]? = some v ∧ K (.pv v)) := load_elem hT37 ag37
@[go_sem] theorem stp37 : storeD Go.Proofs.Tryd.prog σ 37 (.addr id off) (.pv p) KS = stM σ id (σ id) off (.pv p) KS := stA hT37 sz37 rfl rfl
@[go_sem] theorem fa38_0 : fieldAddrD Go.Proofs.Tryd.prog 38 (.addr id off) 0 K = K (.addr id (off + 0)) := by
  rw [fa_addr (by rw [fo38_0]; rfl)]; simp only [fo38_0, Option.getD_some, hT9, sz9, true_and]; simp
@[go_sem] theorem fe38_0 : fieldAddrD Go.Proofs.Tryd.prog 38 (.elemP cs off) 0 K = K (.elemP cs (off + 0)) := by
  rw [fa_elem (by rw [fo38_0]; rfl)]; simp only [fo38_0, Option.getD_some, hT9, sz9, true_and]; simp
@[go_sem] theorem fa38_1 : fieldAddrD Go.Proofs.Tryd.prog 38 (.addr id off) 1 K = K (.addr id (off + 1)) := by
  rw [fa_addr (by rw [fo38_1]; rfl)]; simp only [fo38_1, Option.getD_some, hT9, sz9, true_and]; simp
@[go_sem] theorem fe38_1 : fieldAddrD Go.Proofs.Tryd.prog 38 (.elemP cs off) 1 K = K (.elemP cs (off + 1)) := by
  rw [fa_elem (by rw [fo38_1]; rfl)]; simp only [fo38_1, Option.getD_some, hT9, sz9, true_and]; simp
@[go_sem] theorem fa38_2 : fieldAddrD Go.Proofs.Tryd.prog 38 (.addr id off) 2 K = K (.addr id (off + 2)) := by
  rw [fa_addr (by rw [fo38_2]; rfl)]; simp only [fo38_2, Option.getD_some, hT35, sz35, true_and]; simp
@[go_sem] theorem fe38_2 : fieldAddrD Go.Proofs.Tryd.prog 38 (.elemP cs off) 2 K = K (.elemP cs (off + 2)) := by
  rw [fa_elem (by rw [fo38_2]; rfl)]; simp only [fo38_2, Option.getD_some, hT35, sz35, true_and]; simp
@[go_sem] theorem fa39_0 : fieldAddrD Go.Proofs.Tryd.prog 39 (.addr id off) 0 K = K (.addr id (off + 0)) := by
  rw [fa_addr (by rw [fo39_0]; rfl)]; simp only [fo39_0, Option.getD_some, hT9, sz9, true_and]; simp
@[go_sem] theorem fe39_0 : fieldAddrD Go.Proofs.Tryd.prog 39 (.elemP cs off) 0 K = K (.elemP cs (off + 0)) := by
  rw [fa_elem (by rw [fo39_0]; rfl)]; simp only [fo39_0, Option.getD_some, hT9, sz9, true_and]; simp
@[go_sem] theorem fa39_1 : fieldAddrD Go.Proofs.Tryd.prog 39 (.addr id off) 1 K = K (.addr id (off + 1)) := by
  rw [fa_addr (by rw [fo39_1]; rfl)]; simp only [fo39_1, Option.getD_some, hT9, sz9, true_and]; simp
@[go_sem] theorem fe39_1 : fieldAddrD Go.Proofs.Tryd.prog 39 (.elemP cs off) 1 K = K (.elemP cs (off + 1)) := by
  rw [fa_elem (by rw [fo39_1]; rfl)]; simp only [fo39_1, Option.getD_some, hT9, sz9, true_and]; simp
@[go_sem] theorem fa39_2 : fieldAddrD Go.Proofs.Tryd.prog 39 (.addr id off) 2 K = K (.addr id (off + 2)) := by
  rw [fa_addr (by rw [fo39_2]; rfl)]; simp only [fo39_2, Option.getD_some, hT35, sz35, true_and]; simp
@[go_sem] theorem fe39_2 : fieldAddrD Go.Proofs.Tryd.prog 39 (.elemP cs off) 2 K = K (.elemP cs (off + 2)) := by
  rw [fa_elem (by rw [fo39_2]; rfl)]; simp only [fo39_2, Option.getD_some, hT35, sz35, true_and]; simp
@[go_sem] theorem ld40 : loadD Go.Proofs.Tryd.prog σ 40 (.addr id off) K = ldM (σ id) off K := ldA hT40 ag40
@[go_sem] theorem le40 : loadD Go.Proofs.Tryd.prog σ 40 (.elemP cs off) K = (∃ v, cs[off]? = some v ∧ K (.pv v)) := load_elem hT40 ag40
@[go_sem] theorem stp40 : storeD Go.Proofs.Tryd.prog σ 40 (.addr id off) (.pv p) KS = stM σ id (σ id) off (.pv p) KS := stA hT40 sz40 rfl rfl
@[go_sem] theorem ld41 : loadD Go.Proofs.Tryd.prog σ 41 (.addr id off) K = ldM (σ id) off K := ldA hT41 ag41
@[go_sem] theorem le41 : loadD Go.Proofs.Tryd.prog σ 41 (.elemP cs off) K = (∃ v, cs[off]? = some v ∧ K (.pv v)) := load_elem hT41 ag41
@[go_sem] theorem stp41 : storeD Go.Proofs.Tryd.prog σ 41 (.addr id off) (.pv p) KS = stM σ id (σ id) off (.pv p) KS := stA hT41 sz41 rfl rfl
@[go_sem] theorem ld42 : loadD Go.Proofs.Tryd.prog σ 42 (.addr id off) K = ldM (σ id) off K := ldA hT42 ag42
@[go_sem] theorem le42 : loadD Go.Proofs.Tryd.prog σ 42 (.elemP cs off) K = (∃ v, cs[off]? = some v ∧ K (.pv v)) := load_elem hT42 ag42
@[go_sem] theorem stp42 : storeD Go.Proofs.Tryd.prog σ 42 (.addr id off) (.pv p) KS = stM σ id (σ id) off (.pv p) KS := stA hT42 sz42 rfl rfl
@[go_sem] theorem ld43 : loadD Go.Proofs.Tryd.prog σ 43 (.addr id off) K = ldM (σ id) off K := ldA hT43 ag43
@[go_sem] theorem le43 : loadD Go.Proofs.Tryd.prog σ 43 (.elemP cs off) K = (∃ v, cs[off]? = some v ∧ K (.pv v)) := load_elem hT43 ag43
@[go_sem] theorem stp43 : storeD Go.Proofs.Tryd.prog σ 43 (.addr id off) (.pv p) KS = stM σ id (σ id) off (.pv p) KS := stA hT43 sz43 rfl rfl
@[go_sem] theorem ld44 : loadD Go.Proofs.Tryd.prog σ 44 (.addr id off) K = ldM (σ id) off K := ldA hT44 ag44
@[go_sem] theorem le44 : loadD Go.Proofs.Tryd.prog σ 44 (.elemP cs off) K = (∃ v, cs[off]? = some v ∧ K (.pv v)) := load_elem hT44 ag44
@[go_sem] theorem stp44 : storeD Go.Proofs.Tryd.prog σ 44 (.addr id off) (.pv p) KS = stM σ id (σ id) off (.pv p) KS := stA hT44 sz44 rfl rfl
@[go_sem] theorem ld45 : loadD Go.Proofs.Tryd.prog σ 45 (.addr id off) K = ldM (σ id) off K := ldA hT45 ag45
@[go_sem] theorem le45 : loadD Go.Proofs.Tryd.prog σ 45 (.elemP cs off) K = (∃ v, cs[off]? = some v ∧ K (.pv v)) := load_elem hT45 ag45
@[go_sem] theorem stp45 : storeD Go.Proofs.Tryd.prog σ 45 (.addr id off) (.pv p) KS = stM σ id (σ id) off (.pv p) KS := stA hT45 sz45 rfl rfl
@[go_sem] theorem ld46 : loadD Go.Proofs.Tryd.prog σ 46 (.addr id off) K = ldM (σ id) off K := ldA hT46 ag46
@[go_sem] theorem le46 : loadD Go.Proofs.Tryd.prog σ 46 (.elemP cs off) K = (∃ v, cs[off]? = some v ∧ K (.pv v)) := load_elem hT46 ag46
@[go_sem] theorem stp46 : storeD Go.Proofs.Tryd.prog σ 46 (.addr id off) (.pv p) KS = stM σ id (σ id) off (.pv p) KS := stA hT46 sz46 rfl rfl
@[go_sem] theorem ld47 : loadD Go.Proofs.Tryd.prog σ 47 (.addr id off) K = ldM (σ id) off K := ldA hT47 ag47
@[go_sem] theorem le47 : loadD Go.Proofs.Tryd.prog σ 47 (.elemP cs off) K = (∃ v, cs[off]? = some v ∧ K (.pv v)) := load_elem hT47 ag47
@[go_sem] theorem stp47 : storeD Go.Proofs.Tryd.prog σ 47 (.addr id off) (.pv p) KS = stM σ id (σ id) off (.pv p) KS := stA hT47 sz47 rfl rfl
theorem stv47 {v : AV} (hv : v.cells = [v]) (h2 : v.cellOk = true) : storeD Go.Proofs.Tryd.prog σ 47 (.addr id off) v KS = stM σ id (σ id) off v KS := stA hT47 sz47 hv h2
@[go_sem] theorem lnl47 : lenD Go.Proofs.Tryd.prog 47 (.pv (.lst n cs)) K = K (.pv (.int .i64 n)) := len_lst (by rw [el47]; rfl)
@[go_sem] theorem lng47 : lenD Go.Proofs.Tryd.prog 47 (.grow id n cs) K = K (.pv (.int .i64 n)) := len_grow (by rw [el47]; rfl)
@[go_sem] theorem lnf47 : lenD Go.Proofs.Tryd.prog 47 (.full n cs) K = K (.pv (.int .i64 n)) := len_full (by rw [el47]; rfl)
@[go_sem] theorem lnm47 : lenD Go.Proofs.Tryd.prog 47 (.msl id off n size) K = K (.pv (.int .i64 n)) := len_msl (by rw [el47]; rfl)
@[go_sem] theorem lnn47 : lenD Go.Proofs.Tryd.prog 47 .nilS K = K (.pv (.int .i64 0)) := len_nil (by rw [el47]; rfl)
theorem lnv47 {v : AV} (h : toPV v = some (.lst n cs)) : lenD Go.Proofs.Tryd.prog 47 v K = K (.pv (.int .i64 n)) := len_of (by rw [el47]; rfl) h
theorem ixm47 (h : i < n) : indexAddrD Go.Proofs.Tryd.prog 47 (.msl id off n size) (.pv (.int k i)) K = K (.addr id (off + i * 2)) := by
  rw [ix_msl (by rw [el47]; rfl)]; simp only [el47, Option.getD_some, iS52, sz52, Int.toNat_natCast, true_and]; simp [h]
theorem ixl47 (h : i < n) (hl : cs.length = n * 2) : indexAddrD Go.Proofs.Tryd.prog 47 (.pv (.lst n cs)) (.pv (.int k i)) K = K (.elemP cs (i * 2)) := by
  rw [ix_lst (by rw [el47]; rfl)]; simp only [el47, Option.getD_some, iS52, sz52, Int.toNat_natCast, true_and]; simp [h, hl]
theorem ixv47 {v : AV} (hv : toPV v = some (.lst n cs)) (h : i < n) (hl : cs.length = n * 2) (hK : K (.elemP cs (i * 2))) : indexAddrD Go.Proofs.Tryd.prog 47 v (.pv (.int k i)) K := by
  refine ix_of (by rw [el47]; rfl) hv (by rw [el47]; exact iS52) (by rw [el47, Option.getD_some, sz52, hl]; exact Nat.le_refl _) (by rw [el47, Option.getD_some, sz52]; decide) (by omega) (by omega) ?_
  rw [el47, Option.getD_some, sz52, Int.toNat_natCast]; exact hK
@[go_sem] theorem ld48 : loadD Go.Proofs.Tryd.prog σ 48 (.addr id off) K = ldM (σ id) off K := ldA hT48 ag48
@[go_sem] theorem le48 : loadD Go.Proofs.Tryd.prog σ 48 (.elemP cs off) K = (∃ v, cs[off]? = some v ∧ K (.pv v)) := load_elem hT48 ag48
@[go_sem] theorem stp48 : storeD Go.Proofs.Tryd.prog σ 48 (.addr id off) (.pv p) KS = stM σ id (σ id) off (.pv p) KS := stA hT48 sz48 rfl rfl
@[go_sem] theorem ld49 : loadD Go.Proofs.Tryd.prog σ 49 (.addr id off) K = ldM (σ id) off K := ldA hT49 ag49
@[go_sem] theorem le49 : loadD Go.Proofs.Tryd.prog σ 49 (.elemP cs off) K = (∃ v, cs[off]? = some v ∧ K (.pv v)) := load_elem hT49 ag49
@[go_sem] theorem stp49 : storeD Go.Proofs.Tryd.prog σ 49 (.addr id off) (.pv p) KS = stM σ id (σ id) off (.pv p) KS := stA hT49 sz49 rfl rfl
@[go_sem] theorem ld50 : loadD Go.Proofs.Tryd.prog σ 50 (.addr id off) K = ldM (σ id) off K := ldA hT50 ag50
@[go_sem] theorem le50 : loadD Go.Proofs.Tryd.prog σ 50 (.elemP cs off) K = (∃ v, cs[off]? = some v ∧ K (.pv v)) := load_elem hT50 ag50
@[go_sem] theorem stp50 : storeD Go.Proofs.Tryd.prog σ 50 (.addr id off) (.pv p) KS = stM σ id (σ id) off (.pv p) KS := stA hT50 sz50 rfl rfl
@[go_sem] theorem fa51_0 : fieldAddrD Go.Proofs.Tryd.prog 51 (.addr id off) 0 K = K (.addr id (off + 0)) := by
  rw [fa_addr (by rw [fo51_0]; rfl)]; simp only [fo51_0, Option.getD_some, hT9, sz9, true_and]; simp
@[go_sem] theorem fe51_0 : fieldAddrD Go.Proofs.Tryd.prog 51 (.elemP cs off) 0 K = K (.elemP cs (off + 0)) := by
  rw [fa_elem (by rw [fo51_0]; rfl)]; simp only [fo51_0, Option.getD_some, hT9, sz9, true_and]; simp
@[go_sem] theorem fa51_1 : fieldAddrD Go.Proofs.Tryd.prog 51 (.addr id off) 1 K = K (.addr id (off + 1)) := by
  rw [fa_addr (by rw [fo51_1]; rfl)]; simp only [fo51_1, Option.getD_some, hT9, sz9, true_and]; simp
@[go_sem] theorem fe51_1 : fieldAddrD Go.Proofs.Tryd.prog 51 (.elemP cs off) 1 K = K (.elemP cs (off + 1)) := by
  rw [fa_elem (by rw [fo51_1]; rfl)]; simp only [fo51_1, Option.getD_some, hT9, sz9, true_and]; simp
@[go_sem] theorem fa52_0 : fieldAddrD Go.Proofs.Tryd.prog 52 (.addr id off) 0 K = K (.addr id (off + 0)) := by
  rw [fa_addr (by rw [fo52_0]; rfl)]; simp only [fo52_0, Option.getD_some, hT9, sz9, true_and]; simp
@[go_sem] theorem fe52_0 : fieldAddrD Go.Proofs.Tryd.prog 52 (.elemP cs off) 0 K = K (.elemP cs (off + 0)) := by
  rw [fa_elem (by rw [fo52_0]; rfl)]; simp only [fo52_0, Option.getD_some, hT9, sz9, true_and]; simp
@[go_sem] theorem fa52_1 : fieldAddrD Go.Proofs.Tryd.prog 52 (.addr id off) 1 K = K (.addr id (off + 1)) := by
  rw [fa_addr (by rw [fo52_1]; rfl)]; simp only [fo52_1, Option.getD_some, hT9, sz9, true_and]; simp
@[go_sem] theorem fe52_1 : fieldAddrD Go.Proofs.Tryd.prog 52 (.elemP cs off) 1 K = K (.elemP cs (off + 1)) := by
  rw [fa_elem (by rw [fo52_1]; rfl)]; simp only [fo52_1, Option.getD_some, hT9, sz9, true_and]; simp
@[go_sem] theorem ld55 : loadD Go.Proofs.Tryd.prog σ 55 (.addr id off) K = ldM (σ id) off K := ldA hT55 ag55
@[go_sem] theorem le55 : loadD Go.Proofs.Tryd.prog σ 55 (.elemP cs off) K = (∃ v, cs[off]? = some v ∧ K (.pv v)) := load_elem hT55 ag55
@[go_sem] theorem stp55 : storeD Go.Proofs.Tryd.prog σ 55 (.addr id off) (.pv p) KS = stM σ id (σ id) off (.pv p) KS := stA hT55 sz55 rfl rfl
@[go_sem] theorem ld56 : loadD Go.Proofs.Tryd.prog σ 56 (.addr id off) K = ldM (σ id) off K := ldA hT56 ag56
@[go_sem] theorem le56 : loadD Go.Proofs.Tryd.prog σ 56 (.elemP cs off) K = (∃ v, cs[off]? = some v ∧ K (.pv v)) := load_elem hT56 ag56
@[go_sem] theorem stp56 : storeD Go.Proofs.Tryd.prog σ 56 (.addr id off) (.pv p) KS = stM σ id (σ id) off (.pv p) KS := stA hT56 sz56 rfl rfl
@[go_sem] theorem ld57 : loadD Go.Proofs.Tryd.prog σ 57 (.addr id off) K = ldM (σ id) off K := ldA hT57 ag57
@[go_sem] theorem le57 : loadD Go.Proofs.Tryd.prog σ 57 (.elemP cs off) K = (∃ v, cs[off]? = some v ∧ K (.pv v)) := load_elem hT57 ag57
@[go_sem] theorem stp57 : storeD Go.Proofs.Tryd.prog σ 57 (.addr id off) (.pv p) KS = stM σ id (σ id) off (.pv p) KS := stA hT57 sz57 rfl rfl
@[go_sem] theorem sta57 {j o : Nat} : storeD Go.Proofs.Tryd.prog σ 57 (.addr id off) (.addr j o) KS = stM σ id (σ id) off (.addr j o) KS := stA hT57 sz57 rfl rfl
@[go_sem] theorem fa58_0 : fieldAddrD Go.Proofs.Tryd.prog 58 (.addr id off) 0 K = K (.addr id (off + 0)) := by
  rw [fa_addr (by rw [fo58_0]; rfl)]; simp only [fo58_0, Option.getD_some, hT47, sz47, true_and]; simp
@[go_sem] theorem fe58_0 : fieldAddrD Go.Proofs.Tryd.prog 58 (.elemP cs off) 0 K = K (.elemP cs (off + 0)) := by
  rw [fa_elem (by rw [fo58_0]; rfl)]; simp only [fo58_0, Option.getD_some, hT47, sz47, true_and]; simp
@[go_sem] theorem fa59_0 : fieldAddrD Go.Proofs.Tryd.prog 59 (.addr id off) 0 K = K (.addr id (off + 0)) := by
  rw [fa_addr (by rw [fo59_0]; rfl)]; simp only [fo59_0, Option.getD_some, hT47, sz47, true_and]; simp
@[go_sem] theorem fe59_0 : fieldAddrD Go.Proofs.Tryd.prog 59 (.elemP cs off) 0 K = K (.elemP cs (off + 0)) := by
  rw [fa_elem (by rw [fo59_0]; rfl)]; simp only [fo59_0, Option.getD_some, hT47, sz47, true_and]; simp
@[go_sem] theorem ld60 : loadD Go.Proofs.Tryd.prog σ 60 (.addr id off) K = ldM (σ id) off K := ldA hT60 ag60
@[go_sem] theorem le60 : loadD Go.Proofs.Tryd.prog σ 60 (.elemP cs off) K = (∃ v, cs[off]? = some v ∧ K (.pv v)) := load_elem hT60 ag60
@[go_sem] theorem stp60 : storeD Go.Proofs.Tryd.prog σ 60 (.addr id off) (.pv p) KS = stM σ id (σ id) off (.pv p) KS := stA hT60 sz60 rfl rfl
@[go_sem] theorem ld61 : loadD Go.Proofs.Tryd.prog σ 61 (.addr id off) K = ldM (σ id) off K := ldA hT61 ag61
@[go_sem] theorem le61 : loadD Go.Proofs.Tryd.prog σ 61 (.elemP cs off) K = (∃ v, cs[off]? = some v ∧ K (.pv v)) := load_elem hT61 ag61
@[go_sem] theorem stp61 : storeD Go.Proofs.Tryd.prog σ 61 (.addr id off) (.pv p) KS = stM σ id (σ id) off (.pv p) KS := stA hT61 sz61 rfl rfl
@[go_sem] theorem ld62 : loadD Go.Proofs.Tryd.prog σ 62 (.addr id off) K = ldM (σ id) off K := ldA hT62 ag62
@[go_sem] theorem le62 : loadD Go.Proofs.Tryd.prog σ 62 (.elemP cs off) K = (∃ v, cs[off]? = some v ∧ K (.pv v)) := load_elem hT62 ag62
@[go_sem] theorem stp62 : storeD Go.Proofs.Tryd.prog σ 62 (.addr id off) (.pv p) KS = stM σ id (σ id) off (.pv p) KS := stA hT62 sz62 rfl rfl
@[go_sem] theorem fa63_0 : fieldAddrD Go.Proofs.Tryd.prog 63 (.addr id off) 0 K = K (.addr id (off + 0)) := by
  rw [fa_addr (by rw [fo63_0]; rfl)]; simp only [fo63_0, Option.getD_some, hT4, sz4, true_and]; simp
@[go_sem] theorem fe63_0 : fieldAddrD Go.Proofs.Tryd.prog 63 (.elemP cs off) 0 K = K (.elemP cs (off + 0)) := by
  rw [fa_elem (by rw [fo63_0]; rfl)]; simp only [fo63_0, Option.getD_some, hT4, sz4, true_and]; simp
@[go_sem] theorem fa63_1 : fieldAddrD Go.Proofs.Tryd.prog 63 (.addr id off) 1 K = K (.addr id (off + 1)) := by
  rw [fa_addr (by rw [fo63_1]; rfl)]; simp only [fo63_1, Option.getD_some, hT4, sz4, true_and]; simp
@[go_sem] theorem fe63_1 : fieldAddrD Go.Proofs.Tryd.prog 63 (.elemP cs off) 1 K = K (.elemP cs (off + 1)) := by
  rw [fa_elem (by rw [fo63_1]; rfl)]; simp only [fo63_1, Option.getD_some, hT4, sz4, true_and]; simp
@[go_sem] theorem fa63_2 : fieldAddrD Go.Proofs.Tryd.prog 63 (.addr id off) 2 K = K (.addr id (off + 2)) := by
  rw [fa_addr (by rw [fo63_2]; rfl)]; simp only [fo63_2, Option.getD_some, hT4, sz4, true_and]; simp
@[go_sem] theorem fe63_2 : fieldAddrD Go.Proofs.Tryd.prog 63 (.elemP cs off) 2 K = K (.elemP cs (off + 2)) := by
  rw [fa_elem (by rw [fo63_2]; rfl)]; simp only [fo63_2, Option.getD_some, hT4, sz4, true_and]; simp
@[go_sem] theorem fa64_0 : fieldAddrD Go.Proofs.Tryd.prog 64 (.addr id off) 0 K = K (.addr id (off + 0)) := by
  rw [fa_addr (by rw [fo64_0]; rfl)]; simp only [fo64_0, Option.getD_some, hT4, sz4, true_and]; simp
@[go_sem] theorem fe64_0 : fieldAddrD Go.Proofs.Tryd.prog 64 (.elemP cs off) 0 K = K (.elemP cs (off + 0)) := by
  rw [fa_elem (by rw [fo64_0]; rfl)]; simp only [fo64_0, Option.getD_some, hT4, sz4, true_and]; simp
@[go_sem] theorem fa64_1 : fieldAddrD Go.Proofs.Tryd.prog 64 (.addr id off) 1 K = K (.addr id (off + 1)) := by
  rw [fa_addr (by rw [fo64_1]; rfl)]; simp only [fo64_1, Option.getD_some, hT4, sz4, true_and]; simp
@[go_sem] theorem fe64_1 : fieldAddrD Go.Proofs.Tryd.prog 64 (.elemP cs off) 1 K = K (.elemP cs (off + 1)) := by
  rw [fa_elem (by rw [fo64_1]; rfl)]; simp only [fo64_1, Option.getD_some, hT4, sz4, true_and]; simp
@[go_sem] theorem fa64_2 : fieldAddrD Go.Proofs.Tryd.prog 64 (.addr id off) 2 K = K (.addr id (off + 2)) := by
  rw [fa_addr (by rw [fo64_2]; rfl)]; simp only [fo64_2, Option.getD_some, hT4, sz4, true_and]; simp
@[go_sem] theorem fe64_2 : fieldAddrD Go.Proofs.Tryd.prog 64 (.elemP cs off) 2 K = K (.elemP cs (off + 2)) := by
  rw [fa_elem (by rw [fo64_2]; rfl)]; simp only [fo64_2, Option.getD_some, hT4, sz4, true_and]; simp
@[go_sem] theorem ld65 : loadD Go.Proofs.Tryd.prog σ 65 (.addr id off) K = ldM (σ id) off K := ldA hT65 ag65
@[go_sem] theorem le65 : loadD Go.Proofs.Tryd.prog σ 65 (.elemP cs off) K = (∃ v, cs[off]? = some v ∧ K (.pv v)) := load_elem hT65 ag65
@[go_sem] theorem stp65 : storeD Go.Proofs.Tryd.prog σ 65 (.addr id off) (.pv p) KS = stM σ id (σ id) off (.pv p) KS := stA hT65 sz65 rfl rfl
@[go_sem] theorem ld66 : loadD Go.Proofs.Tryd.prog σ 66 (.addr id off) K = ldM (σ id) off K := ldA hT66 ag66
@[go_sem] theorem le66 : loadD Go.Proofs.Tryd.prog σ 66 (.elemP cs off) K = (∃ v, cs[off]? = some v ∧ K (.pv v)) := load_elem hT66 ag66
@[go_sem] theorem stp66 : storeD Go.Proofs.Tryd.prog σ 66 (.addr id off) (.pv p) KS = stM σ id (σ id) off (.pv p) KS := stA hT66 sz66 rfl rfl
@[go_sem] theorem ld67 : loadD Go.Proofs.Tryd.prog σ 67 (.addr id off) K = ldM (σ id) off K := ldA hT67 ag67
@[go_sem] theorem le67 : loadD Go.Proofs.Tryd.prog σ 67 (.elemP cs off) K = (∃ v, cs[off]? = some v ∧ K (.pv v)) := load_elem hT67 ag67
@[go_sem] theorem stp67 : storeD Go.Proofs.Tryd.prog σ 67 (.addr id off) (.pv p) KS = stM σ id (σ id) off (.pv p) KS := stA hT67 sz67 rfl rfl
@[go_sem] theorem ld68 : loadD Go.Proofs.Tryd.prog σ 68 (.addr id off) K = ldM (σ id) off K := ldA hT68 ag68
@[go_sem] theorem le68 : loadD Go.Proofs.Tryd.prog σ 68 (.elemP cs off) K = (∃ v, cs[off]? = some v ∧ K (.pv v)) := load_elem hT68 ag68
@[go_sem] theorem stp68 : storeD Go.Proofs.Tryd.prog σ 68 (.addr id off) (.pv p) KS = stM σ id (σ id) off (.pv p) KS := stA hT68 sz68 rfl rfl
@[go_sem] theorem ld69 : loadD Go.Proofs.Tryd.prog σ 69 (.addr id off) K = ldM (σ id) off K := ldA hT69 ag69
@[go_sem] theorem le69 : loadD Go.Proofs.Tryd.prog σ 69 (.elemP cs off) K = (∃ v, cs[off]? = some v ∧ K (.pv v)) := load_elem hT69 ag69
@[go_sem] theorem stp69 : storeD Go.Proofs.Tryd.prog σ 69 (.addr id off) (.pv p) KS = stM σ id (σ id) off (.pv p) KS := stA hT69 sz69 rfl rfl
@[go_sem] theorem ld70 : loadD Go.Proofs.Tryd.prog σ 70 (.addr id off) K = ldM (σ id) off K := ldA hT70 ag70
@[go_sem] theorem le70 : loadD Go.Proofs.Tryd.prog σ 70 (.elemP cs off) K = (∃ v, cs[off]? = some v ∧ K (.pv v)) := load_elem hT70 ag70
@[go_sem] theorem stp70 : storeD Go.Proofs.Tryd.prog σ 70 (.addr id off) (.pv p) KS = stM σ id (σ id) off (.pv p) KS := stA hT70 sz70 rfl rfl
@[go_sem] theorem sta70 {j o : Nat} : storeD Go.Proofs.Tryd.prog σ 70 (.addr id off) (.addr j o) KS = stM σ id (σ id) off (.addr j o) KS := stA hT70 sz70 rfl rfl
@[go_sem] theorem fa71_0 : fieldAddrD Go.Proofs.Tryd.prog 71 (.addr id off) 0 K = K (.addr id (off + 0)) := by
  rw [fa_addr (by rw [fo71_0]; rfl)]; simp only [fo71_0, Option.getD_some, hT9, sz9, true_and]; simp
@[go_sem] theorem fe71_0 : fieldAddrD Go.Proofs.Tryd.prog 71 (.elemP cs off) 0 K = K (.elemP cs (off + 0)) := by
  rw [fa_elem (by rw [fo71_0]; rfl)]; simp only [fo71_0, Option.getD_some, hT9, sz9, true_and]; simp
@[go_sem] theorem fa71_1 : fieldAddrD Go.Proofs.Tryd.prog 71 (.addr id off) 1 K = K (.addr id (off + 1)) := by
  rw [fa_addr (by rw [fo71_1]; rfl)]; simp only [fo71_1, Option.getD_some, hT47, sz47, true_and]; simp
@[go_sem] theorem fe71_1 : fieldAddrD Go.Proofs.Tryd.prog 71 (.elemP cs off) 1 K = K (.elemP cs (off + 1)) := by
  rw [fa_elem (by rw [fo71_1]; rfl)]; simp only [fo71_1, Option.getD_some, hT47, sz47, true_and]; simp
@[go_sem] theorem fa72_0 : fieldAddrD Go.Proofs.Tryd.prog 72 (.addr id off) 0 K = K (.addr id (off + 0)) := by
  rw [fa_addr (by rw [fo72_0]; rfl)]; simp only [fo72_0, Option.getD_some, hT9, sz9, true_and]; simp
@[go_sem] theorem fe72_0 : fieldAddrD Go.Proofs.Tryd.prog 72 (.elemP cs off) 0 K = K (.elemP cs (off + 0)) := by
  rw [fa_elem (by rw [fo72_0]; rfl)]; simp only [fo72_0, Option.getD_some, hT9, sz9, true_and]; simp
@[go_sem] theorem fa72_1 : fieldAddrD Go.Proofs.Tryd.prog 72 (.addr id off) 1 K = K (.addr id (off + 1)) := by
  rw [fa_addr (by rw [fo72_1]; rfl)]; simp only [fo72_1, Option.getD_some, hT47, sz47, true_and]; simp
@[go_sem] theorem fe72_1 : fieldAddrD Go.Proofs.Tryd.prog 72 (.elemP cs off) 1 K = K (.elemP cs (off + 1)) := by
  rw [fa_elem (by rw [fo72_1]; rfl)]; simp only [fo72_1, Option.getD_some, hT47, sz47, true_and]; simp
@[go_sem] theorem ld73 : loadD Go.Proofs.Tryd.prog σ 73 (.addr id off) K = ldM (σ id) off K := ldA hT73 ag73
@[go_sem] theorem le73 : loadD Go.Proofs.Tryd.prog σ 73 (.elemP cs off) K = (∃ v, cs[off]? = some v ∧ K (.pv v)) := load_elem hT73 ag73
@[go_sem] theorem stp73 : storeD Go.Proofs.Tryd.prog σ 73 (.addr id off) (.pv p) KS = stM σ id (σ id) off (.pv p) KS := stA hT73 sz73 rfl rfl
@[go_sem] theorem sta73 {j o : Nat} : storeD Go.Proofs.Tryd.prog σ 73 (.addr id off) (.addr j o) KS = stM σ id (σ id) off (.addr j o) KS := stA hT73 sz73 rfl rfl
@[go_sem] theorem fa74_0 : fieldAddrD Go.Proofs.Tryd.prog 74 (.addr id off) 0 K = K (.addr id (off + 0)) := by
  rw [fa_addr (by rw [fo74_0]; rfl)]; simp only [fo74_0, Option.getD_some, hT73, sz73, true_and]; simp
@[go_sem] theorem fe74_0 : fieldAddrD Go.Proofs.Tryd.prog 74 (.elemP cs off) 0 K = K (.elemP cs (off + 0)) := by
  rw [fa_elem (by rw [fo74_0]; rfl)]; simp only [fo74_0, Option.getD_some, hT73, sz73, true_and]; simp
@[go_sem] theorem fa74_1 : fieldAddrD Go.Proofs.Tryd.prog 74 (.addr id off) 1 K = K (.addr id (off + 1)) := by
  rw [fa_addr (by rw [fo74_1]; rfl)]; simp only [fo74_1, Option.getD_some, hT30, sz30, true_and]; simp
@[go_sem] theorem fe74_1 : fieldAddrD Go.Proofs.Tryd.prog 74 (.elemP cs off) 1 K = K (.elemP cs (off + 1)) := by
  rw [fa_elem (by rw [fo74_1]; rfl)]; simp only [fo74_1, Option.getD_some, hT30, sz30, true_and]; simp
@[go_sem] theorem fa75_0 : fieldAddrD Go.Proofs.Tryd.prog 75 (.addr id off) 0 K = K (.addr id (off + 0)) := by
  rw [fa_addr (by rw [fo75_0]; rfl)]; simp only [fo75_0, Option.getD_some, hT73, sz73, true_and]; simp
@[go_sem] theorem fe75_0 : fieldAddrD Go.Proofs.Tryd.prog 75 (.elemP cs off) 0 K = K (.elemP cs (off + 0)) := by
  rw [fa_elem (by rw [fo75_0]; rfl)]; simp only [fo75_0, Option.getD_some, hT73, sz73, true_and]; simp
@[go_sem] theorem fa75_1 : fieldAddrD Go.Proofs.Tryd.prog 75 (.addr id off) 1 K = K (.addr id (off + 1)) := by
  rw [fa_addr (by rw [fo75_1]; rfl)]; simp only [fo75_1, Option.getD_some, hT30, sz30, true_and]; simp
@[go_sem] theorem fe75_1 : fieldAddrD Go.Proofs.Tryd.prog 75 (.elemP cs off) 1 K = K (.elemP cs (off + 1)) := by
  rw [fa_elem (by rw [fo75_1]; rfl)]; simp only [fo75_1, Option.getD_some, hT30, sz30, true_and]; simp
@[go_sem] theorem ld76 : loadD Go.Proofs.Tryd.prog σ 76 (.addr id off) K = ldM (σ id) off K := ldA hT76 ag76
@[go_sem] theorem le76 : loadD Go.Proofs.Tryd.prog σ 76 (.elemP cs off) K = (∃ v, cs[off]? = some v ∧ K (.pv v)) := load_elem hT76 ag76
@[go_sem] theorem stp76 : storeD Go.Proofs.Tryd.prog σ 76 (.addr id off) (.pv p) KS = stM σ id (σ id) off (.pv p) KS := stA hT76 sz76 rfl rfl
@[go_sem] theorem ld77 : loadD Go.Proofs.Tryd.prog σ 77 (.addr id off) K = ldM (σ id) off K := ldA hT77 ag77
@[go_sem] theorem le77 : loadD Go.Proofs.Tryd.prog σ 77 (.elemP cs off) K = (∃ v, cs[off]? = some v ∧ K (.pv v)) := load_elem hT77 ag77
@[go_sem] theorem stp77 : storeD Go.Proofs.Tryd.prog σ 77 (.addr id off) (.pv p) KS = stM σ id (σ id) off (.pv p) KS := stA hT77 sz77 rfl rfl
@[go_sem] theorem ld78 : loadD Go.Proofs.Tryd.prog σ 78 (.addr id off) K = ldM (σ id) off K := ldA hT78 ag78
@[go_sem] theorem le78 : loadD Go.Proofs.Tryd.prog σ 78 (.elemP cs off) K = (∃ v, cs[off]? = some v ∧ K (.pv v)) := load_elem hT78 ag78
@[go_sem] theorem stp78 : storeD Go.Proofs.Tryd.prog σ 78 (.addr id off) (.pv p) KS = stM σ id (σ id) off (.pv p) KS := stA hT78 sz78 rfl rfl
@[go_sem] theorem ld79 : loadD Go.Proofs.Tryd.prog σ 79 (.addr id off) K = ldM (σ id) off K := ldA hT79 ag79
@[go_sem] theorem le79 : loadD Go.Proofs.Tryd.prog σ 79 (.elemP cs off) K = (∃ v, cs[off]? = some v ∧ K (.pv v)) := load_elem hT79 ag79
@[go_sem] theorem stp79 : storeD Go.Proofs.Tryd.prog σ 79 (.addr id off) (.pv p) KS = stM σ id (σ id) off (.pv p) KS := stA hT79 sz79 rfl rfl
@[go_sem] theorem ld80 : loadD Go.Proofs.Tryd.prog σ 80 (.addr id off) K = ldM (σ id) off K := ldA hT80 ag80
@[go_sem] theorem le80 : loadD Go.Proofs.Tryd.prog σ 80 (.elemP cs off) K = (∃ v, cs[off]? = some v ∧ K (.pv v)) := load_elem hT80 ag80
@[go_sem] theorem stp80 : storeD Go.Proofs.Tryd.prog σ 80 (.addr id off) (.pv p) KS = stM σ id (σ id) off (.pv p) KS := stA hT80 sz80 rfl rfl
@[go_sem] theorem ld81 : loadD Go.Proofs.Tryd.prog σ 81 (.addr id off) K = ldM (σ id) off K := ldA hT81 ag81
@[go_sem] theorem le81 : loadD Go.Proofs.Tryd.prog σ 81 (.elemP cs off) K = (∃ v, cs[off]? = some v ∧ K (.pv v)) := load_elem hT81 ag81
@[go_sem] theorem stp81 : storeD Go.Proofs.Tryd.prog σ 81 (.addr id off) (.pv p) KS = stM σ id (σ id) off (.pv p) KS := stA hT81 sz81 rfl rfl
@[go_sem] theorem ld82 : loadD Go.Proofs.Tryd.prog σ 82 (.addr id off) K = ldM (σ id) off K := ldA hT82 ag82
@[go_sem] theorem le82 : loadD Go.Proofs.Tryd.prog σ 82 (.elemP cs off) K = (∃ v, cs[off]? = some v ∧ K (.pv v)) := load_elem hT82 ag82
@[go_sem] theorem stp82 : storeD Go.Proofs.Tryd.prog σ 82 (.addr id off) (.pv p) KS = stM σ id (σ id) off (.pv p) KS := stA hT82 sz82 rfl rfl
@[go_sem] theorem ld83 : loadD Go.Proofs.Tryd.prog σ 83 (.addr id off) K = ldM (σ id) off K := ldA hT83 ag83
@[go_sem] theorem le83 : loadD Go.Proofs.Tryd.prog σ 83 (.elemP cs off) K = (∃ v, cs[off]? = some v ∧ K (.pv v)) := load_elem hT83 ag83
@[go_sem] theorem stp83 : storeD Go.Proofs.Tryd.prog σ 83 (.addr id off) (.pv p) KS = stM σ id (σ id) off (.pv p) KS := stA hT83 sz83 rfl rfl
@[go_sem] theorem ld84 : loadD Go.Proofs.Tryd.prog σ 84 (.addr id off) K = ldM (σ id) off K := ldA hT84 ag84
@[go_sem] theorem le84 : loadD Go.Proofs.Tryd.prog σ 84 (.elemP cs off) K = (∃ v, cs[off]? = some v ∧ K (.pv v)) := load_elem hT84 ag84
@[go_sem] theorem stp84 : storeD Go.Proofs.Tryd.prog σ 84 (.addr id off) (.pv p) KS = stM σ id (σ id) off (.pv p) KS := stA hT84 sz84 rfl rfl
@[go_sem] theorem ld85 : loadD Go.Proofs.Tryd.prog σ 85 (.addr id off) K = ldM (σ id) off K := ldA hT85 ag85
@[go_sem] theorem le85 : loadD Go.Proofs.Tryd.prog σ 85 (.elemP cs off) K = (∃ v, cs[off]? = some v ∧ K (.pv v)) := load_elem hT85 ag85
@[go_sem] theorem stp85 : storeD Go.Proofs.Tryd.prog σ 85 (.addr id off) (.pv p) KS = stM σ id (σ id) off (.pv p) KS := stA hT85 sz85 rfl rfl
@[go_sem] theorem ld86 : loadD Go.Proofs.Tryd.prog σ 86 (.addr id off) K = ldM (σ id) off K := ldA hT86 ag86
@[go_sem] theorem le86 : loadD Go.Proofs.Tryd.prog σ 86 (.elemP cs off) K = (∃ v, cs[off]? = some v ∧ K (.pv v)) := load_elem hT86 ag86
@[go_sem] theorem stp86 : storeD Go.Proofs.Tryd.prog σ 86 (.addr id off) (.pv p) KS = stM σ id (σ id) off (.pv p) KS := stA hT86 sz86 rfl rfl
@[go_sem] theorem ld87 : loadD Go.Proofs.Tryd.prog σ 87 (.addr id off) K = ldM (σ id) off K := ldA hT87 ag87
@[go_sem] theorem le87 : loadD Go.Proofs.Tryd.prog σ 87 (.elemP cs off) K = (∃ v, cs[off]? = some v ∧ K (.pv v)) := load_elem hT87 ag87
@[go_sem] theorem stp87 : storeD Go.Proofs.Tryd.prog σ 87 (.addr id off) (.pv p) KS = stM σ id (σ id) off (.pv p) KS := stA hT87 sz87 rfl rfl
@[go_sem] theorem ld88 : loadD Go.Proofs.Tryd.prog σ 88 (.addr id off) K = ldM (σ id) off K := ldA hT88 ag88
@[go_sem] theorem le88 : loadD Go.Proofs.Tryd.prog σ 88 (.elemP cs off) K = (∃ v, cs[off]? = some v ∧ K (.pv v)) := load_elem hT88 ag88
@[go_sem] theorem stp88 : storeD Go.Proofs.Tryd.prog σ 88 (.addr id off) (.pv p) KS = stM σ id (σ id) off (.pv p) KS := stA hT88 sz88 rfl rfl
@[go_sem] theorem ld89 : loadD Go.Proofs.Tryd.prog σ 89 (.addr id off) K = ldM (σ id) off K := ldA hT89 ag89
@[go_sem] theorem le89 : loadD Go.Proofs.Tryd.prog σ 89 (.elemP cs off) K = (∃ v, cs[off]? = some v ∧ K (.pv v)) := load_elem hT89 ag89
@[go_sem] theorem stp89 : storeD Go.Proofs.Tryd.prog σ 89 (.addr id off) (.pv p) KS = stM σ id (σ id) off (.pv p) KS := stA hT89 sz89 rfl rfl
@[go_sem] theorem ld90 : loadD Go.Proofs.Tryd.prog σ 90 (.addr id off) K = ldM (σ id) off K := ldA hT90 ag90
@[go_sem] theorem le90 : loadD Go.Proofs.Tryd.prog σ 90 (.elemP cs off) K = (∃ v, cs[off]? = some v ∧ K (.pv v)) := load_elem hT90 ag90
@[go_sem] theorem stp90 : storeD Go.Proofs.Tryd.prog σ 90 (.addr id off) (.pv p) KS = stM σ id (σ id) off (.pv p) KS := stA hT90 sz90 rfl rfl
@[go_sem] theorem ld91 : loadD Go.Proofs.Tryd.prog σ 91 (.addr id off) K = ldM (σ id) off K := ldA hT91 ag91
@[go_sem] theorem le91 : loadD Go.Proofs.Tryd.prog σ 91 (.elemP cs off) K = (∃ v, cs[off]? = some v ∧ K (.pv v)) := load_elem hT91 ag91
@[go_sem] theorem stp91 : storeD Go.Proofs.Tryd.prog σ 91 (.addr id off) (.pv p) KS = stM σ id (σ id) off (.pv p) KS := stA hT91 sz91 rfl rfl
@[go_sem] theorem ld92 : loadD Go.Proofs.Tryd.prog σ 92 (.addr id off) K = ldM (σ id) off K := ldA hT92 ag92
@[go_sem] theorem le92 : loadD Go.Proofs.Tryd.prog σ 92 (.elemP cs off) K = (∃ v, cs[off]? = some v ∧ K (.pv v)) := load_elem hT92 ag92
@[go_sem] theorem stp92 : storeD Go.Proofs.Tryd.prog σ 92 (.addr id off) (.pv p) KS = stM σ id (σ id) off (.pv p) KS := stA hT92 sz92 rfl rfl
@[go_sem] theorem ld93 : loadD Go.Proofs.Tryd.prog σ 93 (.addr id off) K = ldM (σ id) off K := ldA hT93 ag93
@[go_sem] theorem le93 : loadD Go.Proofs.Tryd.prog σ 93 (.elemP cs off) K = (∃ v, cs[off]? = some v ∧ K (.pv v)) := load_elem hT93 ag93
@[go_sem] theorem stp93 : storeD Go.Proofs.Tryd.prog σ 93 (.addr id off) (.pv p) KS = stM σ id (σ id) off (.pv p) KS := stA hT93 sz93 rfl rfl
@[go_sem] theorem ld94 : loadD Go.Proofs.Tryd.prog σ 94 (.addr id off) K = ldM (σ id) off K := ldA hT94 ag94
@[go_sem] theorem le94 : loadD Go.Proofs.Tryd.prog σ 94 (.elemP cs off) K = (∃ v, cs[off]? = some v ∧ K (.pv v)) := load_elem hT94 ag94
@[go_sem] theorem stp94 : storeD Go.Proofs.Tryd.prog σ 94 (.addr id off) (.pv p) KS = stM σ id (σ id) off (.pv p) KS := stA hT94 sz94 rfl rfl
@[go_sem] theorem ld95 : loadD Go.Proofs.Tryd.prog σ 95 (.addr id off) K = ldM (σ id) off K := ldA hT95 ag95
@[go_sem] theorem le95 : loadD Go.Proofs.Tryd.prog σ 95 (.elemP cs off) K = (∃ v, cs[off]? = some v ∧ K (.pv v)) := load_elem hT95 ag95
@[go_sem] theorem stp95 : storeD Go.Proofs.Tryd.prog σ 95 (.addr id off) (.pv p) KS = stM σ id (σ id) off (.pv p) KS := stA hT95 sz95 rfl rfl
@[go_sem] theorem ld98 : loadD Go.Proofs.Tryd.prog σ 98 (.addr id off) K = ldM (σ id) off K := ldA hT98 ag98
@[go_sem] theorem le98 : loadD Go.Proofs.Tryd.prog σ 98 (.elemP cs off) K = (∃ v, cs[off]? = some v ∧ K (.pv v)) := load_elem hT98 ag98
@[go_sem] theorem stp98 : storeD Go.Proofs.Tryd.prog σ 98 (.addr id off) (.pv p) KS = stM σ id (σ id) off (.pv p) KS := stA hT98 sz98 rfl rfl
@[go_sem] theorem ld99 : loadD Go.Proofs.Tryd.prog σ 99 (.addr id off) K = ldM (σ id) off K := ldA hT99 ag99
@[go_sem] theorem le99 : loadD Go.Proofs.Tryd.prog σ 99 (.elemP cs off) K = (∃ v, cs[off]? = some v ∧ K (.pv v)) := load_elem hT99 ag99
@[go_sem] theorem stp99 : storeD Go.Proofs.Tryd.prog σ 99 (.addr id off) (.pv p) KS = stM σ id (σ id) off (.pv p) KS := stA hT99 sz99 rfl rfl
@[go_sem] theorem ld100 : loadD Go.Proofs.Tryd.prog σ 100 (.addr id off) K = ldM (σ id) off K := ldA hT100 ag100
@[go_sem] theorem le100 : loadD Go.Proofs.Tryd.prog σ 100 (.elemP cs off) K = (∃ v, cs[off]? = some v ∧ K (.pv v)) := load_elem hT100 ag100
@[go_sem] theorem stp100 : storeD Go.Proofs.Tryd.prog σ 100 (.addr id off) (.pv p) KS = stM σ id (σ id) off (.pv p) KS := stA hT100 sz100 rfl rfl
@[go_sem] theorem ld101 : loadD Go.Proofs.Tryd.prog σ 101 (.addr id off) K = ldM (σ id) off K := ldA hT101 ag101
@[go_sem] theorem le101 : loadD Go.Proofs.Tryd.prog σ 101 (.elemP cs off) K = (∃ v, cs[off]? = some v ∧ K (.pv v)) := load_elem hT101 ag101
@[go_sem] theorem stp101 : storeD Go.Proofs.Tryd.prog σ 101 (.addr id off) (.pv p) KS = stM σ id (σ id) off (.pv p) KS := stA hT101 sz101 rfl rfl
@[go_sem] theorem sta101 {j o : Nat} : storeD Go.Proofs.Tryd.prog σ 101 (.addr id off) (.addr j o) KS = stM σ id (σ id) off (.addr j o) KS := stA hT101 sz101 rfl rfl
@[go_sem] theorem ld102 : loadD Go.Proofs.Tryd.prog σ 102 (.addr id off) K = ldM (σ id) off K := ldA hT102 ag102
@[go_sem] theorem le102 : loadD Go.Proofs.Tryd.prog σ 102 (.elemP cs off) K = (∃ v, cs[off]? = some v ∧ K (.pv v)) := load_elem hT102 ag102
@[go_sem] theorem stp102 : storeD Go.Proofs.Tryd.prog σ 102 (.addr id off) (.pv p) KS = stM σ id (σ id) off (.pv p) KS := stA hT102 sz102 rfl rfl
@[go_sem] theorem ld103 : loadD Go.Proofs.Tryd.prog σ 103 (.addr id off) K = ldM (σ id) off K := ldA hT103 ag103
@[go_sem] theorem le103 : loadD Go.Proofs.Tryd.prog σ 103 (.elemP cs off) K = (∃ v, cs[off]? = some v ∧ K (.pv v)) := load_elem hT103 ag103
@[go_sem] theorem stp103 : storeD Go.Proofs.Tryd.prog σ 103 (.addr id off) (.pv p) KS = stM σ id (σ id) off (.pv p) KS := stA hT103 sz103 rfl rfl
@[go_sem] theorem ld104 : loadD Go.Proofs.Tryd.prog σ 104 (.addr id off) K = ldM (σ id) off K := ldA hT104 ag104
@[go_sem] theorem le104 : loadD Go.Proofs.Tryd.prog σ 104 (.elemP cs off) K = (∃ v, cs[off]? = some v ∧ K (.pv v)) := load_elem hT104 ag104
@[go_sem] theorem stp104 : storeD Go.Proofs.Tryd.prog σ 104 (.addr id off) (.pv p) KS = stM σ id (σ id) off (.pv p) KS := stA hT104 sz104 rfl rfl
@[go_sem] theorem ld105 : loadD Go.Proofs.Tryd.prog σ 105 (.addr id off) K = ldM (σ id) off K := ldA hT105 ag105
@[go_sem] theorem le105 : loadD Go.Proofs.Tryd.prog σ 105 (.elemP cs off) K = (∃ v, cs[off]? = some v ∧ K (.pv v)) := load_elem hT105 ag105
@[go_sem] theorem stp105 : storeD Go.Proofs.Tryd.prog σ 105 (.addr id off) (.pv p) KS = stM σ id (σ id) off (.pv p) KS := stA hT105 sz105 rfl rfl
@[go_sem] theorem ld106 : loadD Go.Proofs.Tryd.prog σ 106 (.addr id off) K = ldM (σ id) off K := ldA hT106 ag106
@[go_sem] theorem le106 : loadD Go.Proofs.Tryd.prog σ 106 (.elemP cs off) K = (∃ v, cs[off]? = some v ∧ K (.pv v)) := load_elem hT106 ag106
@[go_sem] theorem stp106 : storeD Go.Proofs.Tryd.prog σ 106 (.addr id off) (.pv p) KS = stM σ id (σ id) off (.pv p) KS := stA hT106 sz106 rfl rfl
@[go_sem] theorem ld107 : loadD Go.Proofs.Tryd.prog σ 107 (.addr id off) K = ldM (σ id) off K := ldA hT107 ag107
@[go_sem] theorem le107 : loadD Go.Proofs.Tryd.prog σ 107 (.elemP cs off) K = (∃ v, cs[off]? = some v ∧ K (.pv v)) := load_elem hT107 ag107
@[go_sem] theorem stp107 : storeD Go.Proofs.Tryd.prog σ 107 (.addr id off) (.pv p) KS = stM σ id (σ id) off (.pv p) KS := stA hT107 sz107 rfl rfl
@[go_sem] theorem sta107 {j o : Nat} : storeD Go.Proofs.Tryd.prog σ 107 (.addr id off) (.addr j o) KS = stM σ id (σ id) off (.addr j o) KS := stA hT107 sz107 rfl rfl
@[go_sem] theorem ld108 : loadD Go.Proofs.Tryd.prog σ 108 (.addr id off) K = ldM (σ id) off K := ldA hT108 ag108
@[go_sem] theorem le108 : loadD Go.Proofs.Tryd.prog σ 108 (.elemP cs off) K = (∃ v, cs[off]? = some v ∧ K (.pv v)) := load_elem hT108 ag108
@[go_sem] theorem stp108 : storeD Go.Proofs.Tryd.prog σ 108 (.addr id off) (.pv p) KS = stM σ id (σ id) off (.pv p) KS := stA hT108 sz108 rfl rfl
@[go_sem] theorem ld109 : loadD Go.Proofs.Tryd.prog σ 109 (.addr id off) K = ldM (σ id) off K := ldA hT109 ag109
@[go_sem] theorem le109 : loadD Go.Proofs.Tryd.prog σ 109 (.elemP cs off) K = (∃ v, cs[off]? = some v ∧ K (.pv v)) := load_elem hT109 ag109
@[go_sem] theorem stp109 : storeD Go.Proofs.Tryd.prog σ 109 (.addr id off) (.pv p) KS = stM σ id (σ id) off (.pv p) KS := stA hT109 sz109 rfl rfl
@[go_sem] theorem ld110 : loadD Go.Proofs.Tryd.prog σ 110 (.addr id off) K = ldM (σ id) off K := ldA hT110 ag110
@[go_sem] theorem le110 : loadD Go.Proofs.Tryd.prog σ 110 (.elemP cs off) K = (∃ v, cs[off]? = some v ∧ K (.pv v)) := load_elem hT110 ag110
@[go_sem] theorem stp110 : storeD Go.Proofs.Tryd.prog σ 110 (.addr id off) (.pv p) KS = stM σ id (σ id) off (.pv p) KS := stA hT110 sz110 rfl rfl
@[go_sem] theorem ld111 : loadD Go.Proofs.Tryd.prog σ 111 (.addr id off) K = ldM (σ id) off K := ldA hT111 ag111
@[go_sem] theorem le111 : loadD Go.Proofs.Tryd.prog σ 111 (.elemP cs off) K = (∃ v, cs[off]? = some v ∧ K (.pv v)) := load_elem hT111 ag111
@[go_sem] theorem stp111 : storeD Go.Proofs.Tryd.prog σ 111 (.addr id off) (.pv p) KS = stM σ id (σ id) off (.pv p) KS := stA hT111 sz111 rfl rfl
@[go_sem] theorem ld112 : loadD Go.Proofs.Tryd.prog σ 112 (.addr id off) K = ldM (σ id) off K := ldA hT112 ag112
@[go_sem] theorem le112 : loadD Go.Proofs.Tryd.prog σ 112 (.elemP cs off) K = (∃ v, cs[off]? = some v ∧ K (.pv v)) := load_elem hT112 ag112
@[go_sem] theorem stp112 : storeD Go.Proofs.Tryd.prog σ 112 (.addr id off) (.pv p) KS = stM σ id (σ id) off (.pv p) KS := stA hT112 sz112 rfl rfl
@[go_sem] theorem ld113 : loadD Go.Proofs.Tryd.prog σ 113 (.addr id off) K = ldM (σ id) off K := ldA hT113 ag113
@[go_sem] theorem le113 : loadD Go.Proofs.Tryd.prog σ 113 (.elemP cs off) K = (∃ v, cs[off]? = some v ∧ K (.pv v)) := load_elem hT113 ag113
@[go_sem] theorem stp113 : storeD Go.Proofs.Tryd.prog σ 113 (.addr id off) (.pv p) KS = stM σ id (σ id) off (.pv p) KS := stA hT113 sz113 rfl rfl
@[go_sem] theorem ld114 : loadD Go.Proofs.Tryd.prog σ 114 (.addr id off) K = ldM (σ id) off K := ldA hT114 ag114
@[go_sem] theorem le114 : loadD Go.Proofs.Tryd.prog σ 114 (.elemP cs off) K = (∃ v, cs[off]? = some v ∧ K (.pv v)) := load_elem hT114 ag114
@[go_sem] theorem stp114 : storeD Go.Proofs.Tryd.prog σ 114 (.addr id off) (.pv p) KS = stM σ id (σ id) off (.pv p) KS := stA hT114 sz114 rfl rfl
@[go_sem] theorem ld115 : loadD Go.Proofs.Tryd.prog σ 115 (.addr id off) K = ldM (σ id) off K := ldA hT115 ag115
@[go_sem] theorem le115 : loadD Go.Proofs.Tryd.prog σ 115 (.elemP cs off) K = (∃ v, cs[off]? = some v ∧ K (.pv v)) := load_elem hT115 ag115
@[go_sem] theorem stp115 : storeD Go.Proofs.Tryd.prog σ 115 (.addr id off) (.pv p) KS = stM σ id (σ id) off (.pv p) KS := stA hT115 sz115 rfl rfl
@[go_sem] theorem ld116 : loadD Go.Proofs.Tryd.prog σ 116 (.addr id off) K = ldM (σ id) off K := ldA hT116 ag116
@[go_sem] theorem le116 : loadD Go.Proofs.Tryd.prog σ 116 (.elemP cs off) K = (∃ v, cs[off]? = some v ∧ K (.pv v)) := load_elem hT116 ag116
@[go_sem] theorem stp116 : storeD Go.Proofs.Tryd.prog σ 116 (.addr id off) (.pv p) KS = stM σ id (σ id) off (.pv p) KS := stA hT116 sz116 rfl rfl
@[go_sem] theorem ld117 : loadD Go.Proofs.Tryd.prog σ 117 (.addr id off) K = ldM (σ id) off K := ldA hT117 ag117
@[go_sem] theorem le117 : loadD Go.Proofs.Tryd.prog σ 117 (.elemP cs off) K = (∃ v, cs[off]? = some v ∧ K (.pv v)) := load_elem hT117 ag117
@[go_sem] theorem stp117 : storeD Go.Proofs.Tryd.prog σ 117 (.addr id off) (.pv p) KS = stM σ id (σ id) off (.pv p) KS := stA hT117 sz117 rfl rfl
@[go_sem] theorem ld118 : loadD Go.Proofs.Tryd.prog σ 118 (.addr id off) K = ldM (σ id) off K := ldA hT118 ag118
@[go_sem] theorem le118 : loadD Go.Proofs.Tryd.prog σ 118 (.elemP cs off) K = (∃ v, cs[off]? = some v ∧ K (.pv v)) := load_elem hT118 ag118
@[go_sem] theorem stp118 : storeD Go.Proofs.Tryd.prog σ 118 (.addr id off) (.pv p) KS = stM σ id (σ id) off (.pv p) KS := stA hT118 sz118 rfl rfl
@[go_sem] theorem ld119 : loadD Go.Proofs.Tryd.prog σ 119 (.addr id off) K = ldM (σ id) off K := ldA hT119 ag119
@[go_sem] theorem le119 : loadD Go.Proofs.Tryd.prog σ 119 (.elemP cs off) K = (∃ v, cs[off]? = some v ∧ K (.pv v)) := load_elem hT119 ag119
@[go_sem] theorem stp119 : storeD Go.Proofs.Tryd.prog σ 119 (.addr id off) (.pv p) KS = stM σ id (σ id) off (.pv p) KS := stA hT119 sz119 rfl rfl
@[go_sem] theorem ld120 : loadD Go.Proofs.Tryd.prog σ 120 (.addr id off) K = ldM (σ id) off K := ldA hT120 ag120
@[go_sem] theorem le120 : loadD Go.Proofs.Tryd.prog σ 120 (.elemP cs off) K = (∃ v, cs[off]? = some v ∧ K (.pv v)) := load_elem hT120 ag120
@[go_sem] theorem stp120 : storeD Go.Proofs.Tryd.prog σ 120 (.addr id off) (.pv p) KS = stM σ id (σ id) off (.pv p) KS := stA hT120 sz120 rfl rfl
@[go_sem] theorem ld121 : loadD Go.Proofs.Tryd.prog σ 121 (.addr id off) K = ldM (σ id) off K := ldA hT121 ag121
@[go_sem] theorem le121 : loadD Go.Proofs.Tryd.prog σ 121 (.elemP cs off) K = (∃ v, cs[off]? = some v ∧ K (.pv v)) := load_elem hT121 ag121
@[go_sem] theorem stp121 : storeD Go.Proofs.Tryd.prog σ 121 (.addr id off) (.pv p) KS = stM σ id (σ id) off (.pv p) KS := stA hT121 sz121 rfl rfl
@[go_sem] theorem ld122 : loadD Go.Proofs.Tryd.prog σ 122 (.addr id off) K = ldM (σ id) off K := ldA hT122 ag122
@[go_sem] theorem le122 : loadD Go.Proofs.Tryd.prog σ 122 (.elemP cs off) K = (∃ v, cs[off]? = some v ∧ K (.pv v)) := load_elem hT122 ag122
@[go_sem] theorem stp122 : storeD Go.Proofs.Tryd.prog σ 122 (.addr id off) (.pv p) KS = stM σ id (σ id) off (.pv p) KS := stA hT122 sz122 rfl rfl
@[go_sem] theorem ld123 : loadD Go.Proofs.Tryd.prog σ 123 (.addr id off) K = ldM (σ id) off K := ldA hT123 ag123
@[go_sem] theorem le123 : loadD Go.Proofs.Tryd.prog σ 123 (.elemP cs off) K = (∃ v, cs[off]? = some v ∧ K (.pv v)) := load_elem hT123 ag123
@[go_sem] theorem stp123 : storeD Go.Proofs.Tryd.prog σ 123 (.addr id off) (.pv p) KS = stM σ id (σ id) off (.pv p) KS := stA hT123 sz123 rfl rfl
@[go_sem] theorem ld124 : loadD Go.Proofs.Tryd.prog σ 124 (.addr id off) K = ldM (σ id) off K := ldA hT124 ag124
@[go_sem] theorem le124 : loadD Go.Proofs.Tryd.prog σ 124 (.elemP cs off) K = (∃ v, cs[off]? = some v ∧ K (.pv v)) := load_elem hT124 ag124
@[go_sem] theorem stp124 : storeD Go.Proofs.Tryd.prog σ 124 (.addr id off) (.pv p) KS = stM σ id (σ id) off (.pv p) KS := stA hT124 sz124 rfl rfl
@[go_sem] theorem ld125 : loadD Go.Proofs.Tryd.prog σ 125 (.addr id off) K = ldM (σ id) off K := ldA hT125 ag125
@[go_sem] theorem le125 : loadD Go.Proofs.Tryd.prog σ 125 (.elemP cs off) K = (∃ v, cs[off]? = some v ∧ K (.pv v)) := load_elem hT125 ag125
@[go_sem] theorem stp125 : storeD Go.Proofs.Tryd.prog σ 125 (.addr id off) (.pv p) KS = stM σ id (σ id) off (.pv p) KS := stA hT125 sz125 rfl rfl
@[go_sem] theorem ld126 : loadD Go.Proofs.Tryd.prog σ 126 (.addr id off) K = ldM (σ id) off K := ldA hT126 ag126
@[go_sem] theorem le126 : loadD Go.Proofs.Tryd.prog σ 126 (.elemP cs off) K = (∃ v, cs[off]? = some v ∧ K (.pv v)) := load_elem hT126 ag126
@[go_sem] theorem stp126 : storeD Go.Proofs.Tryd.prog σ 126 (.addr id off) (.pv p) KS = stM σ id (σ id) off (.pv p) KS := stA hT126 sz126 rfl rfl
@[go_sem] theorem ld127 : loadD Go.Proofs.Tryd.prog σ 127 (.addr id off) K = ldM (σ id) off K := ldA hT127 ag127
@[go_sem] theorem le127 : loadD Go.Proofs.Tryd.prog σ 127 (.elemP cs off) K = (∃ v, cs[off]? = some v ∧ K (.pv v)) := load_elem hT127 ag127
@[go_sem] theorem stp127 : storeD Go.Proofs.Tryd.prog σ 127 (.addr id off) (.pv p) KS = stM σ id (σ id) off (.pv p) KS := stA hT127 sz127 rfl rfl
@[go_sem] theorem fa129_0 : fieldAddrD Go.Proofs.Tryd.prog 129 (.addr id off) 0 K = K (.addr id (off + 0)) := by
  rw [fa_addr (by rw [fo129_0]; rfl)]; simp only [fo129_0, Option.getD_some, hT5, sz5, true_and]; simp
@[go_sem] theorem fe129_0 : fieldAddrD Go.Proofs.Tryd.prog 129 (.elemP cs off) 0 K = K (.elemP cs (off + 0)) := by
  rw [fa_elem (by rw [fo129_0]; rfl)]; simp only [fo129_0, Option.getD_some, hT5, sz5, true_and]; simp
@[go_sem] theorem fa129_1 : fieldAddrD Go.Proofs.Tryd.prog 129 (.addr id off) 1 K = K (.addr id (off + 1)) := by
  rw [fa_addr (by rw [fo129_1]; rfl)]; simp only [fo129_1, Option.getD_some, hT5, sz5, true_and]; simp
@[go_sem] theorem fe129_1 : fieldAddrD Go.Proofs.Tryd.prog 129 (.elemP cs off) 1 K = K (.elemP cs (off + 1)) := by
  rw [fa_elem (by rw [fo129_1]; rfl)]; simp only [fo129_1, Option.getD_some, hT5, sz5, true_and]; simp
@[go_sem] theorem fa130_0 : fieldAddrD Go.Proofs.Tryd.prog 130 (.addr id off) 0 K = K (.addr id (off + 0)) := by
  rw [fa_addr (by rw [fo130_0]; rfl)]; simp only [fo130_0, Option.getD_some, hT5, sz5, true_and]; simp
@[go_sem] theorem fe130_0 : fieldAddrD Go.Proofs.Tryd.prog 130 (.elemP cs off) 0 K = K (.elemP cs (off + 0)) := by
  rw [fa_elem (by rw [fo130_0]; rfl)]; simp only [fo130_0, Option.getD_some, hT5, sz5, true_and]; simp
@[go_sem] theorem fa130_1 : fieldAddrD Go.Proofs.Tryd.prog 130 (.addr id off) 1 K = K (.addr id (off + 1)) := by
  rw [fa_addr (by rw [fo130_1]; rfl)]; simp only [fo130_1, Option.getD_some, hT5, sz5, true_and]; simp
@[go_sem] theorem fe130_1 : fieldAddrD Go.Proofs.Tryd.prog 130 (.elemP cs off) 1 K = K (.elemP cs (off + 1)) := by
  rw [fa_elem (by rw [fo130_1]; rfl)]; simp only [fo130_1, Option.getD_some, hT5, sz5, true_and]; simp
@[go_sem] theorem ld132 : loadD Go.Proofs.Tryd.prog σ 132 (.addr id off) K = ldM (σ id) off K := ldA hT132 ag132
@[go_sem] theorem le132 : loadD Go.Proofs.Tryd.prog σ 132 (.elemP cs off) K = (∃ v, cs[off]? = some v ∧ K (.pv v)) := load_elem hT132 ag132
@[go_sem] theorem stp132 : storeD Go.Proofs.Tryd.prog σ 132 (.addr id off) (.pv p) KS = stM σ id (σ id) off (.pv p) KS := stA hT132 sz132 rfl rfl
@[go_sem] theorem ld133 : loadD Go.Proofs.Tryd.prog σ 133 (.addr id off) K = ldM (σ id) off K := ldA hT133 ag133
@[go_sem] theorem le133 : loadD Go.Proofs.Tryd.prog σ 133 (.elemP cs off) K = (∃ v, cs[off]? = some v ∧ K (.pv v)) := load_elem hT133 ag133
@[go_sem] theorem stp133 : storeD Go.Proofs.Tryd.prog σ 133 (.addr id off) (.pv p) KS = stM σ id (σ id) off (.pv p) KS := stA hT133 sz133 rfl rfl
@[go_sem] theorem fa134_0 : fieldAddrD Go.Proofs.Tryd.prog 134 (.addr id off) 0 K = K (.addr id (off + 0)) := by
  rw [fa_addr (by rw [fo134_0]; rfl)]; simp only [fo134_0, Option.getD_some, hT17, sz17, true_and]; simp
@[go_sem] theorem fe134_0 : fieldAddrD Go.Proofs.Tryd.prog 134 (.elemP cs off) 0 K = K (.elemP cs (off + 0)) := by
  rw [fa_elem (by rw [fo134_0]; rfl)]; simp only [fo134_0, Option.getD_some, hT17, sz17, true_and]; simp
@[go_sem] theorem fa134_1 : fieldAddrD Go.Proofs.Tryd.prog 134 (.addr id off) 1 K = K (.addr id (off + 1)) := by
  rw [fa_addr (by rw [fo134_1]; rfl)]; simp only [fo134_1, Option.getD_some, hT17, sz17, true_and]; simp
@[go_sem] theorem fe134_1 : fieldAddrD Go.Proofs.Tryd.prog 134 (.elemP cs off) 1 K = K (.elemP cs (off + 1)) := by
  rw [fa_elem (by rw [fo134_1]; rfl)]; simp only [fo134_1, Option.getD_some, hT17, sz17, true_and]; simp
@[go_sem] theorem fa134_2 : fieldAddrD Go.Proofs.Tryd.prog 134 (.addr id off) 2 K = K (.addr id (off + 2)) := by
  rw [fa_addr (by rw [fo134_2]; rfl)]; simp only [fo134_2, Option.getD_some, hT17, sz17, true_and]; simp
@[go_sem] theorem fe134_2 : fieldAddrD Go.Proofs.Tryd.prog 134 (.elemP cs off) 2 K = K (.elemP cs (off + 2)) := by
  rw [fa_elem (by rw [fo134_2]; rfl)]; simp only [fo134_2, Option.getD_some, hT17, sz17, true_and]; simp
@[go_sem] theorem fa134_3 : fieldAddrD Go.Proofs.Tryd.prog 134 (.addr id off) 3 K = K (.addr id (off + 3)) := by
  rw [fa_addr (by rw [fo134_3]; rfl)]; simp only [fo134_3, Option.getD_some, hT9, sz9, true_and]; simp
@[go_sem] theorem fe134_3 : fieldAddrD Go.Proofs.Tryd.prog 134 (.elemP cs off) 3 K = K (.elemP cs (off + 3)) := by
  rw [fa_elem (by rw [fo134_3]; rfl)]; simp only [fo134_3, Option.getD_some, hT9, sz9, true_and]; simp
@[go_sem] theorem fa135_0 : fieldAddrD Go.Proofs.Tryd.prog 135 (.addr id off) 0 K = K (.addr id (off + 0)) := by
  rw [fa_addr (by rw [fo135_0]; rfl)]; simp only [fo135_0, Option.getD_some, hT17, sz17, true_and]; simp
@[go_sem] theorem fe135_0 : fieldAddrD Go.Proofs.Tryd.prog 135 (.elemP cs off) 0 K = K (.elemP cs (off + 0)) := by
  rw [fa_elem (by rw [fo135_0]; rfl)]; simp only [fo135_0, Option.getD_some, hT17, sz17, true_and]; simp
@[go_sem] theorem fa135_1 : fieldAddrD Go.Proofs.Tryd.prog 135 (.addr id off) 1 K = K (.addr id (off + 1)) := by
  rw [fa_addr (by rw [fo135_1]; rfl)]; simp only [fo135_1, Option.getD_some, hT17, sz17, true_and]; simp
@[go_sem] theorem fe135_1 : fieldAddrD Go.Proofs.Tryd.prog 135 (.elemP cs off) 1 K = K (.elemP cs (off + 1)) := by
  rw [fa_elem (by rw [fo135_1]; rfl)]; simp only [fo135_1, Option.getD_some, hT17, sz17, true_and]; simp
@[go_sem] theorem fa135_2 : fieldAddrD Go.Proofs.Tryd.prog 135 (.addr id off) 2 K = K (.addr id (off + 2)) := by
  rw [fa_addr (by rw [fo135_2]; rfl)]; simp only [fo135_2, Option.getD_some, hT17, sz17, true_and]; simp
@[go_sem] theorem fe135_2 : fieldAddrD Go.Proofs.Tryd.prog 135 (.elemP cs off) 2 K = K (.elemP cs (off + 2)) := by
  rw [fa_elem (by rw [fo135_2]; rfl)]; simp only [fo135_2, Option.getD_some, hT17, sz17, true_and]; simp
@[go_sem] theorem fa135_3 : fieldAddrD Go.Proofs.Tryd.prog 135 (.addr id off) 3 K = K (.addr id (off + 3)) := by
  rw [fa_addr (by rw [fo135_3]; rfl)]; simp only [fo135_3, Option.getD_some, hT9, sz9, true_and]; simp
@[go_sem] theorem fe135_3 : fieldAddrD Go.Proofs.Tryd.prog 135 (.elemP cs off) 3 K = K (.elemP cs (off + 3)) := by
  rw [fa_elem (by rw [fo135_3]; rfl)]; simp only [fo135_3, Option.getD_some, hT9, sz9, true_and]; simp
@[go_sem] theorem ld139 : loadD Go.Proofs.Tryd.prog σ 139 (.addr id off) K = ldM (σ id) off K := ldA hT139 ag139
@[go_sem] theorem le139 : loadD Go.Proofs.Tryd.prog σ 139 (.elemP cs off) K = (∃ v, cs[off]? = some v ∧ K (.pv v)) := load_elem hT139 ag139
@[go_sem] theorem stp139 : storeD Go.Proofs.Tryd.prog σ 139 (.addr id off) (.pv p) KS = stM σ id (σ id) off (.pv p) KS := stA hT139 sz139 rfl rfl
@[go_sem] theorem ld140 : loadD Go.Proofs.Tryd.prog σ 140 (.addr id off) K = ldM (σ id) off K := ldA hT140 ag140
@[go_sem] theorem le140 : loadD Go.Proofs.Tryd.prog σ 140 (.elemP cs off) K = (∃ v, cs[off]? = some v ∧ K (.pv v)) := load_elem hT140 ag140
@[go_sem] theorem stp140 : storeD Go.Proofs.Tryd.prog σ 140 (.addr id off) (.pv p) KS = stM σ id (σ id) off (.pv p) KS := stA hT140 sz140 rfl rfl
@[go_sem] theorem ld141 : loadD Go.Proofs.Tryd.prog σ 141 (.addr id off) K = ldM (σ id) off K := ldA hT141 ag141
@[go_sem] theorem le141 : loadD Go.Proofs.Tryd.prog σ 141 (.elemP cs off) K = (∃ v, cs[off]? = some v ∧ K (.pv v)) := load_elem hT141 ag141
@[go_sem] theorem stp141 : storeD Go.Proofs.Tryd.prog σ 141 (.addr id off) (.pv p) KS = stM σ id (σ id) off (.pv p) KS := stA hT141 sz141 rfl rfl
@[go_sem] theorem ld142 : loadD Go.Proofs.Tryd.prog σ 142 (.addr id off) K = ldM (σ id) off K := ldA hT142 ag142
@[go_sem] theorem le142 : loadD Go.Proofs.Tryd.prog σ 142 (.elemP cs off) K = (∃ v, cs[off]? = some v ∧ K (.pv v)) := load_elem hT142 ag142
@[go_sem] theorem stp142 : storeD Go.Proofs.Tryd.prog σ 142 (.addr id off) (.pv p) KS = stM σ id (σ id) off (.pv p) KS := stA hT142 sz142 rfl rfl
@[go_sem] theorem ld143 : loadD Go.Proofs.Tryd.prog σ 143 (.addr id off) K = ldM (σ id) off K := ldA hT143 ag143
@[go_sem] theorem le143 : loadD Go.Proofs.Tryd.prog σ 143 (.elemP cs off) K = (∃ v, cs[off]? = some v ∧ K (.pv v)) := load_elem hT143 ag143
@[go_sem] theorem stp143 : storeD Go.Proofs.Tryd.prog σ 143 (.addr id off) (.pv p) KS = stM σ id (σ id) off (.pv p) KS := stA hT143 sz143 rfl rfl
@[go_sem] theorem ld144 : loadD Go.Proofs.Tryd.prog σ 144 (.addr id off) K = ldM (σ id) off K := ldA hT144 ag144
@[go_sem] theorem le144 : loadD Go.Proofs.Tryd.prog σ 144 (.elemP cs off) K = (∃ v, cs[off]? = some v ∧ K (.pv v)) := load_elem hT144 ag144
@[go_sem] theorem stp144 : storeD Go.Proofs.Tryd.prog σ 144 (.addr id off) (.pv p) KS = stM σ id (σ id) off (.pv p) KS := stA hT144 sz144 rfl rfl
@[go_sem] theorem fa145_0 : fieldAddrD Go.Proofs.Tryd.prog 145 (.addr id off) 0 K = K (.addr id (off + 0)) := by
  rw [fa_addr (by rw [fo145_0]; rfl)]; simp only [fo145_0, Option.getD_some, hT12, sz12, true_and]; simp
@[go_sem] theorem fe145_0 : fieldAddrD Go.Proofs.Tryd.prog 145 (.elemP cs off) 0 K = K (.elemP cs (off + 0)) := by
  rw [fa_elem (by rw [fo145_0]; rfl)]; simp only [fo145_0, Option.getD_some, hT12, sz12, true_and]; simp
@[go_sem] theorem fa145_1 : fieldAddrD Go.Proofs.Tryd.prog 145 (.addr id off) 1 K = K (.addr id (off + 1)) := by
  rw [fa_addr (by rw [fo145_1]; rfl)]; simp only [fo145_1, Option.getD_some, hT12, sz12, true_and]; simp
@[go_sem] theorem fe145_1 : fieldAddrD Go.Proofs.Tryd.prog 145 (.elemP cs off) 1 K = K (.elemP cs (off + 1)) := by
  rw [fa_elem (by rw [fo145_1]; rfl)]; simp only [fo145_1, Option.getD_some, hT12, sz12, true_and]; simp
@[go_sem] theorem fa145_2 : fieldAddrD Go.Proofs.Tryd.prog 145 (.addr id off) 2 K = K (.addr id (off + 2)) := by
  rw [fa_addr (by rw [fo145_2]; rfl)]; simp only [fo145_2, Option.getD_some, hT121, sz121, true_and]; simp
@[go_sem] theorem fe145_2 : fieldAddrD Go.Proofs.Tryd.prog 145 (.elemP cs off) 2 K = K (.elemP cs (off + 2)) := by
  rw [fa_elem (by rw [fo145_2]; rfl)]; simp only [fo145_2, Option.getD_some, hT121, sz121, true_and]; simp
@[go_sem] theorem fa145_3 : fieldAddrD Go.Proofs.Tryd.prog 145 (.addr id off) 3 K = K (.addr id (off + 3)) := by
  rw [fa_addr (by rw [fo145_3]; rfl)]; simp only [fo145_3, Option.getD_some, hT140, sz140, true_and]; simp
@[go_sem] theorem fe145_3 : fieldAddrD Go.Proofs.Tryd.prog 145 (.elemP cs off) 3 K = K (.elemP cs (off + 3)) := by
  rw [fa_elem (by rw [fo145_3]; rfl)]; simp only [fo145_3, Option.getD_some, hT140, sz140, true_and]; simp
@[go_sem] theorem fa145_4 : fieldAddrD Go.Proofs.Tryd.prog 145 (.addr id off) 4 K = K (.addr id (off + 4)) := by
  rw [fa_addr (by rw [fo145_4]; rfl)]; simp only [fo145_4, Option.getD_some, hT5, sz5, true_and]; simp
@[go_sem] theorem fe145_4 : fieldAddrD Go.Proofs.Tryd.prog 145 (.elemP cs off) 4 K = K (.elemP cs (off + 4)) := by
  rw [fa_elem (by rw [fo145_4]; rfl)]; simp only [fo145_4, Option.getD_some, hT5, sz5, true_and]; simp
@[go_sem] theorem fa145_5 : fieldAddrD Go.Proofs.Tryd.prog 145 (.addr id off) 5 K = K (.addr id (off + 5)) := by
  rw [fa_addr (by rw [fo145_5]; rfl)]; simp only [fo145_5, Option.getD_some, hT5, sz5, true_and]; simp
@[go_sem] theorem fe145_5 : fieldAddrD Go.Proofs.Tryd.prog 145 (.elemP cs off) 5 K = K (.elemP cs (off + 5)) := by
  rw [fa_elem (by rw [fo145_5]; rfl)]; simp only [fo145_5, Option.getD_some, hT5, sz5, true_and]; simp
@[go_sem] theorem fa145_6 : fieldAddrD Go.Proofs.Tryd.prog 145 (.addr id off) 6 K = K (.addr id (off + 6)) := by
  rw [fa_addr (by rw [fo145_6]; rfl)]; simp only [fo145_6, Option.getD_some, hT141, sz141, true_and]; simp
@[go_sem] theorem fe145_6 : fieldAddrD Go.Proofs.Tryd.prog 145 (.elemP cs off) 6 K = K (.elemP cs (off + 6)) := by
  rw [fa_elem (by rw [fo145_6]; rfl)]; simp only [fo145_6, Option.getD_some, hT141, sz141, true_and]; simp
@[go_sem] theorem fa145_7 : fieldAddrD Go.Proofs.Tryd.prog 145 (.addr id off) 7 K = K (.addr id (off + 7)) := by
  rw [fa_addr (by rw [fo145_7]; rfl)]; simp only [fo145_7, Option.getD_some, hT142, sz142, true_and]; simp
@[go_sem] theorem fe145_7 : fieldAddrD Go.Proofs.Tryd.prog 145 (.elemP cs off) 7 K = K (.elemP cs (off + 7)) := by
  rw [fa_elem (by rw [fo145_7]; rfl)]; simp only [fo145_7, Option.getD_some, hT142, sz142, true_and]; simp
@[go_sem] theorem fa145_8 : fieldAddrD Go.Proofs.Tryd.prog 145 (.addr id off) 8 K = K (.addr id (off + 8)) := by
  rw [fa_addr (by rw [fo145_8]; rfl)]; simp only [fo145_8, Option.getD_some, hT107, sz107, true_and]; simp
@[go_sem] theorem fe145_8 : fieldAddrD Go.Proofs.Tryd.prog 145 (.elemP cs off) 8 K = K (.elemP cs (off + 8)) := by
  rw [fa_elem (by rw [fo145_8]; rfl)]; simp only [fo145_8, Option.getD_some, hT107, sz107, true_and]; simp
@[go_sem] theorem fa145_9 : fieldAddrD Go.Proofs.Tryd.prog 145 (.addr id off) 9 K = K (.addr id (off + 9)) := by
  rw [fa_addr (by rw [fo145_9]; rfl)]; simp only [fo145_9, Option.getD_some, hT143, sz143, true_and]; simp
@[go_sem] theorem fe145_9 : fieldAddrD Go.Proofs.Tryd.prog 145 (.elemP cs off) 9 K = K (.elemP cs (off + 9)) := by
  rw [fa_elem (by rw [fo145_9]; rfl)]; simp only [fo145_9, Option.getD_some, hT143, sz143, true_and]; simp
@[go_sem] theorem fa145_10 : fieldAddrD Go.Proofs.Tryd.prog 145 (.addr id off) 10 K = K (.addr id (off + 10)) := by
  rw [fa_addr (by rw [fo145_10]; rfl)]; simp only [fo145_10, Option.getD_some, hT144, sz144, true_and]; simp
@[go_sem] theorem fe145_10 : fieldAddrD Go.Proofs.Tryd.prog 145 (.elemP cs off) 10 K = K (.elemP cs (off + 10)) := by
  rw [fa_elem (by rw [fo145_10]; rfl)]; simp only [fo145_10, Option.getD_some, hT144, sz144, true_and]; simp
@[go_sem] theorem fa146_0 : fieldAddrD Go.Proofs.Tryd.prog 146 (.addr id off) 0 K = K (.addr id (off + 0)) := by
  rw [fa_addr (by rw [fo146_0]; rfl)]; simp only [fo146_0, Option.getD_some, hT12, sz12, true_and]; simp
@[go_sem] theorem fe146_0 : fieldAddrD Go.Proofs.Tryd.prog 146 (.elemP cs off) 0 K = K (.elemP cs (off + 0)) := by
  rw [fa_elem (by rw [fo146_0]; rfl)]; simp only [fo146_0, Option.getD_some, hT12, sz12, true_and]; simp
@[go_sem] theorem fa146_1 : fieldAddrD Go.Proofs.Tryd.prog 146 (.addr id off) 1 K = K (.addr id (off + 1)) := by
  rw [fa_addr (by rw [fo146_1]; rfl)]; simp only [fo146_1, Option.getD_some, hT12, sz12, true_and]; simp
@[go_sem] theorem fe146_1 : fieldAddrD Go.Proofs.Tryd.prog 146 (.elemP cs off) 1 K = K (.elemP cs (off + 1)) := by
  rw [fa_elem (by rw [fo146_1]; rfl)]; simp only [fo146_1, Option.getD_some, hT12, sz12, true_and]; simp
@[go_sem] theorem fa146_2 : fieldAddrD Go.Proofs.Tryd.prog 146 (.addr id off) 2 K = K (.addr id (off + 2)) := by
  rw [fa_addr (by rw [fo146_2]; rfl)]; simp only [fo146_2, Option.getD_some, hT121, sz121, true_and]; simp
@[go_sem] theorem fe146_2 : fieldAddrD Go.Proofs.Tryd.prog 146 (.elemP cs off) 2 K = K (.elemP cs (off + 2)) := by
  rw [fa_elem (by rw [fo146_2]; rfl)]; simp only [fo146_2, Option.getD_some, hT121, sz121, true_and]; simp
@[go_sem] theorem fa146_3 : fieldAddrD Go.Proofs.Tryd.prog 146 (.addr id off) 3 K = K (.addr id (off + 3)) := by
  rw [fa_addr (by rw [fo146_3]; rfl)]; simp only [fo146_3, Option.getD_some, hT140, sz140, true_and]; simp
@[go_sem] theorem fe146_3 : fieldAddrD Go.Proofs.Tryd.prog 146 (.elemP cs off) 3 K = K (.elemP cs (off + 3)) := by
  rw [fa_elem (by rw [fo146_3]; rfl)]; simp only [fo146_3, Option.getD_some, hT140, sz140, true_and]; simp
@[go_sem] theorem fa146_4 : fieldAddrD Go.Proofs.Tryd.prog 146 (.addr id off) 4 K = K (.addr id (off + 4)) := by
  rw [fa_addr (by rw [fo146_4]; rfl)]; simp only [fo146_4, Option.getD_some, hT5, sz5, true_and]; simp
@[go_sem] theorem fe146_4 : fieldAddrD Go.Proofs.Tryd.prog 146 (.elemP cs off) 4 K = K (.elemP cs (off + 4)) := by
  rw [fa_elem (by rw [fo146_4]; rfl)]; simp only [fo146_4, Option.getD_some, hT5, sz5, true_and]; simp
@[go_sem] theorem fa146_5 : fieldAddrD Go.Proofs.Tryd.prog 146 (.addr id off) 5 K = K (.addr id (off + 5)) := by
  rw [fa_addr (by rw [fo146_5]; rfl)]; simp only [fo146_5, Option.getD_some, hT5, sz5, true_and]; simp
@[go_sem] theorem fe146_5 : fieldAddrD Go.Proofs.Tryd.prog 146 (.elemP cs off) 5 K = K (.elemP cs (off + 5)) := by
  rw [fa_elem (by rw [fo146_5]; rfl)]; simp only [fo146_5, Option.getD_some, hT5, sz5, true_and]; simp
@[go_sem] theorem fa146_6 : fieldAddrD Go.Proofs.Tryd.prog 146 (.addr id off) 6 K = K (.addr id (off + 6)) := by
  rw [fa_addr (by rw [fo146_6]; rfl)]; simp only [fo146_6, Option.getD_some, hT141, sz141, true_and]; simp
@[go_sem] theorem fe146_6 : fieldAddrD Go.Proofs.Tryd.prog 146 (.elemP cs off) 6 K = K (.elemP cs (off + 6)) := by
  rw [fa_elem (by rw [fo146_6]; rfl)]; simp only [fo146_6, Option.getD_some, hT141, sz141, true_and]; simp
@[go_sem] theorem fa146_7 : fieldAddrD Go.Proofs.Tryd.prog 146 (.addr id off) 7 K = K (.addr id (off + 7)) := by
  rw [fa_addr (by rw [fo146_7]; rfl)]; simp only [fo146_7, Option.getD_some, hT142, sz142, true_and]; simp
@[go_sem] theorem fe146_7 : fieldAddrD Go.Proofs.Tryd.prog 146 (.elemP cs off) 7 K = K (.elemP cs (off + 7)) := by
  rw [fa_elem (by rw [fo146_7]; rfl)]; simp only [fo146_7, Option.getD_some, hT142, sz142, true_and]; simp
@[go_sem] theorem fa146_8 : fieldAddrD Go.Proofs.Tryd.prog 146 (.addr id off) 8 K = K (.addr id (off + 8)) := by
  rw [fa_addr (by rw [fo146_8]; rfl)]; simp only [fo146_8, Option.getD_some, hT107, sz107, true_and]; simp
@[go_sem] theorem fe146_8 : fieldAddrD Go.Proofs.Tryd.prog 146 (.elemP cs off) 8 K = K (.elemP cs (off + 8)) := by
  rw [fa_elem (by rw [fo146_8]; rfl)]; simp only [fo146_8, Option.getD_some, hT107, sz107, true_and]; simp
@[go_sem] theorem fa146_9 : fieldAddrD Go.Proofs.Tryd.prog 146 (.addr id off) 9 K = K (.addr id (off + 9)) := by
  rw [fa_addr (by rw [fo146_9]; rfl)]; simp only [fo146_9, Option.getD_some, hT143, sz143, true_and]; simp
@[go_sem] theorem fe146_9 : fieldAddrD Go.Proofs.Tryd.prog 146 (.elemP cs off) 9 K = K (.elemP cs (off + 9)) := by
  rw [fa_elem (by rw [fo146_9]; rfl)]; simp only [fo146_9, Option.getD_some, hT143, sz143, true_and]; simp
@[go_sem] theorem fa146_10 : fieldAddrD Go.Proofs.Tryd.prog 146 (.addr id off) 10 K = K (.addr id (off + 10)) := by
  rw [fa_addr (by rw [fo146_10]; rfl)]; simp only [fo146_10, Option.getD_some, hT144, sz144, true_and]; simp
@[go_sem] theorem fe146_10 : fieldAddrD Go.Proofs.Tryd.prog 146 (.elemP cs off) 10 K = K (.elemP cs (off + 10)) := by
  rw [fa_elem (by rw [fo146_10]; rfl)]; simp only [fo146_10, Option.getD_some, hT144, sz144, true_and]; simp
end Go.AD.T
