/- The calculus' words at the seat's types. -/
import Derived.Test.YtjgjmpophpifgaaDoorTy
import Derived.Test.YtjgjmpophpifgaaDoorAd17
set_option linter.unusedVariables false
set_option maxRecDepth 100000
namespace Go.AD.T
open Go.Proofs.Tryd
variable {σ : AS} {id off n size : Nat} {K : AV → Prop} {KS : AS → Prop} {k k2 : IntKind} {cs : List PV} {p : PV} {x : List UInt8} {i j : Nat} {z : Int}
@[go_sem] theorem ld0 : loadD prog σ 0 (.addr id off) K = ldM (σ id) off K := ldA hT0 ag0
@[go_sem] theorem le0 : loadD prog σ 0 (.elemP cs off) K = (∃ v, cs[off]? = some v ∧ K (.pv v)) := load_elem hT0 ag0
@[go_sem] theorem stp0 : storeD prog σ 0 (.addr id off) (.pv p) KS = stM σ id (σ id) off (.pv p) KS := stA hT0 sz0 rfl rfl
@[go_sem] theorem ld1 : loadD prog σ 1 (.addr id off) K = ldM (σ id) off K := ldA hT1 ag1
@[go_sem] theorem le1 : loadD prog σ 1 (.elemP cs off) K = (∃ v, cs[off]? = some v ∧ K (.pv v)) := load_elem hT1 ag1
@[go_sem] theorem stp1 : storeD prog σ 1 (.addr id off) (.pv p) KS = stM σ id (σ id) off (.pv p) KS := stA hT1 sz1 rfl rfl
@[go_sem] theorem ld2 : loadD prog σ 2 (.addr id off) K = ldM (σ id) off K := ldA hT2 ag2
@[go_sem] theorem le2 : loadD prog σ 2 (.elemP cs off) K = (∃ v, cs[off]? = some v ∧ K (.pv v)) := load_elem hT2 ag2
@[go_sem] theorem stp2 : storeD prog σ 2 (.addr id off) (.pv p) KS = stM σ id (σ id) off (.pv p) KS := stA hT2 sz2 rfl rfl
@[go_sem] theorem ld3 : loadD prog σ 3 (.addr id off) K = ldM (σ id) off K := ldA hT3 ag3
@[go_sem] theorem le3 : loadD prog σ 3 (.elemP cs off) K = (∃ v, cs[off]? = some v ∧ K (.pv v)) := load_elem hT3 ag3
@[go_sem] theorem stp3 : storeD prog σ 3 (.addr id off) (.pv p) KS = stM σ id (σ id) off (.pv p) KS := stA hT3 sz3 rfl rfl
@[go_sem] theorem ld4 : loadD prog σ 4 (.addr id off) K = ldM (σ id) off K := ldA hT4 ag4
@[go_sem] theorem le4 : loadD prog σ 4 (.elemP cs off) K = (∃ v, cs[off]? = some v ∧ K (.pv v)) := load_elem hT4 ag4
@[go_sem] theorem stp4 : storeD prog σ 4 (.addr id off) (.pv p) KS = stM σ id (σ id) off (.pv p) KS := stA hT4 sz4 rfl rfl
@[go_sem] theorem ld5 : loadD prog σ 5 (.addr id off) K = ldM (σ id) off K := ldA hT5 ag5
@[go_sem] theorem le5 : loadD prog σ 5 (.elemP cs off) K = (∃ v, cs[off]? = some v ∧ K (.pv v)) := load_elem hT5 ag5
@[go_sem] theorem stp5 : storeD prog σ 5 (.addr id off) (.pv p) KS = stM σ id (σ id) off (.pv p) KS := stA hT5 sz5 rfl rfl
@[go_sem] theorem ld6 : loadD prog σ 6 (.addr id off) K = ldM (σ id) off K := ldA hT6 ag6
@[go_sem] theorem le6 : loadD prog σ 6 (.elemP cs off) K = (∃ v, cs[off]? = some v ∧ K (.pv v)) := load_elem hT6 ag6
@[go_sem] theorem stp6 : storeD prog σ 6 (.addr id off) (.pv p) KS = stM σ id (σ id) off (.pv p) KS := stA hT6 sz6 rfl rfl
@[go_sem] theorem fa8_0 : fieldAddrD prog 8 (.addr id off) 0 K = K (.addr id (off + 0)) := by
  rw [fa_addr (by rw [fo8_0]; rfl)]; simp only [fo8_0, Option.getD_some, hT2, sz2, true_and]; simp
@[go_sem] theorem fe8_0 : fieldAddrD prog 8 (.elemP cs off) 0 K = K (.elemP cs (off + 0)) := by
  rw [fa_elem (by rw [fo8_0]; rfl)]; simp only [fo8_0, Option.getD_some, hT2, sz2, true_and]; simp
@[go_sem] theorem fa8_1 : fieldAddrD prog 8 (.addr id off) 1 K = K (.addr id (off + 1)) := by
  rw [fa_addr (by rw [fo8_1]; rfl)]; simp only [fo8_1, Option.getD_some, hT3, sz3, true_and]; simp
@[go_sem] theorem fe8_1 : fieldAddrD prog 8 (.elemP cs off) 1 K = K (.elemP cs (off + 1)) := by
  rw [fa_elem (by rw [fo8_1]; rfl)]; simp only [fo8_1, Option.getD_some, hT3, sz3, true_and]; simp
@[go_sem] theorem fa8_2 : fieldAddrD prog 8 (.addr id off) 2 K = K (.addr id (off + 2)) := by
  rw [fa_addr (by rw [fo8_2]; rfl)]; simp only [fo8_2, Option.getD_some, hT4, sz4, true_and]; simp
@[go_sem] theorem fe8_2 : fieldAddrD prog 8 (.elemP cs off) 2 K = K (.elemP cs (off + 2)) := by
  rw [fa_elem (by rw [fo8_2]; rfl)]; simp only [fo8_2, Option.getD_some, hT4, sz4, true_and]; simp
@[go_sem] theorem fa8_3 : fieldAddrD prog 8 (.addr id off) 3 K = K (.addr id (off + 3)) := by
  rw [fa_addr (by rw [fo8_3]; rfl)]; simp only [fo8_3, Option.getD_some, hT6, sz6, true_and]; simp
@[go_sem] theorem fe8_3 : fieldAddrD prog 8 (.elemP cs off) 3 K = K (.elemP cs (off + 3)) := by
  rw [fa_elem (by rw [fo8_3]; rfl)]; simp only [fo8_3, Option.getD_some, hT6, sz6, true_and]; simp
@[go_sem] theorem ld9 : loadD prog σ 9 (.addr id off) K = ldM (σ id) off K := ldA hT9 ag9
@[go_sem] theorem le9 : loadD prog σ 9 (.elemP cs off) K = (∃ v, cs[off]? = some v ∧ K (.pv v)) := load_elem hT9 ag9
@[go_sem] theorem stp9 : storeD prog σ 9 (.addr id off) (.pv p) KS = stM σ id (σ id) off (.pv p) KS := stA hT9 sz9 rfl rfl
theorem und9 : (prog).underlying 9 = some .string := by kernel_rfl
@[go_sem] theorem ls9 : lenD prog 9 (.pv (.str x)) K = K (.pv (.int .i64 x.length)) := len_str und9
theorem is9 (h : i < x.length) : indexD prog 9 (.pv (.str x)) (.pv (.int k i)) K = K (.pv (.int .u8 (x.getD i 0).toNat)) := ixS und9 h
theorem ss9 (h : i ≤ x.length) : sliceD prog 9 (.pv (.str x)) (some (.pv (.int k i))) none K = K (.pv (.str (x.drop i))) := slS und9 h
theorem st9 (h : i ≤ x.length) : sliceD prog 9 (.pv (.str x)) none (some (.pv (.int k i))) K = K (.pv (.str (x.take i))) := slS0 und9 h
theorem sb9 (h : i ≤ j) (h2 : j ≤ x.length) : sliceD prog 9 (.pv (.str x)) (some (.pv (.int k i))) (some (.pv (.int k2 j))) K = K (.pv (.str ((x.take j).drop i))) := slS2 und9 h h2
@[go_sem] theorem ld20 : loadD prog σ 20 (.addr id off) K = ldM (σ id) off K := ldA hT20 ag20
@[go_sem] theorem le20 : loadD prog σ 20 (.elemP cs off) K = (∃ v, cs[off]? = some v ∧ K (.pv v)) := load_elem hT20 ag20
@[go_sem] theorem stp20 : storeD prog σ 20 (.addr id off) (.pv p) KS = stM σ id (σ id) off (.pv p) KS := stA hT20 sz20 rfl rfl
@[go_sem] theorem ld27 : loadD prog σ 27 (.addr id off) K = ldM (σ id) off K := ldA hT27 ag27
@[go_sem] theorem le27 : loadD prog σ 27 (.elemP cs off) K = (∃ v, cs[off]? = some v ∧ K (.pv v)) := load_elem hT27 ag27
@[go_sem] theorem stp27 : storeD prog σ 27 (.addr id off) (.pv p) KS = stM σ id (σ id) off (.pv p) KS := stA hT27 sz27 rfl rfl
theorem stv27 {v : AV} (hv : v.cells = [v]) (h2 : v.cellOk = true) : storeD prog σ 27 (.addr id off) v KS = stM σ id (σ id) off v KS := stA hT27 sz27 hv h2
@[go_sem] theorem lnl27 : lenD prog 27 (.pv (.lst n cs)) K = K (.pv (.int .i64 n)) := len_lst (by rw [el27]; rfl)
@[go_sem] theorem lng27 : lenD prog 27 (.grow id n cs) K = K (.pv (.int .i64 n)) := len_grow (by rw [el27]; rfl)
@[go_sem] theorem lnf27 : lenD prog 27 (.full n cs) K = K (.pv (.int .i64 n)) := len_full (by rw [el27]; rfl)
@[go_sem] theorem lnm27 : lenD prog 27 (.msl id off n size) K = K (.pv (.int .i64 n)) := len_msl (by rw [el27]; rfl)
@[go_sem] theorem lnn27 : lenD prog 27 .nilS K = K (.pv (.int .i64 0)) := len_nil (by rw [el27]; rfl)
theorem lnv27 {v : AV} (h : toPV v = some (.lst n cs)) : lenD prog 27 v K = K (.pv (.int .i64 n)) := len_of (by rw [el27]; rfl) h
theorem ixm27 (h : i < n) : indexAddrD prog 27 (.msl id off n size) (.pv (.int k i)) K = K (.addr id (off + i * 1)) := by
  rw [ix_msl (by rw [el27]; rfl)]; simp only [el27, Option.getD_some, iS9, sz9, Int.toNat_natCast, true_and]; simp [h]
theorem ixl27 (h : i < n) (hl : cs.length = n * 1) : indexAddrD prog 27 (.pv (.lst n cs)) (.pv (.int k i)) K = K (.elemP cs (i * 1)) := by
  rw [ix_lst (by rw [el27]; rfl)]; simp only [el27, Option.getD_some, iS9, sz9, Int.toNat_natCast, true_and]; simp [h, hl]
theorem ixv27 {v : AV} (hv : toPV v = some (.lst n cs)) (h : i < n) (hl : cs.length = n * 1) (hK : K (.elemP cs (i * 1))) : indexAddrD prog 27 v (.pv (.int k i)) K := by
  refine ix_of (by rw [el27]; rfl) hv (by rw [el27]; exact iS9) (by rw [el27, Option.getD_some, sz9, hl]; exact Nat.le_refl _) (by rw [el27, Option.getD_some, sz9]; decide) (by omega) (by omega) ?_
  rw [el27, Option.getD_some, sz9, Int.toNat_natCast]; exact hK
@[go_sem] theorem ld30 : loadD prog σ 30 (.addr id off) K = ldM (σ id) off K := ldA hT30 ag30
@[go_sem] theorem le30 : loadD prog σ 30 (.elemP cs off) K = (∃ v, cs[off]? = some v ∧ K (.pv v)) := load_elem hT30 ag30
@[go_sem] theorem stp30 : storeD prog σ 30 (.addr id off) (.pv p) KS = stM σ id (σ id) off (.pv p) KS := stA hT30 sz30 rfl rfl
theorem stv30 {v : AV} (hv : v.cells = [v]) (h2 : v.cellOk = true) : storeD prog σ 30 (.addr id off) v KS = stM σ id (σ id) off v KS := stA hT30 sz30 hv h2
@[go_sem] theorem lnl30 : lenD prog 30 (.pv (.lst n cs)) K = K (.pv (.int .i64 n)) := len_lst (by rw [el30]; rfl)
@[go_sem] theorem lng30 : lenD prog 30 (.grow id n cs) K = K (.pv (.int .i64 n)) := len_grow (by rw [el30]; rfl)
@[go_sem] theorem lnf30 : lenD prog 30 (.full n cs) K = K (.pv (.int .i64 n)) := len_full (by rw [el30]; rfl)
@[go_sem] theorem lnm30 : lenD prog 30 (.msl id off n size) K = K (.pv (.int .i64 n)) := len_msl (by rw [el30]; rfl)
@[go_sem] theorem lnn30 : lenD prog 30 .nilS K = K (.pv (.int .i64 0)) := len_nil (by rw [el30]; rfl)
theorem lnv30 {v : AV} (h : toPV v = some (.lst n cs)) : lenD prog 30 v K = K (.pv (.int .i64 n)) := len_of (by rw [el30]; rfl) h
theorem ixm30 (h : i < n) : indexAddrD prog 30 (.msl id off n size) (.pv (.int k i)) K = K (.addr id (off + i * 1)) := by
  rw [ix_msl (by rw [el30]; rfl)]; simp only [el30, Option.getD_some, iS5, sz5, Int.toNat_natCast, true_and]; simp [h]
theorem ixl30 (h : i < n) (hl : cs.length = n * 1) : indexAddrD prog 30 (.pv (.lst n cs)) (.pv (.int k i)) K = K (.elemP cs (i * 1)) := by
  rw [ix_lst (by rw [el30]; rfl)]; simp only [el30, Option.getD_some, iS5, sz5, Int.toNat_natCast, true_and]; simp [h, hl]
theorem ixv30 {v : AV} (hv : toPV v = some (.lst n cs)) (h : i < n) (hl : cs.length = n * 1) (hK : K (.elemP cs (i * 1))) : indexAddrD prog 30 v (.pv (.int k i)) K := by
  refine ix_of (by rw [el30]; rfl) hv (by rw [el30]; exact iS5) (by rw [el30, Option.getD_some, sz5, hl]; exact Nat.le_refl _) (by rw [el30, Option.getD_some, sz5]; decide) (by omega) (by omega) ?_
  rw [el30, Option.getD_some, sz5, Int.toNat_natCast]; exact hK
@[go_sem] theorem ld33 : loadD prog σ 33 (.addr id off) K = ldM (σ id) off K := ldA hT33 ag33
@[go_sem] theorem le33 : loadD prog σ 33 (.elemP cs off) K = (∃ v, cs[off]? = some v ∧ K (.pv v)) := load_elem hT33 ag33
@[go_sem] theorem stp33 : storeD prog σ 33 (.addr id off) (.pv p) KS = stM σ id (σ id) off (.pv p) KS := stA hT33 sz33 rfl rfl
@[go_sem] theorem ld34 : loadD prog σ 34 (.addr id off) K = ldM (σ id) off K := ldA hT34 ag34
@[go_sem] theorem le34 : loadD prog σ 34 (.elemP cs off) K = (∃ v, cs[off]? = some v ∧ K (.pv v)) := load_elem hT34 ag34
@[go_sem] theorem stp34 : storeD prog σ 34 (.addr id off) (.pv p) KS = stM σ id (σ id) off (.pv p) KS := stA hT34 sz34 rfl rfl
@[go_sem] theorem ld35 : loadD prog σ 35 (.addr id off) K = ldM (σ id) off K := ldA hT35 ag35
@[go_sem] theorem le35 : loadD prog σ 35 (.elemP cs off) K = (∃ v, cs[off]? = some v ∧ K (.pv v)) := load_elem hT35 ag35
@[go_sem] theorem stp35 : storeD prog σ 35 (.addr id off) (.pv p) KS = stM σ id (σ id) off (.pv p) KS := stA hT35 sz35 rfl rfl
theorem stv35 {v : AV} (hv : v.cells = [v]) (h2 : v.cellOk = true) : storeD prog σ 35 (.addr id off) v KS = stM σ id (σ id) off v KS := stA hT35 sz35 hv h2
@[go_sem] theorem lnl35 : lenD prog 35 (.pv (.lst n cs)) K = K (.pv (.int .i64 n)) := len_lst (by rw [el35]; rfl)
@[go_sem] theorem lng35 : lenD prog 35 (.grow id n cs) K = K (.pv (.int .i64 n)) := len_grow (by rw [el35]; rfl)
@[go_sem] theorem lnf35 : lenD prog 35 (.full n cs) K = K (.pv (.int .i64 n)) := len_full (by rw [el35]; rfl)
@[go_sem] theorem lnm35 : lenD prog 35 (.msl id off n size) K = K (.pv (.int .i64 n)) := len_msl (by rw [el35]; rfl)
@[go_sem] theorem lnn35 : lenD prog 35 .nilS K = K (.pv (.int .i64 0)) := len_nil (by rw [el35]; rfl)
theorem lnv35 {v : AV} (h : toPV v = some (.lst n cs)) : lenD prog 35 v K = K (.pv (.int .i64 n)) := len_of (by rw [el35]; rfl) h
theorem ixm35 (h : i < n) : indexAddrD prog 35 (.msl id off n size) (.pv (.int k i)) K = K (.addr id (off + i * 3)) := by
  rw [ix_msl (by rw [el35]; rfl)]; simp only [el35, Option.getD_some, iS39, sz39, Int.toNat_natCast, true_and]; simp [h]
theorem ixl35 (h : i < n) (hl : cs.length = n * 3) : indexAddrD prog 35 (.pv (.lst n cs)) (.pv (.int k i)) K = K (.elemP cs (i * 3)) := by
  rw [ix_lst (by rw [el35]; rfl)]; simp only [el35, Option.getD_some, iS39, sz39, Int.toNat_natCast, true_and]; simp [h, hl]
theorem ixv35 {v : AV} (hv : toPV v = some (.lst n cs)) (h : i < n) (hl : cs.length = n * 3) (hK : K (.elemP cs (i * 3))) : indexAddrD prog 35 v (.pv (.int k i)) K := by
  refine ix_of (by rw [el35]; rfl) hv (by rw [el35]; exact iS39) (by rw [el35, Option.getD_some, sz39, hl]; exact Nat.le_refl _) (by rw [el35, Option.getD_some, sz39]; decide) (by omega) (by omega) ?_
  rw [el35, Option.getD_some, sz39, Int.toNat_natCast]; exact hK
@[go_sem] theorem fa39_0 : fieldAddrD prog 39 (.addr id off) 0 K = K (.addr id (off + 0)) := by
  rw [fa_addr (by rw [fo39_0]; rfl)]; simp only [fo39_0, Option.getD_some, hT9, sz9, true_and]; simp
@[go_sem] theorem fe39_0 : fieldAddrD prog 39 (.elemP cs off) 0 K = K (.elemP cs (off + 0)) := by
  rw [fa_elem (by rw [fo39_0]; rfl)]; simp only [fo39_0, Option.getD_some, hT9, sz9, true_and]; simp
@[go_sem] theorem fa39_1 : fieldAddrD prog 39 (.addr id off) 1 K = K (.addr id (off + 1)) := by
  rw [fa_addr (by rw [fo39_1]; rfl)]; simp only [fo39_1, Option.getD_some, hT9, sz9, true_and]; simp
@[go_sem] theorem fe39_1 : fieldAddrD prog 39 (.elemP cs off) 1 K = K (.elemP cs (off + 1)) := by
  rw [fa_elem (by rw [fo39_1]; rfl)]; simp only [fo39_1, Option.getD_some, hT9, sz9, true_and]; simp
@[go_sem] theorem fa39_2 : fieldAddrD prog 39 (.addr id off) 2 K = K (.addr id (off + 2)) := by
  rw [fa_addr (by rw [fo39_2]; rfl)]; simp only [fo39_2, Option.getD_some, hT35, sz35, true_and]; simp
@[go_sem] theorem fe39_2 : fieldAddrD prog 39 (.elemP cs off) 2 K = K (.elemP cs (off + 2)) := by
  rw [fa_elem (by rw [fo39_2]; rfl)]; simp only [fo39_2, Option.getD_some, hT35, sz35, true_and]; simp
@[go_sem] theorem ld47 : loadD prog σ 47 (.addr id off) K = ldM (σ id) off K := ldA hT47 ag47
@[go_sem] theorem le47 : loadD prog σ 47 (.elemP cs off) K = (∃ v, cs[off]? = some v ∧ K (.pv v)) := load_elem hT47 ag47
@[go_sem] theorem stp47 : storeD prog σ 47 (.addr id off) (.pv p) KS = stM σ id (σ id) off (.pv p) KS := stA hT47 sz47 rfl rfl
theorem stv47 {v : AV} (hv : v.cells = [v]) (h2 : v.cellOk = true) : storeD prog σ 47 (.addr id off) v KS = stM σ id (σ id) off v KS := stA hT47 sz47 hv h2
@[go_sem] theorem lnl47 : lenD prog 47 (.pv (.lst n cs)) K = K (.pv (.int .i64 n)) := len_lst (by rw [el47]; rfl)
@[go_sem] theorem lng47 : lenD prog 47 (.grow id n cs) K = K (.pv (.int .i64 n)) := len_grow (by rw [el47]; rfl)
@[go_sem] theorem lnf47 : lenD prog 47 (.full n cs) K = K (.pv (.int .i64 n)) := len_full (by rw [el47]; rfl)
@[go_sem] theorem lnm47 : lenD prog 47 (.msl id off n size) K = K (.pv (.int .i64 n)) := len_msl (by rw [el47]; rfl)
@[go_sem] theorem lnn47 : lenD prog 47 .nilS K = K (.pv (.int .i64 0)) := len_nil (by rw [el47]; rfl)
theorem lnv47 {v : AV} (h : toPV v = some (.lst n cs)) : lenD prog 47 v K = K (.pv (.int .i64 n)) := len_of (by rw [el47]; rfl) h
theorem ixm47 (h : i < n) : indexAddrD prog 47 (.msl id off n size) (.pv (.int k i)) K = K (.addr id (off + i * 2)) := by
  rw [ix_msl (by rw [el47]; rfl)]; simp only [el47, Option.getD_some, iS52, sz52, Int.toNat_natCast, true_and]; simp [h]
theorem ixl47 (h : i < n) (hl : cs.length = n * 2) : indexAddrD prog 47 (.pv (.lst n cs)) (.pv (.int k i)) K = K (.elemP cs (i * 2)) := by
  rw [ix_lst (by rw [el47]; rfl)]; simp only [el47, Option.getD_some, iS52, sz52, Int.toNat_natCast, true_and]; simp [h, hl]
theorem ixv47 {v : AV} (hv : toPV v = some (.lst n cs)) (h : i < n) (hl : cs.length = n * 2) (hK : K (.elemP cs (i * 2))) : indexAddrD prog 47 v (.pv (.int k i)) K := by
  refine ix_of (by rw [el47]; rfl) hv (by rw [el47]; exact iS52) (by rw [el47, Option.getD_some, sz52, hl]; exact Nat.le_refl _) (by rw [el47, Option.getD_some, sz52]; decide) (by omega) (by omega) ?_
  rw [el47, Option.getD_some, sz52, Int.toNat_natCast]; exact hK
@[go_sem] theorem ld48 : loadD prog σ 48 (.addr id off) K = ldM (σ id) off K := ldA hT48 ag48
@[go_sem] theorem le48 : loadD prog σ 48 (.elemP cs off) K = (∃ v, cs[off]? = some v ∧ K (.pv v)) := load_elem hT48 ag48
@[go_sem] theorem stp48 : storeD prog σ 48 (.addr id off) (.pv p) KS = stM σ id (σ id) off (.pv p) KS := stA hT48 sz48 rfl rfl
@[go_sem] theorem fa52_0 : fieldAddrD prog 52 (.addr id off) 0 K = K (.addr id (off + 0)) := by
  rw [fa_addr (by rw [fo52_0]; rfl)]; simp only [fo52_0, Option.getD_some, hT9, sz9, true_and]; simp
@[go_sem] theorem fe52_0 : fieldAddrD prog 52 (.elemP cs off) 0 K = K (.elemP cs (off + 0)) := by
  rw [fa_elem (by rw [fo52_0]; rfl)]; simp only [fo52_0, Option.getD_some, hT9, sz9, true_and]; simp
@[go_sem] theorem fa52_1 : fieldAddrD prog 52 (.addr id off) 1 K = K (.addr id (off + 1)) := by
  rw [fa_addr (by rw [fo52_1]; rfl)]; simp only [fo52_1, Option.getD_some, hT9, sz9, true_and]; simp
@[go_sem] theorem fe52_1 : fieldAddrD prog 52 (.elemP cs off) 1 K = K (.elemP cs (off + 1)) := by
  rw [fa_elem (by rw [fo52_1]; rfl)]; simp only [fo52_1, Option.getD_some, hT9, sz9, true_and]; simp
@[go_sem] theorem ld57 : loadD prog σ 57 (.addr id off) K = ldM (σ id) off K := ldA hT57 ag57
@[go_sem] theorem le57 : loadD prog σ 57 (.elemP cs off) K = (∃ v, cs[off]? = some v ∧ K (.pv v)) := load_elem hT57 ag57
@[go_sem] theorem stp57 : storeD prog σ 57 (.addr id off) (.pv p) KS = stM σ id (σ id) off (.pv p) KS := stA hT57 sz57 rfl rfl
@[go_sem] theorem sta57 {j o : Nat} : storeD prog σ 57 (.addr id off) (.addr j o) KS = stM σ id (σ id) off (.addr j o) KS := stA hT57 sz57 rfl rfl
@[go_sem] theorem fa59_0 : fieldAddrD prog 59 (.addr id off) 0 K = K (.addr id (off + 0)) := by
  rw [fa_addr (by rw [fo59_0]; rfl)]; simp only [fo59_0, Option.getD_some, hT47, sz47, true_and]; simp
@[go_sem] theorem fe59_0 : fieldAddrD prog 59 (.elemP cs off) 0 K = K (.elemP cs (off + 0)) := by
  rw [fa_elem (by rw [fo59_0]; rfl)]; simp only [fo59_0, Option.getD_some, hT47, sz47, true_and]; simp
@[go_sem] theorem fa64_0 : fieldAddrD prog 64 (.addr id off) 0 K = K (.addr id (off + 0)) := by
  rw [fa_addr (by rw [fo64_0]; rfl)]; simp only [fo64_0, Option.getD_some, hT4, sz4, true_and]; simp
@[go_sem] theorem fe64_0 : fieldAddrD prog 64 (.elemP cs off) 0 K = K (.elemP cs (off + 0)) := by
  rw [fa_elem (by rw [fo64_0]; rfl)]; simp only [fo64_0, Option.getD_some, hT4, sz4, true_and]; simp
@[go_sem] theorem fa64_1 : fieldAddrD prog 64 (.addr id off) 1 K = K (.addr id (off + 1)) := by
  rw [fa_addr (by rw [fo64_1]; rfl)]; simp only [fo64_1, Option.getD_some, hT4, sz4, true_and]; simp
@[go_sem] theorem fe64_1 : fieldAddrD prog 64 (.elemP cs off) 1 K = K (.elemP cs (off + 1)) := by
  rw [fa_elem (by rw [fo64_1]; rfl)]; simp only [fo64_1, Option.getD_some, hT4, sz4, true_and]; simp
@[go_sem] theorem fa64_2 : fieldAddrD prog 64 (.addr id off) 2 K = K (.addr id (off + 2)) := by
  rw [fa_addr (by rw [fo64_2]; rfl)]; simp only [fo64_2, Option.getD_some, hT4, sz4, true_and]; simp
@[go_sem] theorem fe64_2 : fieldAddrD prog 64 (.elemP cs off) 2 K = K (.elemP cs (off + 2)) := by
  rw [fa_elem (by rw [fo64_2]; rfl)]; simp only [fo64_2, Option.getD_some, hT4, sz4, true_and]; simp
@[go_sem] theorem fa72_0 : fieldAddrD prog 72 (.addr id off) 0 K = K (.addr id (off + 0)) := by
  rw [fa_addr (by rw [fo72_0]; rfl)]; simp only [fo72_0, Option.getD_some, hT9, sz9, true_and]; simp
@[go_sem] theorem fe72_0 : fieldAddrD prog 72 (.elemP cs off) 0 K = K (.elemP cs (off + 0)) := by
  rw [fa_elem (by rw [fo72_0]; rfl)]; simp only [fo72_0, Option.getD_some, hT9, sz9, true_and]; simp
@[go_sem] theorem fa72_1 : fieldAddrD prog 72 (.addr id off) 1 K = K (.addr id (off + 1)) := by
  rw [fa_addr (by rw [fo72_1]; rfl)]; simp only [fo72_1, Option.getD_some, hT47, sz47, true_and]; simp
@[go_sem] theorem fe72_1 : fieldAddrD prog 72 (.elemP cs off) 1 K = K (.elemP cs (off + 1)) := by
  rw [fa_elem (by rw [fo72_1]; rfl)]; simp only [fo72_1, Option.getD_some, hT47, sz47, true_and]; simp
@[go_sem] theorem ld73 : loadD prog σ 73 (.addr id off) K = ldM (σ id) off K := ldA hT73 ag73
@[go_sem] theorem le73 : loadD prog σ 73 (.elemP cs off) K = (∃ v, cs[off]? = some v ∧ K (.pv v)) := load_elem hT73 ag73
@[go_sem] theorem stp73 : storeD prog σ 73 (.addr id off) (.pv p) KS = stM σ id (σ id) off (.pv p) KS := stA hT73 sz73 rfl rfl
@[go_sem] theorem sta73 {j o : Nat} : storeD prog σ 73 (.addr id off) (.addr j o) KS = stM σ id (σ id) off (.addr j o) KS := stA hT73 sz73 rfl rfl
@[go_sem] theorem fa75_0 : fieldAddrD prog 75 (.addr id off) 0 K = K (.addr id (off + 0)) := by
  rw [fa_addr (by rw [fo75_0]; rfl)]; simp only [fo75_0, Option.getD_some, hT73, sz73, true_and]; simp
@[go_sem] theorem fe75_0 : fieldAddrD prog 75 (.elemP cs off) 0 K = K (.elemP cs (off + 0)) := by
  rw [fa_elem (by rw [fo75_0]; rfl)]; simp only [fo75_0, Option.getD_some, hT73, sz73, true_and]; simp
@[go_sem] theorem fa75_1 : fieldAddrD prog 75 (.addr id off) 1 K = K (.addr id (off + 1)) := by
  rw [fa_addr (by rw [fo75_1]; rfl)]; simp only [fo75_1, Option.getD_some, hT30, sz30, true_and]; simp
@[go_sem] theorem fe75_1 : fieldAddrD prog 75 (.elemP cs off) 1 K = K (.elemP cs (off + 1)) := by
  rw [fa_elem (by rw [fo75_1]; rfl)]; simp only [fo75_1, Option.getD_some, hT30, sz30, true_and]; simp
end Go.AD.T
