import Derived.Test.YtjgjmpophpifgaaGreatDoorM7
import Derived.Test.YtjgjmpophpifgaaGreatDoorM8
set_option linter.unusedVariables false
set_option maxRecDepth 100000
namespace Go.AD.T
open Go.Proofs.Tryz
variable {σ:AS} {id off n size:Nat} {K:AV->Prop} {KS:AS->Prop} {k k2:IntKind} {cs:List PV} {p:PV} {x:List UInt8} {i j:Nat} {z:Int}
@[go_sem] theorem ld0:loadD prog σ 0 (.addr id off) K=ldM (σ id) off K:=ldA hT0 ag0
@[go_sem] theorem le0:loadD prog σ 0 (.elemP cs off) K=(∃ v,cs[off]?=some v/\K (.pv v)):=load_elem hT0 ag0
@[go_sem] theorem stp0:storeD prog σ 0 (.addr id off) (.pv p) KS=stM σ id (σ id) off (.pv p) KS:=stA hT0 sz0 rfl rfl
@[go_sem] theorem ld1:loadD prog σ 1 (.addr id off) K=ldM (σ id) off K:=ldA hT1 ag1
@[go_sem] theorem le1:loadD prog σ 1 (.elemP cs off) K=(∃ v,cs[off]?=some v/\K (.pv v)):=load_elem hT1 ag1
@[go_sem] theorem stp1:storeD prog σ 1 (.addr id off) (.pv p) KS=stM σ id (σ id) off (.pv p) KS:=stA hT1 sz1 rfl rfl
@[go_sem] theorem ld2:loadD prog σ 2 (.addr id off) K=ldM (σ id) off K:=ldA hT2 ag2
@[go_sem] theorem le2:loadD prog σ 2 (.elemP cs off) K=(∃ v,cs[off]?=some v/\K (.pv v)):=load_elem hT2 ag2
@[go_sem] theorem stp2:storeD prog σ 2 (.addr id off) (.pv p) KS=stM σ id (σ id) off (.pv p) KS:=stA hT2 sz2 rfl rfl
@[go_sem] theorem ld3:loadD prog σ 3 (.addr id off) K=ldM (σ id) off K:=ldA hT3 ag3
@[go_sem] theorem le3:loadD prog σ 3 (.elemP cs off) K=(∃ v,cs[off]?=some v/\K (.pv v)):=load_elem hT3 ag3
@[go_sem] theorem stp3:storeD prog σ 3 (.addr id off) (.pv p) KS=stM σ id (σ id) off (.pv p) KS:=stA hT3 sz3 rfl rfl
@[go_sem] theorem ld4:loadD prog σ 4 (.addr id off) K=ldM (σ id) off K:=ldA hT4 ag4
@[go_sem] theorem le4:loadD prog σ 4 (.elemP cs off) K=(∃ v,cs[off]?=some v/\K (.pv v)):=load_elem hT4 ag4
@[go_sem] theorem stp4:storeD prog σ 4 (.addr id off) (.pv p) KS=stM σ id (σ id) off (.pv p) KS:=stA hT4 sz4 rfl rfl
@[go_sem] theorem ld5:loadD prog σ 5 (.addr id off) K=ldM (σ id) off K:=ldA hT5 ag5
@[go_sem] theorem le5:loadD prog σ 5 (.elemP cs off) K=(∃ v,cs[off]?=some v/\K (.pv v)):=load_elem hT5 ag5
@[go_sem] theorem stp5:storeD prog σ 5 (.addr id off) (.pv p) KS=stM σ id (σ id) off (.pv p) KS:=stA hT5 sz5 rfl rfl
@[go_sem] theorem ld6:loadD prog σ 6 (.addr id off) K=ldM (σ id) off K:=ldA hT6 ag6
@[go_sem] theorem le6:loadD prog σ 6 (.elemP cs off) K=(∃ v,cs[off]?=some v/\K (.pv v)):=load_elem hT6 ag6
@[go_sem] theorem stp6:storeD prog σ 6 (.addr id off) (.pv p) KS=stM σ id (σ id) off (.pv p) KS:=stA hT6 sz6 rfl rfl
@[go_sem] theorem fa8_0:fieldAddrD prog 8 (.addr id off) 0 K=K (.addr id (off + 0)):=by
  rw [fa_addr (by rw [fo8_0]; rfl)]; simp only [fo8_0,Option.getD_some,hT2,sz2,true_and]; simp
@[go_sem] theorem fe8_0:fieldAddrD prog 8 (.elemP cs off) 0 K=K (.elemP cs (off + 0)):=by
  rw [fa_elem (by rw [fo8_0]; rfl)]; simp only [fo8_0,Option.getD_some,hT2,sz2,true_and]; simp
@[go_sem] theorem fa8_1:fieldAddrD prog 8 (.addr id off) 1 K=K (.addr id (off + 1)):=by
  rw [fa_addr (by rw [fo8_1]; rfl)]; simp only [fo8_1,Option.getD_some,hT3,sz3,true_and]; simp
@[go_sem] theorem fe8_1:fieldAddrD prog 8 (.elemP cs off) 1 K=K (.elemP cs (off + 1)):=by
  rw [fa_elem (by rw [fo8_1]; rfl)]; simp only [fo8_1,Option.getD_some,hT3,sz3,true_and]; simp
@[go_sem] theorem fa8_2:fieldAddrD prog 8 (.addr id off) 2 K=K (.addr id (off + 2)):=by
  rw [fa_addr (by rw [fo8_2]; rfl)]; simp only [fo8_2,Option.getD_some,hT4,sz4,true_and]; simp
@[go_sem] theorem fe8_2:fieldAddrD prog 8 (.elemP cs off) 2 K=K (.elemP cs (off + 2)):=by
  rw [fa_elem (by rw [fo8_2]; rfl)]; simp only [fo8_2,Option.getD_some,hT4,sz4,true_and]; simp
@[go_sem] theorem fa8_3:fieldAddrD prog 8 (.addr id off) 3 K=K (.addr id (off + 3)):=by
  rw [fa_addr (by rw [fo8_3]; rfl)]; simp only [fo8_3,Option.getD_some,hT6,sz6,true_and]; simp
@[go_sem] theorem fe8_3:fieldAddrD prog 8 (.elemP cs off) 3 K=K (.elemP cs (off + 3)):=by
  rw [fa_elem (by rw [fo8_3]; rfl)]; simp only [fo8_3,Option.getD_some,hT6,sz6,true_and]; simp
@[go_sem] theorem ld9:loadD prog σ 9 (.addr id off) K=ldM (σ id) off K:=ldA hT9 ag9
@[go_sem] theorem le9:loadD prog σ 9 (.elemP cs off) K=(∃ v,cs[off]?=some v/\K (.pv v)):=load_elem hT9 ag9
@[go_sem] theorem stp9:storeD prog σ 9 (.addr id off) (.pv p) KS=stM σ id (σ id) off (.pv p) KS:=stA hT9 sz9 rfl rfl
theorem und9:(prog).underlying 9=some .string:=by kernel_rfl
@[go_sem] theorem ls9:lenD prog 9 (.pv (.str x)) K=K (.pv (.int .i64 x.length)):=len_str und9
theorem is9 (h:i < x.length):indexD prog 9 (.pv (.str x)) (.pv (.int k i)) K=K (.pv (.int .u8 (x.getD i 0).toNat)):=ixS und9 h
theorem ss9 (h:i <= x.length):sliceD prog 9 (.pv (.str x)) (some (.pv (.int k i))) none K=K (.pv (.str (x.drop i))):=slS und9 h
theorem st9 (h:i <= x.length):sliceD prog 9 (.pv (.str x)) none (some (.pv (.int k i))) K=K (.pv (.str (x.take i))):=slS0 und9 h
@[go_sem] theorem ld20:loadD prog σ 20 (.addr id off) K=ldM (σ id) off K:=ldA hT20 ag20
@[go_sem] theorem le20:loadD prog σ 20 (.elemP cs off) K=(∃ v,cs[off]?=some v/\K (.pv v)):=load_elem hT20 ag20
@[go_sem] theorem stp20:storeD prog σ 20 (.addr id off) (.pv p) KS=stM σ id (σ id) off (.pv p) KS:=stA hT20 sz20 rfl rfl
@[go_sem] theorem ld23:loadD prog σ 23 (.addr id off) K=ldM (σ id) off K:=ldA hT23 ag23
@[go_sem] theorem le23:loadD prog σ 23 (.elemP cs off) K=(∃ v,cs[off]?=some v/\K (.pv v)):=load_elem hT23 ag23
@[go_sem] theorem stp23:storeD prog σ 23 (.addr id off) (.pv p) KS=stM σ id (σ id) off (.pv p) KS:=stA hT23 sz23 rfl rfl
@[go_sem] theorem lnl23:lenD prog 23 (.pv (.lst n cs)) K=K (.pv (.int .i64 n)):=len_lst (by rw [el23]; rfl)
@[go_sem] theorem lng23:lenD prog 23 (.grow id n cs) K=K (.pv (.int .i64 n)):=len_grow (by rw [el23]; rfl)
@[go_sem] theorem lnf23:lenD prog 23 (.full n cs) K=K (.pv (.int .i64 n)):=len_full (by rw [el23]; rfl)
@[go_sem] theorem lnm23:lenD prog 23 (.msl id off n size) K=K (.pv (.int .i64 n)):=len_msl (by rw [el23]; rfl)
@[go_sem] theorem lnn23:lenD prog 23 .nilS K=K (.pv (.int .i64 0)):=len_nil (by rw [el23]; rfl)
theorem ixl23 (h:i < n) (hl:cs.length=n * 3):indexAddrD prog 23 (.pv (.lst n cs)) (.pv (.int k i)) K=K (.elemP cs (i * 3)):=by
  rw [ix_lst (by rw [el23]; rfl)]; simp only [el23,Option.getD_some,iS50,sz50,Int.toNat_natCast,true_and]; simp [h,hl]
@[go_sem] theorem ld26:loadD prog σ 26 (.addr id off) K=ldM (σ id) off K:=ldA hT26 ag26
@[go_sem] theorem le26:loadD prog σ 26 (.elemP cs off) K=(∃ v,cs[off]?=some v/\K (.pv v)):=load_elem hT26 ag26
@[go_sem] theorem stp26:storeD prog σ 26 (.addr id off) (.pv p) KS=stM σ id (σ id) off (.pv p) KS:=stA hT26 sz26 rfl rfl
@[go_sem] theorem lnl26:lenD prog 26 (.pv (.lst n cs)) K=K (.pv (.int .i64 n)):=len_lst (by rw [el26]; rfl)
@[go_sem] theorem lng26:lenD prog 26 (.grow id n cs) K=K (.pv (.int .i64 n)):=len_grow (by rw [el26]; rfl)
@[go_sem] theorem lnf26:lenD prog 26 (.full n cs) K=K (.pv (.int .i64 n)):=len_full (by rw [el26]; rfl)
@[go_sem] theorem lnm26:lenD prog 26 (.msl id off n size) K=K (.pv (.int .i64 n)):=len_msl (by rw [el26]; rfl)
@[go_sem] theorem lnn26:lenD prog 26 .nilS K=K (.pv (.int .i64 0)):=len_nil (by rw [el26]; rfl)
theorem ixl26 (h:i < n) (hl:cs.length=n * 1):indexAddrD prog 26 (.pv (.lst n cs)) (.pv (.int k i)) K=K (.elemP cs (i * 1)):=by
  rw [ix_lst (by rw [el26]; rfl)]; simp only [el26,Option.getD_some,iS9,sz9,Int.toNat_natCast,true_and]; simp [h,hl]
@[go_sem] theorem fa28_0:fieldAddrD prog 28 (.addr id off) 0 K=K (.addr id (off + 0)):=by
  rw [fa_addr (by rw [fo28_0]; rfl)]; simp only [fo28_0,Option.getD_some,hT26,sz26,true_and]; simp
@[go_sem] theorem fe28_0:fieldAddrD prog 28 (.elemP cs off) 0 K=K (.elemP cs (off + 0)):=by
  rw [fa_elem (by rw [fo28_0]; rfl)]; simp only [fo28_0,Option.getD_some,hT26,sz26,true_and]; simp
@[go_sem] theorem fa28_1:fieldAddrD prog 28 (.addr id off) 1 K=K (.addr id (off + 1)):=by
  rw [fa_addr (by rw [fo28_1]; rfl)]; simp only [fo28_1,Option.getD_some,hT26,sz26,true_and]; simp
@[go_sem] theorem fe28_1:fieldAddrD prog 28 (.elemP cs off) 1 K=K (.elemP cs (off + 1)):=by
  rw [fa_elem (by rw [fo28_1]; rfl)]; simp only [fo28_1,Option.getD_some,hT26,sz26,true_and]; simp
@[go_sem] theorem fa28_2:fieldAddrD prog 28 (.addr id off) 2 K=K (.addr id (off + 2)):=by
  rw [fa_addr (by rw [fo28_2]; rfl)]; simp only [fo28_2,Option.getD_some,hT26,sz26,true_and]; simp
@[go_sem] theorem fe28_2:fieldAddrD prog 28 (.elemP cs off) 2 K=K (.elemP cs (off + 2)):=by
  rw [fa_elem (by rw [fo28_2]; rfl)]; simp only [fo28_2,Option.getD_some,hT26,sz26,true_and]; simp
@[go_sem] theorem fa28_3:fieldAddrD prog 28 (.addr id off) 3 K=K (.addr id (off + 3)):=by
  rw [fa_addr (by rw [fo28_3]; rfl)]; simp only [fo28_3,Option.getD_some,hT26,sz26,true_and]; simp
@[go_sem] theorem fe28_3:fieldAddrD prog 28 (.elemP cs off) 3 K=K (.elemP cs (off + 3)):=by
  rw [fa_elem (by rw [fo28_3]; rfl)]; simp only [fo28_3,Option.getD_some,hT26,sz26,true_and]; simp
@[go_sem] theorem ld33:loadD prog σ 33 (.addr id off) K=ldM (σ id) off K:=ldA hT33 ag33
@[go_sem] theorem le33:loadD prog σ 33 (.elemP cs off) K=(∃ v,cs[off]?=some v/\K (.pv v)):=load_elem hT33 ag33
@[go_sem] theorem stp33:storeD prog σ 33 (.addr id off) (.pv p) KS=stM σ id (σ id) off (.pv p) KS:=stA hT33 sz33 rfl rfl
@[go_sem] theorem ld34:loadD prog σ 34 (.addr id off) K=ldM (σ id) off K:=ldA hT34 ag34
@[go_sem] theorem le34:loadD prog σ 34 (.elemP cs off) K=(∃ v,cs[off]?=some v/\K (.pv v)):=load_elem hT34 ag34
@[go_sem] theorem stp34:storeD prog σ 34 (.addr id off) (.pv p) KS=stM σ id (σ id) off (.pv p) KS:=stA hT34 sz34 rfl rfl
@[go_sem] theorem lnl34:lenD prog 34 (.pv (.lst n cs)) K=K (.pv (.int .i64 n)):=len_lst (by rw [el34]; rfl)
@[go_sem] theorem lng34:lenD prog 34 (.grow id n cs) K=K (.pv (.int .i64 n)):=len_grow (by rw [el34]; rfl)
@[go_sem] theorem lnf34:lenD prog 34 (.full n cs) K=K (.pv (.int .i64 n)):=len_full (by rw [el34]; rfl)
@[go_sem] theorem lnm34:lenD prog 34 (.msl id off n size) K=K (.pv (.int .i64 n)):=len_msl (by rw [el34]; rfl)
@[go_sem] theorem lnn34:lenD prog 34 .nilS K=K (.pv (.int .i64 0)):=len_nil (by rw [el34]; rfl)
theorem ixm34 (h:i < n):indexAddrD prog 34 (.msl id off n size) (.pv (.int k i)) K=K (.addr id (off + i * 1)):=by
  rw [ix_msl (by rw [el34]; rfl)]; simp only [el34,Option.getD_some,iS26,sz26,Int.toNat_natCast,true_and]; simp [h]
theorem ixv34 {v:AV} (hv:toPV v=some (.lst n cs)) (h:i < n) (hl:cs.length=n * 1) (hK:K (.elemP cs (i * 1))):indexAddrD prog 34 v (.pv (.int k i)) K:=by
  refine ix_of (by rw [el34]; rfl) hv (by rw [el34]; exact iS26) (by rw [el34,Option.getD_some,sz26,hl]; exact Nat.le_refl _) (by rw [el34,Option.getD_some,sz26]; decide) (by omega) (by omega) ?_
  rw [el34,Option.getD_some,sz26,Int.toNat_natCast]; exact hK
@[go_sem] theorem ld37:loadD prog σ 37 (.addr id off) K=ldM (σ id) off K:=ldA hT37 ag37
@[go_sem] theorem le37:loadD prog σ 37 (.elemP cs off) K=(∃ v,cs[off]?=some v/\K (.pv v)):=load_elem hT37 ag37
@[go_sem] theorem stp37:storeD prog σ 37 (.addr id off) (.pv p) KS=stM σ id (σ id) off (.pv p) KS:=stA hT37 sz37 rfl rfl
@[go_sem] theorem ld38:loadD prog σ 38 (.addr id off) K=ldM (σ id) off K:=ldA hT38 ag38
@[go_sem] theorem le38:loadD prog σ 38 (.elemP cs off) K=(∃ v,cs[off]?=some v/\K (.pv v)):=load_elem hT38 ag38
@[go_sem] theorem stp38:storeD prog σ 38 (.addr id off) (.pv p) KS=stM σ id (σ id) off (.pv p) KS:=stA hT38 sz38 rfl rfl
@[go_sem] theorem lnl38:lenD prog 38 (.pv (.lst n cs)) K=K (.pv (.int .i64 n)):=len_lst (by rw [el38]; rfl)
@[go_sem] theorem lng38:lenD prog 38 (.grow id n cs) K=K (.pv (.int .i64 n)):=len_grow (by rw [el38]; rfl)
@[go_sem] theorem lnf38:lenD prog 38 (.full n cs) K=K (.pv (.int .i64 n)):=len_full (by rw [el38]; rfl)
@[go_sem] theorem lnm38:lenD prog 38 (.msl id off n size) K=K (.pv (.int .i64 n)):=len_msl (by rw [el38]; rfl)
@[go_sem] theorem lnn38:lenD prog 38 .nilS K=K (.pv (.int .i64 0)):=len_nil (by rw [el38]; rfl)
@[go_sem] theorem ld41:loadD prog σ 41 (.addr id off) K=ldM (σ id) off K:=ldA hT41 ag41
@[go_sem] theorem le41:loadD prog σ 41 (.elemP cs off) K=(∃ v,cs[off]?=some v/\K (.pv v)):=load_elem hT41 ag41
@[go_sem] theorem stp41:storeD prog σ 41 (.addr id off) (.pv p) KS=stM σ id (σ id) off (.pv p) KS:=stA hT41 sz41 rfl rfl
@[go_sem] theorem ld42:loadD prog σ 42 (.addr id off) K=ldM (σ id) off K:=ldA hT42 ag42
@[go_sem] theorem le42:loadD prog σ 42 (.elemP cs off) K=(∃ v,cs[off]?=some v/\K (.pv v)):=load_elem hT42 ag42
@[go_sem] theorem stp42:storeD prog σ 42 (.addr id off) (.pv p) KS=stM σ id (σ id) off (.pv p) KS:=stA hT42 sz42 rfl rfl
theorem stv42 {v:AV} (hv:v.cells=[v]) (h2:v.cellOk=true):storeD prog σ 42 (.addr id off) v KS=stM σ id (σ id) off v KS:=stA hT42 sz42 hv h2
@[go_sem] theorem lnl42:lenD prog 42 (.pv (.lst n cs)) K=K (.pv (.int .i64 n)):=len_lst (by rw [el42]; rfl)
@[go_sem] theorem lng42:lenD prog 42 (.grow id n cs) K=K (.pv (.int .i64 n)):=len_grow (by rw [el42]; rfl)
@[go_sem] theorem lnf42:lenD prog 42 (.full n cs) K=K (.pv (.int .i64 n)):=len_full (by rw [el42]; rfl)
@[go_sem] theorem lnm42:lenD prog 42 (.msl id off n size) K=K (.pv (.int .i64 n)):=len_msl (by rw [el42]; rfl)
@[go_sem] theorem lnn42:lenD prog 42 .nilS K=K (.pv (.int .i64 0)):=len_nil (by rw [el42]; rfl)
theorem lnv42 {v:AV} (h:toPV v=some (.lst n cs)):lenD prog 42 v K=K (.pv (.int .i64 n)):=len_of (by rw [el42]; rfl) h
theorem ixl42 (h:i < n) (hl:cs.length=n * 2):indexAddrD prog 42 (.pv (.lst n cs)) (.pv (.int k i)) K=K (.elemP cs (i * 2)):=by
  rw [ix_lst (by rw [el42]; rfl)]; simp only [el42,Option.getD_some,iS53,sz53,Int.toNat_natCast,true_and]; simp [h,hl]
@[go_sem] theorem fa50_0:fieldAddrD prog 50 (.addr id off) 0 K=K (.addr id (off + 0)):=by
  rw [fa_addr (by rw [fo50_0]; rfl)]; simp only [fo50_0,Option.getD_some,hT9,sz9,true_and]; simp
@[go_sem] theorem fe50_0:fieldAddrD prog 50 (.elemP cs off) 0 K=K (.elemP cs (off + 0)):=by
  rw [fa_elem (by rw [fo50_0]; rfl)]; simp only [fo50_0,Option.getD_some,hT9,sz9,true_and]; simp
@[go_sem] theorem fa50_1:fieldAddrD prog 50 (.addr id off) 1 K=K (.addr id (off + 1)):=by
  rw [fa_addr (by rw [fo50_1]; rfl)]; simp only [fo50_1,Option.getD_some,hT9,sz9,true_and]; simp
@[go_sem] theorem fe50_1:fieldAddrD prog 50 (.elemP cs off) 1 K=K (.elemP cs (off + 1)):=by
  rw [fa_elem (by rw [fo50_1]; rfl)]; simp only [fo50_1,Option.getD_some,hT9,sz9,true_and]; simp
@[go_sem] theorem fa50_2:fieldAddrD prog 50 (.addr id off) 2 K=K (.addr id (off + 2)):=by
  rw [fa_addr (by rw [fo50_2]; rfl)]; simp only [fo50_2,Option.getD_some,hT23,sz23,true_and]; simp
@[go_sem] theorem fe50_2:fieldAddrD prog 50 (.elemP cs off) 2 K=K (.elemP cs (off + 2)):=by
  rw [fa_elem (by rw [fo50_2]; rfl)]; simp only [fo50_2,Option.getD_some,hT23,sz23,true_and]; simp
@[go_sem] theorem fa53_0:fieldAddrD prog 53 (.addr id off) 0 K=K (.addr id (off + 0)):=by
  rw [fa_addr (by rw [fo53_0]; rfl)]; simp only [fo53_0,Option.getD_some,hT9,sz9,true_and]; simp
@[go_sem] theorem fe53_0:fieldAddrD prog 53 (.elemP cs off) 0 K=K (.elemP cs (off + 0)):=by
  rw [fa_elem (by rw [fo53_0]; rfl)]; simp only [fo53_0,Option.getD_some,hT9,sz9,true_and]; simp
@[go_sem] theorem fa53_1:fieldAddrD prog 53 (.addr id off) 1 K=K (.addr id (off + 1)):=by
  rw [fa_addr (by rw [fo53_1]; rfl)]; simp only [fo53_1,Option.getD_some,hT9,sz9,true_and]; simp
@[go_sem] theorem fe53_1:fieldAddrD prog 53 (.elemP cs off) 1 K=K (.elemP cs (off + 1)):=by
  rw [fa_elem (by rw [fo53_1]; rfl)]; simp only [fo53_1,Option.getD_some,hT9,sz9,true_and]; simp
@[go_sem] theorem ld56:loadD prog σ 56 (.addr id off) K=ldM (σ id) off K:=ldA hT56 ag56
@[go_sem] theorem le56:loadD prog σ 56 (.elemP cs off) K=(∃ v,cs[off]?=some v/\K (.pv v)):=load_elem hT56 ag56
@[go_sem] theorem stp56:storeD prog σ 56 (.addr id off) (.pv p) KS=stM σ id (σ id) off (.pv p) KS:=stA hT56 sz56 rfl rfl
@[go_sem] theorem ld57:loadD prog σ 57 (.addr id off) K=ldM (σ id) off K:=ldA hT57 ag57
@[go_sem] theorem le57:loadD prog σ 57 (.elemP cs off) K=(∃ v,cs[off]?=some v/\K (.pv v)):=load_elem hT57 ag57
@[go_sem] theorem stp57:storeD prog σ 57 (.addr id off) (.pv p) KS=stM σ id (σ id) off (.pv p) KS:=stA hT57 sz57 rfl rfl
@[go_sem] theorem fa59_0:fieldAddrD prog 59 (.addr id off) 0 K=K (.addr id (off + 0)):=by
  rw [fa_addr (by rw [fo59_0]; rfl)]; simp only [fo59_0,Option.getD_some,hT56,sz56,true_and]; simp
@[go_sem] theorem fe59_0:fieldAddrD prog 59 (.elemP cs off) 0 K=K (.elemP cs (off + 0)):=by
  rw [fa_elem (by rw [fo59_0]; rfl)]; simp only [fo59_0,Option.getD_some,hT56,sz56,true_and]; simp
@[go_sem] theorem fa59_1:fieldAddrD prog 59 (.addr id off) 1 K=K (.addr id (off + 1)):=by
  rw [fa_addr (by rw [fo59_1]; rfl)]; simp only [fo59_1,Option.getD_some,hT57,sz57,true_and]; simp
@[go_sem] theorem fe59_1:fieldAddrD prog 59 (.elemP cs off) 1 K=K (.elemP cs (off + 1)):=by
  rw [fa_elem (by rw [fo59_1]; rfl)]; simp only [fo59_1,Option.getD_some,hT57,sz57,true_and]; simp
@[go_sem] theorem fa59_2:fieldAddrD prog 59 (.addr id off) 2 K=K (.addr id (off + 2)):=by
  rw [fa_addr (by rw [fo59_2]; rfl)]; simp only [fo59_2,Option.getD_some,hT4,sz4,true_and]; simp
@[go_sem] theorem fe59_2:fieldAddrD prog 59 (.elemP cs off) 2 K=K (.elemP cs (off + 2)):=by
  rw [fa_elem (by rw [fo59_2]; rfl)]; simp only [fo59_2,Option.getD_some,hT4,sz4,true_and]; simp
@[go_sem] theorem ld62:loadD prog σ 62 (.addr id off) K=ldM (σ id) off K:=ldA hT62 ag62
@[go_sem] theorem le62:loadD prog σ 62 (.elemP cs off) K=(∃ v,cs[off]?=some v/\K (.pv v)):=load_elem hT62 ag62
@[go_sem] theorem stp62:storeD prog σ 62 (.addr id off) (.pv p) KS=stM σ id (σ id) off (.pv p) KS:=stA hT62 sz62 rfl rfl
theorem stv62 {v:AV} (hv:v.cells=[v]) (h2:v.cellOk=true):storeD prog σ 62 (.addr id off) v KS=stM σ id (σ id) off v KS:=stA hT62 sz62 hv h2
@[go_sem] theorem lnl62:lenD prog 62 (.pv (.lst n cs)) K=K (.pv (.int .i64 n)):=len_lst (by rw [el62]; rfl)
@[go_sem] theorem lng62:lenD prog 62 (.grow id n cs) K=K (.pv (.int .i64 n)):=len_grow (by rw [el62]; rfl)
@[go_sem] theorem lnf62:lenD prog 62 (.full n cs) K=K (.pv (.int .i64 n)):=len_full (by rw [el62]; rfl)
@[go_sem] theorem lnm62:lenD prog 62 (.msl id off n size) K=K (.pv (.int .i64 n)):=len_msl (by rw [el62]; rfl)
@[go_sem] theorem lnn62:lenD prog 62 .nilS K=K (.pv (.int .i64 0)):=len_nil (by rw [el62]; rfl)
theorem ixm62 (h:i < n):indexAddrD prog 62 (.msl id off n size) (.pv (.int k i)) K=K (.addr id (off + i * 1)):=by
  rw [ix_msl (by rw [el62]; rfl)]; simp only [el62,Option.getD_some,iS63,sz63,Int.toNat_natCast,true_and]; simp [h]
@[go_sem] theorem ld63:loadD prog σ 63 (.addr id off) K=ldM (σ id) off K:=ldA hT63 ag63
@[go_sem] theorem le63:loadD prog σ 63 (.elemP cs off) K=(∃ v,cs[off]?=some v/\K (.pv v)):=load_elem hT63 ag63
@[go_sem] theorem stp63:storeD prog σ 63 (.addr id off) (.pv p) KS=stM σ id (σ id) off (.pv p) KS:=stA hT63 sz63 rfl rfl
@[go_sem] theorem sta63 {j o:Nat}:storeD prog σ 63 (.addr id off) (.addr j o) KS=stM σ id (σ id) off (.addr j o) KS:=stA hT63 sz63 rfl rfl
@[go_sem] theorem fa65_0:fieldAddrD prog 65 (.addr id off) 0 K=K (.addr id (off + 0)):=by
  rw [fa_addr (by rw [fo65_0]; rfl)]; simp only [fo65_0,Option.getD_some,hT9,sz9,true_and]; simp
@[go_sem] theorem fe65_0:fieldAddrD prog 65 (.elemP cs off) 0 K=K (.elemP cs (off + 0)):=by
  rw [fa_elem (by rw [fo65_0]; rfl)]; simp only [fo65_0,Option.getD_some,hT9,sz9,true_and]; simp
@[go_sem] theorem fa65_1:fieldAddrD prog 65 (.addr id off) 1 K=K (.addr id (off + 1)):=by
  rw [fa_addr (by rw [fo65_1]; rfl)]; simp only [fo65_1,Option.getD_some,hT4,sz4,true_and]; simp
@[go_sem] theorem fe65_1:fieldAddrD prog 65 (.elemP cs off) 1 K=K (.elemP cs (off + 1)):=by
  rw [fa_elem (by rw [fo65_1]; rfl)]; simp only [fo65_1,Option.getD_some,hT4,sz4,true_and]; simp
@[go_sem] theorem fa65_2:fieldAddrD prog 65 (.addr id off) 2 K=K (.addr id (off + 2)):=by
  rw [fa_addr (by rw [fo65_2]; rfl)]; simp only [fo65_2,Option.getD_some,hT4,sz4,true_and]; simp
@[go_sem] theorem fe65_2:fieldAddrD prog 65 (.elemP cs off) 2 K=K (.elemP cs (off + 2)):=by
  rw [fa_elem (by rw [fo65_2]; rfl)]; simp only [fo65_2,Option.getD_some,hT4,sz4,true_and]; simp
@[go_sem] theorem fa65_3:fieldAddrD prog 65 (.addr id off) 3 K=K (.addr id (off + 3)):=by
  rw [fa_addr (by rw [fo65_3]; rfl)]; simp only [fo65_3,Option.getD_some,hT62,sz62,true_and]; simp
@[go_sem] theorem fe65_3:fieldAddrD prog 65 (.elemP cs off) 3 K=K (.elemP cs (off + 3)):=by
  rw [fa_elem (by rw [fo65_3]; rfl)]; simp only [fo65_3,Option.getD_some,hT62,sz62,true_and]; simp
@[go_sem] theorem ld83:loadD prog σ 83 (.addr id off) K=ldM (σ id) off K:=ldA hT83 ag83
@[go_sem] theorem le83:loadD prog σ 83 (.elemP cs off) K=(∃ v,cs[off]?=some v/\K (.pv v)):=load_elem hT83 ag83
@[go_sem] theorem stp83:storeD prog σ 83 (.addr id off) (.pv p) KS=stM σ id (σ id) off (.pv p) KS:=stA hT83 sz83 rfl rfl
@[go_sem] theorem sta83 {j o:Nat}:storeD prog σ 83 (.addr id off) (.addr j o) KS=stM σ id (σ id) off (.addr j o) KS:=stA hT83 sz83 rfl rfl
@[go_sem] theorem fa85_0:fieldAddrD prog 85 (.addr id off) 0 K=K (.addr id (off + 0)):=by
  rw [fa_addr (by rw [fo85_0]; rfl)]; simp only [fo85_0,Option.getD_some,hT42,sz42,true_and]; simp
@[go_sem] theorem fe85_0:fieldAddrD prog 85 (.elemP cs off) 0 K=K (.elemP cs (off + 0)):=by
  rw [fa_elem (by rw [fo85_0]; rfl)]; simp only [fo85_0,Option.getD_some,hT42,sz42,true_and]; simp
@[go_sem] theorem fa89_0:fieldAddrD prog 89 (.addr id off) 0 K=K (.addr id (off + 0)):=by
  rw [fa_addr (by rw [fo89_0]; rfl)]; simp only [fo89_0,Option.getD_some,hT4,sz4,true_and]; simp
@[go_sem] theorem fe89_0:fieldAddrD prog 89 (.elemP cs off) 0 K=K (.elemP cs (off + 0)):=by
  rw [fa_elem (by rw [fo89_0]; rfl)]; simp only [fo89_0,Option.getD_some,hT4,sz4,true_and]; simp
@[go_sem] theorem fa89_1:fieldAddrD prog 89 (.addr id off) 1 K=K (.addr id (off + 1)):=by
  rw [fa_addr (by rw [fo89_1]; rfl)]; simp only [fo89_1,Option.getD_some,hT4,sz4,true_and]; simp
@[go_sem] theorem fe89_1:fieldAddrD prog 89 (.elemP cs off) 1 K=K (.elemP cs (off + 1)):=by
  rw [fa_elem (by rw [fo89_1]; rfl)]; simp only [fo89_1,Option.getD_some,hT4,sz4,true_and]; simp
@[go_sem] theorem fa89_2:fieldAddrD prog 89 (.addr id off) 2 K=K (.addr id (off + 2)):=by
  rw [fa_addr (by rw [fo89_2]; rfl)]; simp only [fo89_2,Option.getD_some,hT4,sz4,true_and]; simp
@[go_sem] theorem fe89_2:fieldAddrD prog 89 (.elemP cs off) 2 K=K (.elemP cs (off + 2)):=by
  rw [fa_elem (by rw [fo89_2]; rfl)]; simp only [fo89_2,Option.getD_some,hT4,sz4,true_and]; simp
@[go_sem] theorem fa91_0:fieldAddrD prog 91 (.addr id off) 0 K=K (.addr id (off + 0)):=by
  rw [fa_addr (by rw [fo91_0]; rfl)]; simp only [fo91_0,Option.getD_some,hT9,sz9,true_and]; simp
@[go_sem] theorem fe91_0:fieldAddrD prog 91 (.elemP cs off) 0 K=K (.elemP cs (off + 0)):=by
  rw [fa_elem (by rw [fo91_0]; rfl)]; simp only [fo91_0,Option.getD_some,hT9,sz9,true_and]; simp
@[go_sem] theorem fa91_1:fieldAddrD prog 91 (.addr id off) 1 K=K (.addr id (off + 1)):=by
  rw [fa_addr (by rw [fo91_1]; rfl)]; simp only [fo91_1,Option.getD_some,hT9,sz9,true_and]; simp
@[go_sem] theorem fe91_1:fieldAddrD prog 91 (.elemP cs off) 1 K=K (.elemP cs (off + 1)):=by
  rw [fa_elem (by rw [fo91_1]; rfl)]; simp only [fo91_1,Option.getD_some,hT9,sz9,true_and]; simp
@[go_sem] theorem ld92:loadD prog σ 92 (.addr id off) K=ldM (σ id) off K:=ldA hT92 ag92
@[go_sem] theorem le92:loadD prog σ 92 (.elemP cs off) K=(∃ v,cs[off]?=some v/\K (.pv v)):=load_elem hT92 ag92
@[go_sem] theorem stp92:storeD prog σ 92 (.addr id off) (.pv p) KS=stM σ id (σ id) off (.pv p) KS:=stA hT92 sz92 rfl rfl
theorem stv92 {v:AV} (hv:v.cells=[v]) (h2:v.cellOk=true):storeD prog σ 92 (.addr id off) v KS=stM σ id (σ id) off v KS:=stA hT92 sz92 hv h2
@[go_sem] theorem lnl92:lenD prog 92 (.pv (.lst n cs)) K=K (.pv (.int .i64 n)):=len_lst (by rw [el92]; rfl)
@[go_sem] theorem lng92:lenD prog 92 (.grow id n cs) K=K (.pv (.int .i64 n)):=len_grow (by rw [el92]; rfl)
@[go_sem] theorem lnf92:lenD prog 92 (.full n cs) K=K (.pv (.int .i64 n)):=len_full (by rw [el92]; rfl)
@[go_sem] theorem lnm92:lenD prog 92 (.msl id off n size) K=K (.pv (.int .i64 n)):=len_msl (by rw [el92]; rfl)
@[go_sem] theorem lnn92:lenD prog 92 .nilS K=K (.pv (.int .i64 0)):=len_nil (by rw [el92]; rfl)
theorem lnv92 {v:AV} (h:toPV v=some (.lst n cs)):lenD prog 92 v K=K (.pv (.int .i64 n)):=len_of (by rw [el92]; rfl) h
theorem ixv92 {v:AV} (hv:toPV v=some (.lst n cs)) (h:i < n) (hl:cs.length=n * 1) (hK:K (.elemP cs (i * 1))):indexAddrD prog 92 v (.pv (.int k i)) K:=by
  refine ix_of (by rw [el92]; rfl) hv (by rw [el92]; exact iS5) (by rw [el92,Option.getD_some,sz5,hl]; exact Nat.le_refl _) (by rw [el92,Option.getD_some,sz5]; decide) (by omega) (by omega) ?_
  rw [el92,Option.getD_some,sz5,Int.toNat_natCast]; exact hK
@[go_sem] theorem ld94:loadD prog σ 94 (.addr id off) K=ldM (σ id) off K:=ldA hT94 ag94
@[go_sem] theorem le94:loadD prog σ 94 (.elemP cs off) K=(∃ v,cs[off]?=some v/\K (.pv v)):=load_elem hT94 ag94
@[go_sem] theorem stp94:storeD prog σ 94 (.addr id off) (.pv p) KS=stM σ id (σ id) off (.pv p) KS:=stA hT94 sz94 rfl rfl
@[go_sem] theorem fa96_0:fieldAddrD prog 96 (.addr id off) 0 K=K (.addr id (off + 0)):=by
  rw [fa_addr (by rw [fo96_0]; rfl)]; simp only [fo96_0,Option.getD_some,hT94,sz94,true_and]; simp
@[go_sem] theorem fe96_0:fieldAddrD prog 96 (.elemP cs off) 0 K=K (.elemP cs (off + 0)):=by
  rw [fa_elem (by rw [fo96_0]; rfl)]; simp only [fo96_0,Option.getD_some,hT94,sz94,true_and]; simp
@[go_sem] theorem fa96_1:fieldAddrD prog 96 (.addr id off) 1 K=K (.addr id (off + 1)):=by
  rw [fa_addr (by rw [fo96_1]; rfl)]; simp only [fo96_1,Option.getD_some,hT33,sz33,true_and]; simp
@[go_sem] theorem fe96_1:fieldAddrD prog 96 (.elemP cs off) 1 K=K (.elemP cs (off + 1)):=by
  rw [fa_elem (by rw [fo96_1]; rfl)]; simp only [fo96_1,Option.getD_some,hT33,sz33,true_and]; simp
@[go_sem] theorem fa96_2:fieldAddrD prog 96 (.addr id off) 2 K=K (.addr id (off + 2)):=by
  rw [fa_addr (by rw [fo96_2]; rfl)]; simp only [fo96_2,Option.getD_some,hT4,sz4,true_and]; simp
@[go_sem] theorem fe96_2:fieldAddrD prog 96 (.elemP cs off) 2 K=K (.elemP cs (off + 2)):=by
  rw [fa_elem (by rw [fo96_2]; rfl)]; simp only [fo96_2,Option.getD_some,hT4,sz4,true_and]; simp
@[go_sem] theorem fa123_0:fieldAddrD prog 123 (.addr id off) 0 K=K (.addr id (off + 0)):=by
  rw [fa_addr (by rw [fo123_0]; rfl)]; simp only [fo123_0,Option.getD_some,hT9,sz9,true_and]; simp
@[go_sem] theorem fe123_0:fieldAddrD prog 123 (.elemP cs off) 0 K=K (.elemP cs (off + 0)):=by
  rw [fa_elem (by rw [fo123_0]; rfl)]; simp only [fo123_0,Option.getD_some,hT9,sz9,true_and]; simp
@[go_sem] theorem fa123_1:fieldAddrD prog 123 (.addr id off) 1 K=K (.addr id (off + 1)):=by
  rw [fa_addr (by rw [fo123_1]; rfl)]; simp only [fo123_1,Option.getD_some,hT42,sz42,true_and]; simp
@[go_sem] theorem fe123_1:fieldAddrD prog 123 (.elemP cs off) 1 K=K (.elemP cs (off + 1)):=by
  rw [fa_elem (by rw [fo123_1]; rfl)]; simp only [fo123_1,Option.getD_some,hT42,sz42,true_and]; simp
@[go_sem] theorem fa131_0:fieldAddrD prog 131 (.addr id off) 0 K=K (.addr id (off + 0)):=by
  rw [fa_addr (by rw [fo131_0]; rfl)]; simp only [fo131_0,Option.getD_some,hT9,sz9,true_and]; simp
@[go_sem] theorem fe131_0:fieldAddrD prog 131 (.elemP cs off) 0 K=K (.elemP cs (off + 0)):=by
  rw [fa_elem (by rw [fo131_0]; rfl)]; simp only [fo131_0,Option.getD_some,hT9,sz9,true_and]; simp
@[go_sem] theorem fa131_1:fieldAddrD prog 131 (.addr id off) 1 K=K (.addr id (off + 1)):=by
  rw [fa_addr (by rw [fo131_1]; rfl)]; simp only [fo131_1,Option.getD_some,hT50,sz50,true_and]; simp
@[go_sem] theorem fe131_1:fieldAddrD prog 131 (.elemP cs off) 1 K=K (.elemP cs (off + 1)):=by
  rw [fa_elem (by rw [fo131_1]; rfl)]; simp only [fo131_1,Option.getD_some,hT50,sz50,true_and]; simp
@[go_sem] theorem fa131_2:fieldAddrD prog 131 (.addr id off) 2 K=K (.addr id (off + 4)):=by
  rw [fa_addr (by rw [fo131_2]; rfl)]; simp only [fo131_2,Option.getD_some,hT23,sz23,true_and]; simp
@[go_sem] theorem fe131_2:fieldAddrD prog 131 (.elemP cs off) 2 K=K (.elemP cs (off + 4)):=by
  rw [fa_elem (by rw [fo131_2]; rfl)]; simp only [fo131_2,Option.getD_some,hT23,sz23,true_and]; simp
@[go_sem] theorem ld154:loadD prog σ 154 (.addr id off) K=ldM (σ id) off K:=ldA hT154 ag154
@[go_sem] theorem le154:loadD prog σ 154 (.elemP cs off) K=(∃ v,cs[off]?=some v/\K (.pv v)):=load_elem hT154 ag154
@[go_sem] theorem stp154:storeD prog σ 154 (.addr id off) (.pv p) KS=stM σ id (σ id) off (.pv p) KS:=stA hT154 sz154 rfl rfl
@[go_sem] theorem ld171:loadD prog σ 171 (.addr id off) K=ldM (σ id) off K:=ldA hT171 ag171
@[go_sem] theorem le171:loadD prog σ 171 (.elemP cs off) K=(∃ v,cs[off]?=some v/\K (.pv v)):=load_elem hT171 ag171
@[go_sem] theorem stp171:storeD prog σ 171 (.addr id off) (.pv p) KS=stM σ id (σ id) off (.pv p) KS:=stA hT171 sz171 rfl rfl
@[go_sem] theorem sta171 {j o:Nat}:storeD prog σ 171 (.addr id off) (.addr j o) KS=stM σ id (σ id) off (.addr j o) KS:=stA hT171 sz171 rfl rfl
@[go_sem] theorem fa173_0:fieldAddrD prog 173 (.addr id off) 0 K=K (.addr id (off + 0)):=by
  rw [fa_addr (by rw [fo173_0]; rfl)]; simp only [fo173_0,Option.getD_some,hT171,sz171,true_and]; simp
@[go_sem] theorem fe173_0:fieldAddrD prog 173 (.elemP cs off) 0 K=K (.elemP cs (off + 0)):=by
  rw [fa_elem (by rw [fo173_0]; rfl)]; simp only [fo173_0,Option.getD_some,hT171,sz171,true_and]; simp
@[go_sem] theorem fa173_1:fieldAddrD prog 173 (.addr id off) 1 K=K (.addr id (off + 1)):=by
  rw [fa_addr (by rw [fo173_1]; rfl)]; simp only [fo173_1,Option.getD_some,hT92,sz92,true_and]; simp
@[go_sem] theorem fe173_1:fieldAddrD prog 173 (.elemP cs off) 1 K=K (.elemP cs (off + 1)):=by
  rw [fa_elem (by rw [fo173_1]; rfl)]; simp only [fo173_1,Option.getD_some,hT92,sz92,true_and]; simp
@[go_sem] theorem ld178:loadD prog σ 178 (.addr id off) K=ldM (σ id) off K:=ldA hT178 ag178
@[go_sem] theorem le178:loadD prog σ 178 (.elemP cs off) K=(∃ v,cs[off]?=some v/\K (.pv v)):=load_elem hT178 ag178
@[go_sem] theorem stp178:storeD prog σ 178 (.addr id off) (.pv p) KS=stM σ id (σ id) off (.pv p) KS:=stA hT178 sz178 rfl rfl
end Go.AD.T

set_option linter.unusedVariables false
namespace Go.AD
abbrev Objs:=List (Nat × AObj)
structure Sep (σ0 σ:AS) (l:Objs):Prop where
  sub:σ0.sub σ
  nodup:(l.map (·.1)).Nodup
  new:∀ p ∈ l,σ0 p.1=none
  here:∀ p ∈ l,σ p.1=some p.2
section
variable {σ0 σ:AS} {i:Nat} {o o':AObj} {l l':Objs}
theorem Sep.start (σ:AS):Sep σ σ []:=⟨sub_refl σ,by simp,by simp,by simp⟩
theorem Sep.get (h:Sep σ0 σ l) (hi:(i,o) ∈ l):σ i=some o:=h.here _ hi
theorem Sep.free (h:Sep σ0 σ l) (hi:σ i=none):σ0 i=none/\i ∉ l.map (·.1):=by
  constructor
  · cases e:σ0 i with
    | none=>rfl
    | some o=>rw [h.sub _ _ e] at hi; cases hi
  · intro hm
    obtain ⟨p,hp,rfl⟩:=List.mem_map.1 hm
    rw [h.here p hp] at hi; cases hi
theorem Sep.alloc (h:Sep σ0 σ l) (hi:σ i=none) (o:AObj):Sep σ0 (σ.set i o) ((i,o) :: l):=by
  obtain ⟨h0,hm⟩:=h.free hi
  refine ⟨h.sub.trans (sub_set _ hi),by simp only [List.map_cons,List.nodup_cons]; exact ⟨hm,h.nodup⟩,?_,?_⟩
  · intro p hp
    rcases List.mem_cons.1 hp with rfl | hp
    · exact h0
    · exact h.new p hp
  · intro p hp
    rcases List.mem_cons.1 hp with rfl | hp
    · exact set_same _ _ _
    · have:p.1 ≠ i:=fun e=>hm (List.mem_map.2 ⟨p,hp,e⟩)
      rw [set_ne _ _ this]; exact h.here p hp
theorem Sep.perm (h:Sep σ0 σ l) (hp:l.Perm l'):Sep σ0 σ l' :=
  ⟨h.sub,(hp.map _).nodup_iff.1 h.nodup,fun p hm=>h.new p (hp.mem_iff.2 hm),fun p hm=>h.here p (hp.mem_iff.2 hm)⟩
theorem Sep.front {l1 l2:Objs} {p:Nat × AObj} (h:Sep σ0 σ (l1 ++ p :: l2)):Sep σ0 σ (p :: (l1 ++ l2)):=h.perm List.perm_middle
theorem Sep.back {l1 l2:Objs} {p:Nat × AObj} (h:Sep σ0 σ (p :: (l1 ++ l2))):Sep σ0 σ (l1 ++ p :: l2):=h.perm List.perm_middle.symm
theorem Sep.set1 (h:Sep σ0 σ ((i,o) :: l)) (o':AObj):Sep σ0 (σ.set i o') ((i,o') :: l):=by
  have hn:=h.nodup
  simp only [List.map_cons,List.nodup_cons] at hn
  have h0:=h.new (i,o) (by simp)
  refine ⟨?_,by simp only [List.map_cons,List.nodup_cons]; exact hn,?_,?_⟩
  · intro j x hj
    have:j ≠ i:=by intro e; subst e; rw [h0] at hj; cases hj
    rw [set_ne _ _ this]; exact h.sub _ _ hj
  · intro p hp
    rcases List.mem_cons.1 hp with rfl | hp
    · exact h0
    · exact h.new p (by simp [hp])
  · intro p hp
    rcases List.mem_cons.1 hp with rfl | hp
    · exact set_same _ _ _
    · have:p.1 ≠ i:=fun e=>hn.1 (List.mem_map.2 ⟨p,hp,e⟩)
      rw [set_ne _ _ this]; exact h.here p (by simp [hp])
theorem Sep.set {l1 l2:Objs} (h:Sep σ0 σ (l1 ++ (i,o) :: l2)) (o':AObj):Sep σ0 (σ.set i o') (l1 ++ (i,o') :: l2):=(h.front.set1 o').back
theorem Sep.drop {p:Nat × AObj} (h:Sep σ0 σ (p :: l)):Sep σ0 σ l:=by
  have hn:=h.nodup
  simp only [List.map_cons,List.nodup_cons] at hn
  exact ⟨h.sub,hn.2,fun q hq=>h.new q (by simp [hq]),fun q hq=>h.here q (by simp [hq])⟩
theorem Sep.del (h:Sep σ0 σ ((i,o) :: l)):Sep σ0 (σ.del i) l:=by
  have hn:=h.nodup
  simp only [List.map_cons,List.nodup_cons] at hn
  have h0:=h.new (i,o) (by simp)
  refine ⟨?_,hn.2,fun q hq=>h.new q (by simp [hq]),fun q hq=>?_⟩
  · intro j x hj
    have:j ≠ i:=by intro e; subst e; rw [h0] at hj; cases hj
    rw [del_ne _ this]; exact h.sub _ _ hj
  · have:q.1 ≠ i:=fun e=>hn.1 (List.mem_map.2 ⟨q,hq,e⟩)
    rw [del_ne _ this]; exact h.here q (by simp [hq])
theorem Sep.hide (h:Sep σ0 σ ((i,o) :: l)):Sep (σ0.set i o) σ l:=by
  have hn:=h.nodup
  simp only [List.map_cons,List.nodup_cons] at hn
  refine ⟨?_,hn.2,?_,fun q hq=>h.here q (by simp [hq])⟩
  · intro j x hj
    by_cases e:j=i
    · subst e; rw [set_same] at hj; rw [h.here (j,o) (by simp)]; exact hj
    · rw [set_ne _ _ e] at hj; exact h.sub _ _ hj
  · intro q hq
    have:q.1 ≠ i:=fun e=>hn.1 (List.mem_map.2 ⟨q,hq,e⟩)
    rw [set_ne _ _ this]; exact h.new q (by simp [hq])
theorem Sep.unhide (h:Sep (σ0.set i o) σ l) (h0:σ0 i=none):Sep σ0 σ ((i,o) :: l):=by
  have hni:∀ q ∈ l,q.1 ≠ i:=by
    intro q hq e
    have:=h.new q hq
    rw [e,set_same] at this; cases this
  refine ⟨?_,?_,?_,?_⟩
  · intro j x hj
    have:j ≠ i:=by intro e; subst e; rw [h0] at hj; cases hj
    exact h.sub _ _ (by rw [set_ne _ _ this]; exact hj)
  · simp only [List.map_cons,List.nodup_cons]
    refine ⟨?_,h.nodup⟩
    intro hm
    obtain ⟨q,hq,e⟩:=List.mem_map.1 hm
    exact hni q hq e
  · intro q hq
    rcases List.mem_cons.1 hq with rfl | hq
    · exact h0
    · have:=h.new q hq
      rwa [set_ne _ _ (hni q hq)] at this
  · intro q hq
    rcases List.mem_cons.1 hq with rfl | hq
    · exact h.sub _ _ (set_same _ _ _)
    · exact h.here q hq
def AS.adds (σ:AS):Objs->AS
  | []=>σ
  | p :: l=>(AS.adds σ l).set p.1 p.2
theorem Sep.push {r:Objs} (h:Sep σ0 σ (r ++ l)):Sep (σ0.adds r) σ l:=by
  induction r generalizing l with
  | nil=>exact h
  | cons p r ih =>
    have h1:Sep σ0 σ (r ++ p :: l):=h.perm (List.perm_middle (a:=p) (l₁:=r) (l₂:=l)).symm
    exact (ih h1).hide
theorem Sep.pop {r:Objs} (h:Sep (σ0.adds r) σ l) (hn:(r.map (·.1)).Nodup) (h0:∀ p ∈ r,σ0 p.1=none):Sep σ0 σ (r ++ l):=by
  induction r generalizing l with
  | nil=>exact h
  | cons p r ih =>
    simp only [List.map_cons,List.nodup_cons] at hn
    have hp:(σ0.adds r) p.1=none:=by
      have:∀ r:Objs,p.1 ∉ r.map (·.1)->σ0 p.1=none->(σ0.adds r) p.1=none:=by
        intro r
        induction r with
        | nil=>intro _ h; exact h
        | cons q r ih =>
          intro h1 h2
          simp only [List.map_cons,List.mem_cons,not_or] at h1
          show (AS.adds σ0 r).set q.1 q.2 p.1=none
          rw [set_ne _ _ h1.1]; exact ih h1.2 h2
      exact this r hn.1 (h0 p (by simp))
    have h1:Sep (σ0.adds r) σ (p :: l):=Sep.unhide h hp
    have h2:=ih h1 hn.2 (fun q hq=>h0 q (by simp [hq]))
    exact h2.perm (List.perm_middle (a:=p) (l₁:=r) (l₂:=l))
theorem Sep.part {r:Objs} (h:Sep σ0 σ (r ++ l)) {Q:Prop} (hQ:Sep (σ0.adds r) σ l->(∀ σ' l',Sep (σ0.adds r) σ' l'->Sep σ0 σ' (r ++ l'))->Q):Q:=by
  refine hQ h.push fun σ' l' h'=>h'.pop ?_ fun p hp=>h.new p (by simp [hp])
  have:=h.nodup
  rw [List.map_append,List.nodup_append] at this
  exact this.1
end
def RowV (P:Program) (e:TypeId) (v:AV) (L:Objs) (n:Nat) (cs:List PV):Prop :=
  cs.length=n * szOf P e/\((v=.nilS/\L=[]/\n=0/\cs=[]) \/ ∃ id mk,v=.grow id n cs/\L=[(id,.front n (szOf P e) mk)])
section
variable {P:Program} {σ0 σ:AS} {t e:TypeId} {v x:AV} {n m:Nat} {cs ys:List PV} {l L:Objs}
theorem RowV.nil (P:Program) (e:TypeId):RowV P e .nilS [] 0 []:=⟨by simp,.inl ⟨rfl,rfl,rfl,rfl⟩⟩
theorem RowV.toPV (G:RowV P e v L n cs):Go.AD.toPV v=some (.lst n cs):=by
  rcases G.2 with ⟨rfl,rfl,rfl,rfl⟩ | ⟨id,mk,rfl,rfl⟩ <;> rfl
theorem RowV.cells (G:RowV P e v L n cs):v.cells=[v]:=by
  rcases G.2 with ⟨rfl,rfl,rfl,rfl⟩ | ⟨id,mk,rfl,rfl⟩ <;> rfl
theorem RowV.cellOk (G:RowV P e v L n cs):v.cellOk=true:=by
  rcases G.2 with ⟨rfl,rfl,rfl,rfl⟩ | ⟨id,mk,rfl,rfl⟩ <;> rfl
theorem RowV.append {K:AV->AS->Prop} (G:RowV P e v L n cs) (h:Sep σ0 σ (l ++ L)) (hT:RowT P t e) (hx:shown P σ e x=some (m,ys)) (hl:ys.length=m * szOf P e) (hm:0 < m) (hb:(n + m) * byOf P e <= 140737488355328) (hn:n + m <= 9223372036854775807)
    (hK:∀ v' L' σ',RowV P e v' L' (n + m) (cs ++ ys)->Sep σ0 σ' (l ++ L')->K v' σ'):appendD P false σ t v x K:=by
  have hlen:(cs ++ ys).length=(n + m) * szOf P e:=by rw [List.length_append,G.1,hl,Nat.add_mul]
  rcases G.2 with ⟨rfl,rfl,rfl,rfl⟩ | ⟨id,mk,rfl,rfl⟩
  · refine app_nil hT hx hl (by omega) (by simpa using hb) (by omega) ?_
    intro id hid
    refine hK _ [(id,.front (0 + m) (szOf P e) (some e))] _ ⟨hlen,.inr ⟨id,some e,by simp,rfl⟩⟩ ?_
    have:=(h.alloc hid (.front m (szOf P e) (some e)))
    simp only [List.append_nil] at this
    exact (this.perm (by simpa using (List.perm_append_comm (l₁:=[(id,AObj.front m (szOf P e) (some e))]) (l₂:=l))))
  · refine app_grow hT hx hl (h.get (o:=.front n (szOf P e) mk) (by simp)) (by omega) G.1 hb hn ?_
    exact hK _ _ _ ⟨hlen,.inr ⟨id,_,rfl,rfl⟩⟩ (h.set _)
end
end Go.AD

set_option linter.unusedVariables false
namespace Go.AD
section
variable {P:Program} {σ0 σ:AS} {t e:TypeId} {v x:AV} {n m:Nat} {cs ys:List PV} {l l' L:Objs}
theorem Sep.sublist (h:Sep σ0 σ l) (hs:l'.Sublist l):Sep σ0 σ l' :=
  ⟨h.sub,(hs.map _).nodup h.nodup,fun p hp=>h.new p (hs.subset hp),fun p hp=>h.here p (hs.subset hp)⟩
theorem RowV.ix {k:IntKind} {i:Nat} {K:AV->Prop} (G:RowV P e v L n cs) (ht:elOf P t=some e) (h1:(inf P e).isSome=true) (h3:0 < szOf P e) (hi:i < n):indexAddrD P t v (.pv (.int k i)) K=K (.elemP cs (i * szOf P e)):=by
  have hl:=G.1
  have hu:=isSlice ht
  rcases G.2 with ⟨_,_,h0,_⟩ | ⟨id,mk,rfl,rfl⟩
  · omega
  · simp [indexAddrD,hu,h1,h3,hl,hi]
end
end Go.AD

set_option linter.unusedVariables false
set_option linter.unusedSimpArgs false
set_option maxRecDepth 100000
namespace Go.AD
open Go.Proofs RowKit
noncomputable abbrev PS:=Go.Proofs.Tryz.prog
theorem var0 {w0 w:World} {ρ:Gh} {σ:AS} (hS:Ready PS w0) (H:RelH w0 ρ σ w):∃ m,w.cell? ⟨1,0,none⟩=some (.int .i64 m):=by
  obtain ⟨m,hm⟩:∃ m,w0.cell? ⟨1,0,none⟩=some (.int .i64 m):=Tryz.laysM143.s1_3 w0 hS.shaped
  have hsz:1 < w0.heap.size:=by
    rcases Nat.lt_or_ge 1 w0.heap.size with h | h
    · exact h
    · exfalso
      have h1:w0.heap[1]?=none:=Array.getElem?_eq_none h
      have h2:w0.cell? ⟨1,0,none⟩=none:=by unfold World.cell?; simp only [h1]
      rw [h2] at hm
      cases hm
  exact ⟨m,(H.below.cell (p:=⟨1,0,none⟩) hsz).trans hm⟩
def strT2 (r:List UInt8->List UInt8->AV):Tr:=fun args σ K _=>∃ s t:List UInt8,args=[.pv (.str s),.pv (.str t)]/\s.length <= 100000/\K (r s t) σ
theorem F_Contains:SoundF PS 24 (strT2 fun s t=>.pv (.bool (Lib.contains s t))):=by
  rintro w0 hS ρ σ w args us K X H hr ⟨s,t,rfl,hs,hK⟩
  obtain ⟨u,us',rfl,hu,hr⟩:=hr.uncons
  obtain ⟨v,us'',rfl,hv,hnil⟩:=hr.uncons
  obtain rfl:us''=[]:=hnil.nil_inv
  rw [relStr hu,relStr hv]
  refine ⟨Tryz.call24 _ w,?_⟩
  obtain ⟨m,hm⟩:=var0 hS H
  refine (Tryz.strings_Contains ⟨s.toArray⟩ ⟨t.toArray⟩ m w (by simp [ByteArray.size]; omega) hm).mono fun e W' ⟨he,hW⟩=>?_
  subst he hW
  exact ⟨ρ,σ,Gh.le_refl ρ,H,_,.pv (.bool _),hK⟩
theorem F_HasPrefix:SoundF PS 114 (strT2 fun s t=>.pv (.bool (Lib.hasPrefix s t))):=by
  rintro w0 hS ρ σ w args us K X H hr ⟨s,t,rfl,hs,hK⟩
  obtain ⟨u,us',rfl,hu,hr⟩:=hr.uncons
  obtain ⟨v,us'',rfl,hv,hnil⟩:=hr.uncons
  obtain rfl:us''=[]:=hnil.nil_inv
  rw [relStr hu,relStr hv]
  refine ⟨Tryz.call114 _ w,?_⟩
  refine (Tryz.strings_HasPrefix ⟨s.toArray⟩ ⟨t.toArray⟩ w).mono fun e W' ⟨he,hW⟩=>?_
  subst he hW
  exact ⟨ρ,σ,Gh.le_refl ρ,H,_,.pv (.bool _),hK⟩
def T_IndexByte:Tr:=fun args σ K _=>∃ (s:List UInt8) (c:UInt8),args=[.pv (.str s),.pv (.int .u8 c.toNat)]/\K (.pv (.int .i64 (Lib.indexByte s c))) σ
theorem F_IndexByte:SoundF PS 125 T_IndexByte:=by
  rintro w0 hS ρ σ w args us K X H hr ⟨s,c,rfl,hK⟩
  obtain ⟨u,us',rfl,hu,hr⟩:=hr.uncons
  obtain ⟨v,us'',rfl,hv,hnil⟩:=hr.uncons
  obtain rfl:us''=[]:=hnil.nil_inv
  rw [relStr hu,relInt (x:=.undef) hv]
  refine ⟨Tryz.call125 _ w,?_⟩
  refine (Tryz.strings_IndexByte ⟨s.toArray⟩ (c.toNat:Int) w).mono fun e W' ⟨he,hW⟩=>?_
  subst he hW
  refine ⟨ρ,σ,Gh.le_refl ρ,H,.pv (.int .i64 (Lib.indexByte s c)),?_,hK⟩
  have e:((c.toNat:Int).toNat).toUInt8=c:=by simp
  rw [e]
  exact .pv (.int _ _)
def BAt (b:Nat) (l:List UInt8) (B:Objs):Prop:=∃ p buf,(p=.pv .nilPtr \/ p=.addr b 0) /\
  ((buf=.nilS/\l=[]/\B=[(b,.cells [p,buf] (some 173))]) \/ ∃ g,buf=.grow g l.length (pvBytes l)/\l ≠ []/\B=[(b,.cells [p,buf] (some 173)),(g,.front l.length 1 (some 5))])
theorem BAt.new (b:Nat):BAt b [] [(b,.cells [.pv .nilPtr,.nilS] (some 173))]:=⟨_,_,.inl rfl,.inl ⟨rfl,rfl,rfl⟩⟩
def T_WriteByte:Tr:=fun args σ K _=>∃ (b:Nat) (c:UInt8) (σ0:AS) (l:List UInt8) (B X:Objs),args=[.addr b 0,.pv (.int .u8 c.toNat)]/\BAt b l B/\Sep σ0 σ (B ++ X)/\l.length <= 1000000/\∀ σ' B',BAt b (l ++ [c]) B'->Sep σ0 σ' (B' ++ X)->K (.pv .nilIface) σ'
theorem T_WriteByte_ok {env:Env} (hc:env 178=T_copyCheck) (args:List AV) (σ:AS) (K:AV->AS->Prop) (X:PV->AS->Prop) (h:T_WriteByte args σ K X):bodyD PS env an155 Tryz.f155 args σ K X:=by
  obtain ⟨b,c,σ0,l,B,Y,rfl,⟨p,buf,hp,hB⟩,hS,hl,hK⟩:=h
  rw [<- S155_eq env,S155,hc]
  have e:∀ σ1 K,buildSliceD PS false σ1 92 1 1 [(0,.pv (.int .u8 c.toNat))] K=K (.full 1 [.int .u8 c.toNat]) σ1:=by
    intro σ1 K
    simp [buildSliceD,go_sem,elemsFill,AV.cells,AV.cellOk,toPVs,toPV]
  have hT:RowT PS 92 5:=⟨T.el92,by rw [T.sz5]; decide,_,T.zo5,by rw [T.sz5]; rfl⟩
  rcases hB with ⟨rfl,rfl,rfl⟩ | ⟨g,rfl,hne,rfl⟩
  · refine ⟨b,p,.nilS,rfl,hS.get (by simp),hp,?_⟩
    have h1:Sep σ0 (σ.set b (.cells [.addr b 0,.nilS] (some 173))) _:=Sep.set1 hS _
    have hb:=h1.get (i:=b) (o:=.cells [.addr b 0,.nilS] (some 173)) (by simp)
    simp (disch:=omega) only [go_sem,e,hb,ldM_cells,List.getElem?_cons_succ,List.getElem?_cons_zero]
    refine app_nil hT rfl (by rw [T.sz5]; rfl) (by omega) (by rw [T.by5]; omega) (by omega) ?_
    intro g hg
    have h2:=h1.alloc hg (.front 1 (szOf PS 5) (some 5))
    have h3:Sep σ0 _ ((b,AObj.cells [.addr b 0,.nilS] (some 173)) :: ((g,.front 1 (szOf PS 5) (some 5)) :: Y)):=h2.perm (List.Perm.swap _ _ _)
    have hb2:=h3.get (i:=b) (o:=.cells [.addr b 0,.nilS] (some 173)) (by simp)
    rw [T.stv92 rfl rfl,hb2]
    refine ⟨by simp,?_⟩
    refine retV_self (hK _ [(b,.cells [.addr b 0,.grow g 1 [.int .u8 c.toNat]] (some 173)),(g,.front 1 1 (some 5))] ⟨_,_,.inr rfl,.inr ⟨g,rfl,by simp,rfl⟩⟩ ?_)
    rw [T.sz5] at h3 ⊢
    exact Sep.set1 h3 _
  · refine ⟨b,p,.grow g l.length (pvBytes l),rfl,hS.get (by simp),hp,?_⟩
    have h1:Sep σ0 (σ.set b (.cells [.addr b 0,.grow g l.length (pvBytes l)] (some 173))) _:=Sep.set1 hS _
    have hb:=h1.get (i:=b) (o:=.cells [.addr b 0,.grow g l.length (pvBytes l)] (some 173)) (by simp)
    have hg:=h1.get (i:=g) (o:=.front l.length 1 (some 5)) (by simp)
    simp (disch:=omega) only [go_sem,e,hb,ldM_cells,List.getElem?_cons_succ,List.getElem?_cons_zero]
    refine app_grow hT rfl (by rw [T.sz5]; rfl) (by rw [T.sz5]; exact hg) (by omega) (by rw [T.sz5,pvBytes_len]; omega) (by rw [T.by5]; omega) (by omega) ?_
    have h2:=Sep.set (l1:=[_]) h1 (.front (l.length + 1) (szOf PS 5) (if some 5=some 5 then some 5 else none))
    have hb2:=h2.get (i:=b) (o:=.cells [.addr b 0,.grow g l.length (pvBytes l)] (some 173)) (by simp)
    rw [T.stv92 rfl rfl,hb2]
    refine ⟨by simp,?_⟩
    refine retV_self (hK _ [(b,.cells [.addr b 0,.grow g (l.length + 1) (pvBytes l ++ [.int .u8 c.toNat])] (some 173)),(g,.front (l.length + 1) 1 (some 5))] ⟨.addr b 0,.grow g (l.length + 1) (pvBytes l ++ [.int .u8 c.toNat]),.inr rfl,.inr ⟨g,?_,by simp,?_⟩⟩ ?_)
    · rw [pvBytes_app,List.length_append]; rfl
    · rw [List.length_append]; rfl
    · rw [T.sz5] at h2 ⊢
      rw [if_pos rfl] at h2 ⊢
      exact Sep.set1 h2 _
def T_Str:Tr:=fun args σ K _=>∃ (b:Nat) (σ0:AS) (l:List UInt8) (B X:Objs),args=[.addr b 0]/\BAt b l B/\Sep σ0 σ (B ++ X)/\∀ σ',Sep σ0 σ' X->K (.pv (.str l)) σ'
theorem F_Str:SoundF PS 154 T_Str:=by
  rintro w0 hS ρ σ w args us K X H hr ⟨b,σ0,l,B,Y,rfl,⟨p,buf,hp,hB⟩,hSep,hK⟩
  refine F_String w0 hS ρ σ w _ us K X H hr ?_
  rcases hB with ⟨rfl,rfl,rfl⟩ | ⟨g,rfl,hne,rfl⟩
  · exact ⟨b,p,.nilS,rfl,hSep.get (by simp),.inl ⟨rfl,hK _ hSep.drop⟩⟩
  · refine ⟨b,p,_,rfl,hSep.get (by simp),.inr ⟨g,l,rfl,hne,hSep.get (by simp),hK _ ?_⟩⟩
    exact (Sep.del (hSep.perm (List.Perm.swap _ _ _))).drop
end Go.AD
