import Derived.Test.YteabilbccbhecaaGreatDoorM8
import Derived.Laws.Externs
import Derived.Test.YteabilbccbhecaaGreatDoorM0
set_option linter.unusedVariables false
set_option maxRecDepth 100000
namespace Go.AD.T
open Go.Proofs.Tryz
variable {σ:AS} {id off n size:Nat} {K:AV->Prop} {KS:AS->Prop} {k k2:IntKind} {cs:List PV} {p:PV} {x:List UInt8} {i j:Nat} {z:Int}
@[go_sem] theorem ld0:loadD prog σ 0 (.addr id off) K=ldM (σ id) off K:=ldA hT0 ag0
@[go_sem] theorem le0:loadD prog σ 0 (.elemP cs off) K=(∃ v,cs[off]?=some v/\K (.pv v)):=load_elem hT0 ag0
@[go_sem] theorem stp0:storeD prog σ 0 (.addr id off) (.pv p) KS=stM σ id (σ id) off (.pv p) KS:=stA hT0 sz0 rfl rfl
@[go_sem] theorem ld1:loadD prog σ 1 (.addr id off) K=ldM (σ id) off K:=ldA hT1 ag1
@[go_sem] theorem le1:loadD prog σ 1 (.elemP cs off) K=(∃ v,cs[off]?=some v/\K (.pv v)):=load_elem hT1 ag1
@[go_sem] theorem stp1:storeD prog σ 1 (.addr id off) (.pv p) KS=stM σ id (σ id) off (.pv p) KS:=stA hT1 sz1 rfl rfl
@[go_sem] theorem ld2:loadD prog σ 2 (.addr id off) K=ldM (σ id) off K:=ldA hT2 ag2
@[go_sem] theorem le2:loadD prog σ 2 (.elemP cs off) K=(∃ v,cs[off]?=some v/\K (.pv v)):=load_elem hT2 ag2
@[go_sem] theorem stp2:storeD prog σ 2 (.addr id off) (.pv p) KS=stM σ id (σ id) off (.pv p) KS:=stA hT2 sz2 rfl rfl
@[go_sem] theorem un2:(prog).underlying 2=some (.int .i64):=by kernel_rfl
@[go_sem] theorem ld3:loadD prog σ 3 (.addr id off) K=ldM (σ id) off K:=ldA hT3 ag3
@[go_sem] theorem le3:loadD prog σ 3 (.elemP cs off) K=(∃ v,cs[off]?=some v/\K (.pv v)):=load_elem hT3 ag3
@[go_sem] theorem stp3:storeD prog σ 3 (.addr id off) (.pv p) KS=stM σ id (σ id) off (.pv p) KS:=stA hT3 sz3 rfl rfl
@[go_sem] theorem un3:(prog).underlying 3=some (.int .i64):=by kernel_rfl
@[go_sem] theorem ld4:loadD prog σ 4 (.addr id off) K=ldM (σ id) off K:=ldA hT4 ag4
@[go_sem] theorem le4:loadD prog σ 4 (.elemP cs off) K=(∃ v,cs[off]?=some v/\K (.pv v)):=load_elem hT4 ag4
@[go_sem] theorem stp4:storeD prog σ 4 (.addr id off) (.pv p) KS=stM σ id (σ id) off (.pv p) KS:=stA hT4 sz4 rfl rfl
@[go_sem] theorem ld5:loadD prog σ 5 (.addr id off) K=ldM (σ id) off K:=ldA hT5 ag5
@[go_sem] theorem le5:loadD prog σ 5 (.elemP cs off) K=(∃ v,cs[off]?=some v/\K (.pv v)):=load_elem hT5 ag5
@[go_sem] theorem stp5:storeD prog σ 5 (.addr id off) (.pv p) KS=stM σ id (σ id) off (.pv p) KS:=stA hT5 sz5 rfl rfl
@[go_sem] theorem un5:(prog).underlying 5=some (.int .u8):=by kernel_rfl
@[go_sem] theorem ld6:loadD prog σ 6 (.addr id off) K=ldM (σ id) off K:=ldA hT6 ag6
@[go_sem] theorem le6:loadD prog σ 6 (.elemP cs off) K=(∃ v,cs[off]?=some v/\K (.pv v)):=load_elem hT6 ag6
@[go_sem] theorem stp6:storeD prog σ 6 (.addr id off) (.pv p) KS=stM σ id (σ id) off (.pv p) KS:=stA hT6 sz6 rfl rfl
@[go_sem] theorem un6:(prog).underlying 6=some (.int .u8):=by kernel_rfl
@[go_sem] theorem fa7_0:fieldAddrD prog 7 (.addr id off) 0 K=K (.addr id (off + 0)):=by
  rw [fa_addr (by rw [fo7_0]; rfl)]; simp only [fo7_0,Option.getD_some,hT2,sz2,true_and]; simp
@[go_sem] theorem fe7_0:fieldAddrD prog 7 (.elemP cs off) 0 K=K (.elemP cs (off + 0)):=by
  rw [fa_elem (by rw [fo7_0]; rfl)]; simp only [fo7_0,Option.getD_some,hT2,sz2,true_and]; simp
@[go_sem] theorem fa7_1:fieldAddrD prog 7 (.addr id off) 1 K=K (.addr id (off + 1)):=by
  rw [fa_addr (by rw [fo7_1]; rfl)]; simp only [fo7_1,Option.getD_some,hT3,sz3,true_and]; simp
@[go_sem] theorem fe7_1:fieldAddrD prog 7 (.elemP cs off) 1 K=K (.elemP cs (off + 1)):=by
  rw [fa_elem (by rw [fo7_1]; rfl)]; simp only [fo7_1,Option.getD_some,hT3,sz3,true_and]; simp
@[go_sem] theorem fa7_2:fieldAddrD prog 7 (.addr id off) 2 K=K (.addr id (off + 2)):=by
  rw [fa_addr (by rw [fo7_2]; rfl)]; simp only [fo7_2,Option.getD_some,hT4,sz4,true_and]; simp
@[go_sem] theorem fe7_2:fieldAddrD prog 7 (.elemP cs off) 2 K=K (.elemP cs (off + 2)):=by
  rw [fa_elem (by rw [fo7_2]; rfl)]; simp only [fo7_2,Option.getD_some,hT4,sz4,true_and]; simp
@[go_sem] theorem fa7_3:fieldAddrD prog 7 (.addr id off) 3 K=K (.addr id (off + 3)):=by
  rw [fa_addr (by rw [fo7_3]; rfl)]; simp only [fo7_3,Option.getD_some,hT6,sz6,true_and]; simp
@[go_sem] theorem fe7_3:fieldAddrD prog 7 (.elemP cs off) 3 K=K (.elemP cs (off + 3)):=by
  rw [fa_elem (by rw [fo7_3]; rfl)]; simp only [fo7_3,Option.getD_some,hT6,sz6,true_and]; simp
@[go_sem] theorem ld9:loadD prog σ 9 (.addr id off) K=ldM (σ id) off K:=ldA hT9 ag9
@[go_sem] theorem le9:loadD prog σ 9 (.elemP cs off) K=(∃ v,cs[off]?=some v/\K (.pv v)):=load_elem hT9 ag9
@[go_sem] theorem stp9:storeD prog σ 9 (.addr id off) (.pv p) KS=stM σ id (σ id) off (.pv p) KS:=stA hT9 sz9 rfl rfl
theorem und9:(prog).underlying 9=some .string:=by kernel_rfl
@[go_sem] theorem ls9:lenD prog 9 (.pv (.str x)) K=K (.pv (.int .i64 x.length)):=len_str und9
theorem is9 (h:i < x.length):indexD prog 9 (.pv (.str x)) (.pv (.int k i)) K=K (.pv (.int .u8 (x.getD i 0).toNat)):=ixS und9 h
theorem ss9 (h:i <= x.length):sliceD prog 9 (.pv (.str x)) (some (.pv (.int k i))) none K=K (.pv (.str (x.drop i))):=slS und9 h
theorem st9 (h:i <= x.length):sliceD prog 9 (.pv (.str x)) none (some (.pv (.int k i))) K=K (.pv (.str (x.take i))):=slS0 und9 h
@[go_sem] theorem ld11:loadD prog σ 11 (.addr id off) K=ldM (σ id) off K:=ldA hT11 ag11
@[go_sem] theorem le11:loadD prog σ 11 (.elemP cs off) K=(∃ v,cs[off]?=some v/\K (.pv v)):=load_elem hT11 ag11
@[go_sem] theorem stp11:storeD prog σ 11 (.addr id off) (.pv p) KS=stM σ id (σ id) off (.pv p) KS:=stA hT11 sz11 rfl rfl
theorem und11:(prog).underlying 11=some .string:=by kernel_rfl
@[go_sem] theorem ls11:lenD prog 11 (.pv (.str x)) K=K (.pv (.int .i64 x.length)):=len_str und11
@[go_sem] theorem ld12:loadD prog σ 12 (.addr id off) K=ldM (σ id) off K:=ldA hT12 ag12
@[go_sem] theorem le12:loadD prog σ 12 (.elemP cs off) K=(∃ v,cs[off]?=some v/\K (.pv v)):=load_elem hT12 ag12
@[go_sem] theorem stp12:storeD prog σ 12 (.addr id off) (.pv p) KS=stM σ id (σ id) off (.pv p) KS:=stA hT12 sz12 rfl rfl
@[go_sem] theorem un12:(prog).underlying 12=some (.int .u64):=by kernel_rfl
@[go_sem] theorem fa14_0:fieldAddrD prog 14 (.addr id off) 0 K=K (.addr id (off + 0)):=by
  rw [fa_addr (by rw [fo14_0]; rfl)]; simp only [fo14_0,Option.getD_some,hT9,sz9,true_and]; simp
@[go_sem] theorem fe14_0:fieldAddrD prog 14 (.elemP cs off) 0 K=K (.elemP cs (off + 0)):=by
  rw [fa_elem (by rw [fo14_0]; rfl)]; simp only [fo14_0,Option.getD_some,hT9,sz9,true_and]; simp
@[go_sem] theorem fa14_1:fieldAddrD prog 14 (.addr id off) 1 K=K (.addr id (off + 1)):=by
  rw [fa_addr (by rw [fo14_1]; rfl)]; simp only [fo14_1,Option.getD_some,hT12,sz12,true_and]; simp
@[go_sem] theorem fe14_1:fieldAddrD prog 14 (.elemP cs off) 1 K=K (.elemP cs (off + 1)):=by
  rw [fa_elem (by rw [fo14_1]; rfl)]; simp only [fo14_1,Option.getD_some,hT12,sz12,true_and]; simp
@[go_sem] theorem ld17:loadD prog σ 17 (.addr id off) K=ldM (σ id) off K:=ldA hT17 ag17
@[go_sem] theorem le17:loadD prog σ 17 (.elemP cs off) K=(∃ v,cs[off]?=some v/\K (.pv v)):=load_elem hT17 ag17
@[go_sem] theorem stp17:storeD prog σ 17 (.addr id off) (.pv p) KS=stM σ id (σ id) off (.pv p) KS:=stA hT17 sz17 rfl rfl
@[go_sem] theorem sta17 {j o:Nat}:storeD prog σ 17 (.addr id off) (.addr j o) KS=stM σ id (σ id) off (.addr j o) KS:=stA hT17 sz17 rfl rfl
@[go_sem] theorem ld21:loadD prog σ 21 (.addr id off) K=ldM (σ id) off K:=ldA hT21 ag21
@[go_sem] theorem le21:loadD prog σ 21 (.elemP cs off) K=(∃ v,cs[off]?=some v/\K (.pv v)):=load_elem hT21 ag21
@[go_sem] theorem stp21:storeD prog σ 21 (.addr id off) (.pv p) KS=stM σ id (σ id) off (.pv p) KS:=stA hT21 sz21 rfl rfl
@[go_sem] theorem un21:(prog).underlying 21=some (.int .i32):=by kernel_rfl
@[go_sem] theorem ld22:loadD prog σ 22 (.addr id off) K=ldM (σ id) off K:=ldA hT22 ag22
@[go_sem] theorem le22:loadD prog σ 22 (.elemP cs off) K=(∃ v,cs[off]?=some v/\K (.pv v)):=load_elem hT22 ag22
@[go_sem] theorem stp22:storeD prog σ 22 (.addr id off) (.pv p) KS=stM σ id (σ id) off (.pv p) KS:=stA hT22 sz22 rfl rfl
@[go_sem] theorem un22:(prog).underlying 22=some (.float .f64):=by kernel_rfl
@[go_sem] theorem fa23_0:fieldAddrD prog 23 (.addr id off) 0 K=K (.addr id (off + 0)):=by
  rw [fa_addr (by rw [fo23_0]; rfl)]; simp only [fo23_0,Option.getD_some,hT9,sz9,true_and]; simp
@[go_sem] theorem fe23_0:fieldAddrD prog 23 (.elemP cs off) 0 K=K (.elemP cs (off + 0)):=by
  rw [fa_elem (by rw [fo23_0]; rfl)]; simp only [fo23_0,Option.getD_some,hT9,sz9,true_and]; simp
@[go_sem] theorem fa23_1:fieldAddrD prog 23 (.addr id off) 1 K=K (.addr id (off + 1)):=by
  rw [fa_addr (by rw [fo23_1]; rfl)]; simp only [fo23_1,Option.getD_some,hT22,sz22,true_and]; simp
@[go_sem] theorem fe23_1:fieldAddrD prog 23 (.elemP cs off) 1 K=K (.elemP cs (off + 1)):=by
  rw [fa_elem (by rw [fo23_1]; rfl)]; simp only [fo23_1,Option.getD_some,hT22,sz22,true_and]; simp
@[go_sem] theorem fa23_2:fieldAddrD prog 23 (.addr id off) 2 K=K (.addr id (off + 2)):=by
  rw [fa_addr (by rw [fo23_2]; rfl)]; simp only [fo23_2,Option.getD_some,hT9,sz9,true_and]; simp
@[go_sem] theorem fe23_2:fieldAddrD prog 23 (.elemP cs off) 2 K=K (.elemP cs (off + 2)):=by
  rw [fa_elem (by rw [fo23_2]; rfl)]; simp only [fo23_2,Option.getD_some,hT9,sz9,true_and]; simp
@[go_sem] theorem fa24_0:fieldAddrD prog 24 (.addr id off) 0 K=K (.addr id (off + 0)):=by
  rw [fa_addr (by rw [fo24_0]; rfl)]; simp only [fo24_0,Option.getD_some,hT9,sz9,true_and]; simp
@[go_sem] theorem fe24_0:fieldAddrD prog 24 (.elemP cs off) 0 K=K (.elemP cs (off + 0)):=by
  rw [fa_elem (by rw [fo24_0]; rfl)]; simp only [fo24_0,Option.getD_some,hT9,sz9,true_and]; simp
@[go_sem] theorem fa24_1:fieldAddrD prog 24 (.addr id off) 1 K=K (.addr id (off + 1)):=by
  rw [fa_addr (by rw [fo24_1]; rfl)]; simp only [fo24_1,Option.getD_some,hT22,sz22,true_and]; simp
@[go_sem] theorem fe24_1:fieldAddrD prog 24 (.elemP cs off) 1 K=K (.elemP cs (off + 1)):=by
  rw [fa_elem (by rw [fo24_1]; rfl)]; simp only [fo24_1,Option.getD_some,hT22,sz22,true_and]; simp
@[go_sem] theorem fa24_2:fieldAddrD prog 24 (.addr id off) 2 K=K (.addr id (off + 2)):=by
  rw [fa_addr (by rw [fo24_2]; rfl)]; simp only [fo24_2,Option.getD_some,hT9,sz9,true_and]; simp
@[go_sem] theorem fe24_2:fieldAddrD prog 24 (.elemP cs off) 2 K=K (.elemP cs (off + 2)):=by
  rw [fa_elem (by rw [fo24_2]; rfl)]; simp only [fo24_2,Option.getD_some,hT9,sz9,true_and]; simp
@[go_sem] theorem ld28:loadD prog σ 28 (.addr id off) K=ldM (σ id) off K:=ldA hT28 ag28
@[go_sem] theorem le28:loadD prog σ 28 (.elemP cs off) K=(∃ v,cs[off]?=some v/\K (.pv v)):=load_elem hT28 ag28
@[go_sem] theorem stp28:storeD prog σ 28 (.addr id off) (.pv p) KS=stM σ id (σ id) off (.pv p) KS:=stA hT28 sz28 rfl rfl
@[go_sem] theorem lnl28:lenD prog 28 (.pv (.lst n cs)) K=K (.pv (.int .i64 n)):=len_lst (by rw [el28]; rfl)
@[go_sem] theorem lng28:lenD prog 28 (.grow id n cs) K=K (.pv (.int .i64 n)):=len_grow (by rw [el28]; rfl)
@[go_sem] theorem lnf28:lenD prog 28 (.full n cs) K=K (.pv (.int .i64 n)):=len_full (by rw [el28]; rfl)
@[go_sem] theorem lnm28:lenD prog 28 (.msl id off n size) K=K (.pv (.int .i64 n)):=len_msl (by rw [el28]; rfl)
@[go_sem] theorem lnn28:lenD prog 28 .nilS K=K (.pv (.int .i64 0)):=len_nil (by rw [el28]; rfl)
theorem ixm28 (h:i < n):indexAddrD prog 28 (.msl id off n size) (.pv (.int k i)) K=K (.addr id (off + i * 3)):=by
  rw [ix_msl (by rw [el28]; rfl)]; simp only [el28,Option.getD_some,iS24,sz24,Int.toNat_natCast,true_and]; simp [h]
@[go_sem] theorem ld30:loadD prog σ 30 (.addr id off) K=ldM (σ id) off K:=ldA hT30 ag30
@[go_sem] theorem le30:loadD prog σ 30 (.elemP cs off) K=(∃ v,cs[off]?=some v/\K (.pv v)):=load_elem hT30 ag30
@[go_sem] theorem stp30:storeD prog σ 30 (.addr id off) (.pv p) KS=stM σ id (σ id) off (.pv p) KS:=stA hT30 sz30 rfl rfl
@[go_sem] theorem ld37:loadD prog σ 37 (.addr id off) K=ldM (σ id) off K:=ldA hT37 ag37
@[go_sem] theorem le37:loadD prog σ 37 (.elemP cs off) K=(∃ v,cs[off]?=some v/\K (.pv v)):=load_elem hT37 ag37
@[go_sem] theorem stp37:storeD prog σ 37 (.addr id off) (.pv p) KS=stM σ id (σ id) off (.pv p) KS:=stA hT37 sz37 rfl rfl
@[go_sem] theorem un37:(prog).underlying 37=some (.int .u64):=by kernel_rfl
@[go_sem] theorem ld43:loadD prog σ 43 (.addr id off) K=ldM (σ id) off K:=ldA hT43 ag43
@[go_sem] theorem le43:loadD prog σ 43 (.elemP cs off) K=(∃ v,cs[off]?=some v/\K (.pv v)):=load_elem hT43 ag43
@[go_sem] theorem stp43:storeD prog σ 43 (.addr id off) (.pv p) KS=stM σ id (σ id) off (.pv p) KS:=stA hT43 sz43 rfl rfl
@[go_sem] theorem ld56:loadD prog σ 56 (.addr id off) K=ldM (σ id) off K:=ldA hT56 ag56
@[go_sem] theorem le56:loadD prog σ 56 (.elemP cs off) K=(∃ v,cs[off]?=some v/\K (.pv v)):=load_elem hT56 ag56
@[go_sem] theorem stp56:storeD prog σ 56 (.addr id off) (.pv p) KS=stM σ id (σ id) off (.pv p) KS:=stA hT56 sz56 rfl rfl
@[go_sem] theorem un56:(prog).underlying 56=some (.float .f64):=by kernel_rfl
@[go_sem] theorem ld57:loadD prog σ 57 (.addr id off) K=ldM (σ id) off K:=ldA hT57 ag57
@[go_sem] theorem le57:loadD prog σ 57 (.elemP cs off) K=(∃ v,cs[off]?=some v/\K (.pv v)):=load_elem hT57 ag57
@[go_sem] theorem stp57:storeD prog σ 57 (.addr id off) (.pv p) KS=stM σ id (σ id) off (.pv p) KS:=stA hT57 sz57 rfl rfl
theorem und57:(prog).underlying 57=some .string:=by kernel_rfl
@[go_sem] theorem ls57:lenD prog 57 (.pv (.str x)) K=K (.pv (.int .i64 x.length)):=len_str und57
@[go_sem] theorem fa61_0:fieldAddrD prog 61 (.addr id off) 0 K=K (.addr id (off + 0)):=by
  rw [fa_addr (by rw [fo61_0]; rfl)]; simp only [fo61_0,Option.getD_some,hT22,sz22,true_and]; simp
@[go_sem] theorem fe61_0:fieldAddrD prog 61 (.elemP cs off) 0 K=K (.elemP cs (off + 0)):=by
  rw [fa_elem (by rw [fo61_0]; rfl)]; simp only [fo61_0,Option.getD_some,hT22,sz22,true_and]; simp
@[go_sem] theorem fa61_1:fieldAddrD prog 61 (.addr id off) 1 K=K (.addr id (off + 1)):=by
  rw [fa_addr (by rw [fo61_1]; rfl)]; simp only [fo61_1,Option.getD_some,hT9,sz9,true_and]; simp
@[go_sem] theorem fe61_1:fieldAddrD prog 61 (.elemP cs off) 1 K=K (.elemP cs (off + 1)):=by
  rw [fa_elem (by rw [fo61_1]; rfl)]; simp only [fo61_1,Option.getD_some,hT9,sz9,true_and]; simp
@[go_sem] theorem ld75:loadD prog σ 75 (.addr id off) K=ldM (σ id) off K:=ldA hT75 ag75
@[go_sem] theorem le75:loadD prog σ 75 (.elemP cs off) K=(∃ v,cs[off]?=some v/\K (.pv v)):=load_elem hT75 ag75
@[go_sem] theorem stp75:storeD prog σ 75 (.addr id off) (.pv p) KS=stM σ id (σ id) off (.pv p) KS:=stA hT75 sz75 rfl rfl
@[go_sem] theorem fa80_0:fieldAddrD prog 80 (.addr id off) 0 K=K (.addr id (off + 0)):=by
  rw [fa_addr (by rw [fo80_0]; rfl)]; simp only [fo80_0,Option.getD_some,hT4,sz4,true_and]; simp
@[go_sem] theorem fe80_0:fieldAddrD prog 80 (.elemP cs off) 0 K=K (.elemP cs (off + 0)):=by
  rw [fa_elem (by rw [fo80_0]; rfl)]; simp only [fo80_0,Option.getD_some,hT4,sz4,true_and]; simp
@[go_sem] theorem fa80_1:fieldAddrD prog 80 (.addr id off) 1 K=K (.addr id (off + 1)):=by
  rw [fa_addr (by rw [fo80_1]; rfl)]; simp only [fo80_1,Option.getD_some,hT4,sz4,true_and]; simp
@[go_sem] theorem fe80_1:fieldAddrD prog 80 (.elemP cs off) 1 K=K (.elemP cs (off + 1)):=by
  rw [fa_elem (by rw [fo80_1]; rfl)]; simp only [fo80_1,Option.getD_some,hT4,sz4,true_and]; simp
@[go_sem] theorem fa80_2:fieldAddrD prog 80 (.addr id off) 2 K=K (.addr id (off + 2)):=by
  rw [fa_addr (by rw [fo80_2]; rfl)]; simp only [fo80_2,Option.getD_some,hT4,sz4,true_and]; simp
@[go_sem] theorem fe80_2:fieldAddrD prog 80 (.elemP cs off) 2 K=K (.elemP cs (off + 2)):=by
  rw [fa_elem (by rw [fo80_2]; rfl)]; simp only [fo80_2,Option.getD_some,hT4,sz4,true_and]; simp
@[go_sem] theorem fa80_3:fieldAddrD prog 80 (.addr id off) 3 K=K (.addr id (off + 3)):=by
  rw [fa_addr (by rw [fo80_3]; rfl)]; simp only [fo80_3,Option.getD_some,hT4,sz4,true_and]; simp
@[go_sem] theorem fe80_3:fieldAddrD prog 80 (.elemP cs off) 3 K=K (.elemP cs (off + 3)):=by
  rw [fa_elem (by rw [fo80_3]; rfl)]; simp only [fo80_3,Option.getD_some,hT4,sz4,true_and]; simp
@[go_sem] theorem fa80_4:fieldAddrD prog 80 (.addr id off) 4 K=K (.addr id (off + 4)):=by
  rw [fa_addr (by rw [fo80_4]; rfl)]; simp only [fo80_4,Option.getD_some,hT4,sz4,true_and]; simp
@[go_sem] theorem fe80_4:fieldAddrD prog 80 (.elemP cs off) 4 K=K (.elemP cs (off + 4)):=by
  rw [fa_elem (by rw [fo80_4]; rfl)]; simp only [fo80_4,Option.getD_some,hT4,sz4,true_and]; simp
@[go_sem] theorem fa80_5:fieldAddrD prog 80 (.addr id off) 5 K=K (.addr id (off + 5)):=by
  rw [fa_addr (by rw [fo80_5]; rfl)]; simp only [fo80_5,Option.getD_some,hT3,sz3,true_and]; simp
@[go_sem] theorem fe80_5:fieldAddrD prog 80 (.elemP cs off) 5 K=K (.elemP cs (off + 5)):=by
  rw [fa_elem (by rw [fo80_5]; rfl)]; simp only [fo80_5,Option.getD_some,hT3,sz3,true_and]; simp
@[go_sem] theorem fa80_6:fieldAddrD prog 80 (.addr id off) 6 K=K (.addr id (off + 6)):=by
  rw [fa_addr (by rw [fo80_6]; rfl)]; simp only [fo80_6,Option.getD_some,hT3,sz3,true_and]; simp
@[go_sem] theorem fe80_6:fieldAddrD prog 80 (.elemP cs off) 6 K=K (.elemP cs (off + 6)):=by
  rw [fa_elem (by rw [fo80_6]; rfl)]; simp only [fo80_6,Option.getD_some,hT3,sz3,true_and]; simp
@[go_sem] theorem fa80_7:fieldAddrD prog 80 (.addr id off) 7 K=K (.addr id (off + 7)):=by
  rw [fa_addr (by rw [fo80_7]; rfl)]; simp only [fo80_7,Option.getD_some,hT5,sz5,true_and]; simp
@[go_sem] theorem fe80_7:fieldAddrD prog 80 (.elemP cs off) 7 K=K (.elemP cs (off + 7)):=by
  rw [fa_elem (by rw [fo80_7]; rfl)]; simp only [fo80_7,Option.getD_some,hT5,sz5,true_and]; simp
@[go_sem] theorem ld85:loadD prog σ 85 (.addr id off) K=ldM (σ id) off K:=ldA hT85 ag85
@[go_sem] theorem le85:loadD prog σ 85 (.elemP cs off) K=(∃ v,cs[off]?=some v/\K (.pv v)):=load_elem hT85 ag85
@[go_sem] theorem stp85:storeD prog σ 85 (.addr id off) (.pv p) KS=stM σ id (σ id) off (.pv p) KS:=stA hT85 sz85 rfl rfl
@[go_sem] theorem lnl85:lenD prog 85 (.pv (.lst n cs)) K=K (.pv (.int .i64 n)):=len_lst (by rw [el85]; rfl)
@[go_sem] theorem lng85:lenD prog 85 (.grow id n cs) K=K (.pv (.int .i64 n)):=len_grow (by rw [el85]; rfl)
@[go_sem] theorem lnf85:lenD prog 85 (.full n cs) K=K (.pv (.int .i64 n)):=len_full (by rw [el85]; rfl)
@[go_sem] theorem lnm85:lenD prog 85 (.msl id off n size) K=K (.pv (.int .i64 n)):=len_msl (by rw [el85]; rfl)
@[go_sem] theorem lnn85:lenD prog 85 .nilS K=K (.pv (.int .i64 0)):=len_nil (by rw [el85]; rfl)
theorem ixl85 (h:i < n) (hl:cs.length=n * 1):indexAddrD prog 85 (.pv (.lst n cs)) (.pv (.int k i)) K=K (.elemP cs (i * 1)):=by
  rw [ix_lst (by rw [el85]; rfl)]; simp only [el85,Option.getD_some,iS3,sz3,Int.toNat_natCast,true_and]; simp [h,hl]
@[go_sem] theorem ld108:loadD prog σ 108 (.addr id off) K=ldM (σ id) off K:=ldA hT108 ag108
@[go_sem] theorem le108:loadD prog σ 108 (.elemP cs off) K=(∃ v,cs[off]?=some v/\K (.pv v)):=load_elem hT108 ag108
@[go_sem] theorem stp108:storeD prog σ 108 (.addr id off) (.pv p) KS=stM σ id (σ id) off (.pv p) KS:=stA hT108 sz108 rfl rfl
@[go_sem] theorem un108:(prog).underlying 108=some (.int .u64):=by kernel_rfl
@[go_sem] theorem ld120:loadD prog σ 120 (.addr id off) K=ldM (σ id) off K:=ldA hT120 ag120
@[go_sem] theorem le120:loadD prog σ 120 (.elemP cs off) K=(∃ v,cs[off]?=some v/\K (.pv v)):=load_elem hT120 ag120
@[go_sem] theorem stp120:storeD prog σ 120 (.addr id off) (.pv p) KS=stM σ id (σ id) off (.pv p) KS:=stA hT120 sz120 rfl rfl
@[go_sem] theorem un120:(prog).underlying 120=some (.int .i64):=by kernel_rfl
@[go_sem] theorem ld121:loadD prog σ 121 (.addr id off) K=ldM (σ id) off K:=ldA hT121 ag121
@[go_sem] theorem le121:loadD prog σ 121 (.elemP cs off) K=(∃ v,cs[off]?=some v/\K (.pv v)):=load_elem hT121 ag121
@[go_sem] theorem stp121:storeD prog σ 121 (.addr id off) (.pv p) KS=stM σ id (σ id) off (.pv p) KS:=stA hT121 sz121 rfl rfl
@[go_sem] theorem sta121 {j o:Nat}:storeD prog σ 121 (.addr id off) (.addr j o) KS=stM σ id (σ id) off (.addr j o) KS:=stA hT121 sz121 rfl rfl
@[go_sem] theorem ld130:loadD prog σ 130 (.addr id off) K=ldM (σ id) off K:=ldA hT130 ag130
@[go_sem] theorem le130:loadD prog σ 130 (.elemP cs off) K=(∃ v,cs[off]?=some v/\K (.pv v)):=load_elem hT130 ag130
@[go_sem] theorem stp130:storeD prog σ 130 (.addr id off) (.pv p) KS=stM σ id (σ id) off (.pv p) KS:=stA hT130 sz130 rfl rfl
@[go_sem] theorem un130:(prog).underlying 130=some (.float .f32):=by kernel_rfl
@[go_sem] theorem fa135_0:fieldAddrD prog 135 (.addr id off) 0 K=K (.addr id (off + 0)):=by
  rw [fa_addr (by rw [fo135_0]; rfl)]; simp only [fo135_0,Option.getD_some,hT9,sz9,true_and]; simp
@[go_sem] theorem fe135_0:fieldAddrD prog 135 (.elemP cs off) 0 K=K (.elemP cs (off + 0)):=by
  rw [fa_elem (by rw [fo135_0]; rfl)]; simp only [fo135_0,Option.getD_some,hT9,sz9,true_and]; simp
@[go_sem] theorem fa135_1:fieldAddrD prog 135 (.addr id off) 1 K=K (.addr id (off + 1)):=by
  rw [fa_addr (by rw [fo135_1]; rfl)]; simp only [fo135_1,Option.getD_some,hT9,sz9,true_and]; simp
@[go_sem] theorem fe135_1:fieldAddrD prog 135 (.elemP cs off) 1 K=K (.elemP cs (off + 1)):=by
  rw [fa_elem (by rw [fo135_1]; rfl)]; simp only [fo135_1,Option.getD_some,hT9,sz9,true_and]; simp
@[go_sem] theorem fa135_2:fieldAddrD prog 135 (.addr id off) 2 K=K (.addr id (off + 2)):=by
  rw [fa_addr (by rw [fo135_2]; rfl)]; simp only [fo135_2,Option.getD_some,hT75,sz75,true_and]; simp
@[go_sem] theorem fe135_2:fieldAddrD prog 135 (.elemP cs off) 2 K=K (.elemP cs (off + 2)):=by
  rw [fa_elem (by rw [fo135_2]; rfl)]; simp only [fo135_2,Option.getD_some,hT75,sz75,true_and]; simp
@[go_sem] theorem ld141:loadD prog σ 141 (.addr id off) K=ldM (σ id) off K:=ldA hT141 ag141
@[go_sem] theorem le141:loadD prog σ 141 (.elemP cs off) K=(∃ v,cs[off]?=some v/\K (.pv v)):=load_elem hT141 ag141
@[go_sem] theorem stp141:storeD prog σ 141 (.addr id off) (.pv p) KS=stM σ id (σ id) off (.pv p) KS:=stA hT141 sz141 rfl rfl
@[go_sem] theorem lnl141:lenD prog 141 (.pv (.lst n cs)) K=K (.pv (.int .i64 n)):=len_lst (by rw [el141]; rfl)
@[go_sem] theorem lng141:lenD prog 141 (.grow id n cs) K=K (.pv (.int .i64 n)):=len_grow (by rw [el141]; rfl)
@[go_sem] theorem lnf141:lenD prog 141 (.full n cs) K=K (.pv (.int .i64 n)):=len_full (by rw [el141]; rfl)
@[go_sem] theorem lnm141:lenD prog 141 (.msl id off n size) K=K (.pv (.int .i64 n)):=len_msl (by rw [el141]; rfl)
@[go_sem] theorem lnn141:lenD prog 141 .nilS K=K (.pv (.int .i64 0)):=len_nil (by rw [el141]; rfl)
theorem ixm141 (h:i < n):indexAddrD prog 141 (.msl id off n size) (.pv (.int k i)) K=K (.addr id (off + i * 1)):=by
  rw [ix_msl (by rw [el141]; rfl)]; simp only [el141,Option.getD_some,iS5,sz5,Int.toNat_natCast,true_and]; simp [h]
@[go_sem] theorem ld145:loadD prog σ 145 (.addr id off) K=ldM (σ id) off K:=ldA hT145 ag145
@[go_sem] theorem le145:loadD prog σ 145 (.elemP cs off) K=(∃ v,cs[off]?=some v/\K (.pv v)):=load_elem hT145 ag145
@[go_sem] theorem stp145:storeD prog σ 145 (.addr id off) (.pv p) KS=stM σ id (σ id) off (.pv p) KS:=stA hT145 sz145 rfl rfl
@[go_sem] theorem fa171_0:fieldAddrD prog 171 (.addr id off) 0 K=K (.addr id (off + 0)):=by
  rw [fa_addr (by rw [fo171_0]; rfl)]; simp only [fo171_0,Option.getD_some,hT108,sz108,true_and]; simp
@[go_sem] theorem fe171_0:fieldAddrD prog 171 (.elemP cs off) 0 K=K (.elemP cs (off + 0)):=by
  rw [fa_elem (by rw [fo171_0]; rfl)]; simp only [fo171_0,Option.getD_some,hT108,sz108,true_and]; simp
@[go_sem] theorem fa171_1:fieldAddrD prog 171 (.addr id off) 1 K=K (.addr id (off + 1)):=by
  rw [fa_addr (by rw [fo171_1]; rfl)]; simp only [fo171_1,Option.getD_some,hT108,sz108,true_and]; simp
@[go_sem] theorem fe171_1:fieldAddrD prog 171 (.elemP cs off) 1 K=K (.elemP cs (off + 1)):=by
  rw [fa_elem (by rw [fo171_1]; rfl)]; simp only [fo171_1,Option.getD_some,hT108,sz108,true_and]; simp
@[go_sem] theorem fa171_2:fieldAddrD prog 171 (.addr id off) 2 K=K (.addr id (off + 2)):=by
  rw [fa_addr (by rw [fo171_2]; rfl)]; simp only [fo171_2,Option.getD_some,hT3,sz3,true_and]; simp
@[go_sem] theorem fe171_2:fieldAddrD prog 171 (.elemP cs off) 2 K=K (.elemP cs (off + 2)):=by
  rw [fa_elem (by rw [fo171_2]; rfl)]; simp only [fo171_2,Option.getD_some,hT3,sz3,true_and]; simp
@[go_sem] theorem ld172:loadD prog σ 172 (.addr id off) K=ldM (σ id) off K:=ldA hT172 ag172
@[go_sem] theorem le172:loadD prog σ 172 (.elemP cs off) K=(∃ v,cs[off]?=some v/\K (.pv v)):=load_elem hT172 ag172
@[go_sem] theorem stp172:storeD prog σ 172 (.addr id off) (.pv p) KS=stM σ id (σ id) off (.pv p) KS:=stA hT172 sz172 rfl rfl
@[go_sem] theorem un172:(prog).underlying 172=some (.int .u32):=by kernel_rfl
@[go_sem] theorem fa181_0:fieldAddrD prog 181 (.addr id off) 0 K=K (.addr id (off + 0)):=by
  rw [fa_addr (by rw [fo181_0]; rfl)]; simp only [fo181_0,Option.getD_some,hT179,sz179,true_and]; simp
@[go_sem] theorem fe181_0:fieldAddrD prog 181 (.elemP cs off) 0 K=K (.elemP cs (off + 0)):=by
  rw [fa_elem (by rw [fo181_0]; rfl)]; simp only [fo181_0,Option.getD_some,hT179,sz179,true_and]; simp
@[go_sem] theorem fa181_1:fieldAddrD prog 181 (.addr id off) 1 K=K (.addr id (off + 800)):=by
  rw [fa_addr (by rw [fo181_1]; rfl)]; simp only [fo181_1,Option.getD_some,hT3,sz3,true_and]; simp
@[go_sem] theorem fe181_1:fieldAddrD prog 181 (.elemP cs off) 1 K=K (.elemP cs (off + 800)):=by
  rw [fa_elem (by rw [fo181_1]; rfl)]; simp only [fo181_1,Option.getD_some,hT3,sz3,true_and]; simp
@[go_sem] theorem fa181_2:fieldAddrD prog 181 (.addr id off) 2 K=K (.addr id (off + 801)):=by
  rw [fa_addr (by rw [fo181_2]; rfl)]; simp only [fo181_2,Option.getD_some,hT3,sz3,true_and]; simp
@[go_sem] theorem fe181_2:fieldAddrD prog 181 (.elemP cs off) 2 K=K (.elemP cs (off + 801)):=by
  rw [fa_elem (by rw [fo181_2]; rfl)]; simp only [fo181_2,Option.getD_some,hT3,sz3,true_and]; simp
@[go_sem] theorem fa181_3:fieldAddrD prog 181 (.addr id off) 3 K=K (.addr id (off + 802)):=by
  rw [fa_addr (by rw [fo181_3]; rfl)]; simp only [fo181_3,Option.getD_some,hT4,sz4,true_and]; simp
@[go_sem] theorem fe181_3:fieldAddrD prog 181 (.elemP cs off) 3 K=K (.elemP cs (off + 802)):=by
  rw [fa_elem (by rw [fo181_3]; rfl)]; simp only [fo181_3,Option.getD_some,hT4,sz4,true_and]; simp
@[go_sem] theorem fa181_4:fieldAddrD prog 181 (.addr id off) 4 K=K (.addr id (off + 803)):=by
  rw [fa_addr (by rw [fo181_4]; rfl)]; simp only [fo181_4,Option.getD_some,hT4,sz4,true_and]; simp
@[go_sem] theorem fe181_4:fieldAddrD prog 181 (.elemP cs off) 4 K=K (.elemP cs (off + 803)):=by
  rw [fa_elem (by rw [fo181_4]; rfl)]; simp only [fo181_4,Option.getD_some,hT4,sz4,true_and]; simp
@[go_sem] theorem fa208_0:fieldAddrD prog 208 (.addr id off) 0 K=K (.addr id (off + 0)):=by
  rw [fa_addr (by rw [fo208_0]; rfl)]; simp only [fo208_0,Option.getD_some,hT37,sz37,true_and]; simp
@[go_sem] theorem fe208_0:fieldAddrD prog 208 (.elemP cs off) 0 K=K (.elemP cs (off + 0)):=by
  rw [fa_elem (by rw [fo208_0]; rfl)]; simp only [fo208_0,Option.getD_some,hT37,sz37,true_and]; simp
@[go_sem] theorem fa208_1:fieldAddrD prog 208 (.addr id off) 1 K=K (.addr id (off + 1)):=by
  rw [fa_addr (by rw [fo208_1]; rfl)]; simp only [fo208_1,Option.getD_some,hT37,sz37,true_and]; simp
@[go_sem] theorem fe208_1:fieldAddrD prog 208 (.elemP cs off) 1 K=K (.elemP cs (off + 1)):=by
  rw [fa_elem (by rw [fo208_1]; rfl)]; simp only [fo208_1,Option.getD_some,hT37,sz37,true_and]; simp
@[go_sem] theorem fa208_2:fieldAddrD prog 208 (.addr id off) 2 K=K (.addr id (off + 2)):=by
  rw [fa_addr (by rw [fo208_2]; rfl)]; simp only [fo208_2,Option.getD_some,hT3,sz3,true_and]; simp
@[go_sem] theorem fe208_2:fieldAddrD prog 208 (.elemP cs off) 2 K=K (.elemP cs (off + 2)):=by
  rw [fa_elem (by rw [fo208_2]; rfl)]; simp only [fo208_2,Option.getD_some,hT3,sz3,true_and]; simp
@[go_sem] theorem ld211:loadD prog σ 211 (.addr id off) K=ldM (σ id) off K:=ldA hT211 ag211
@[go_sem] theorem le211:loadD prog σ 211 (.elemP cs off) K=(∃ v,cs[off]?=some v/\K (.pv v)):=load_elem hT211 ag211
@[go_sem] theorem stp211:storeD prog σ 211 (.addr id off) (.pv p) KS=stM σ id (σ id) off (.pv p) KS:=stA hT211 sz211 rfl rfl
@[go_sem] theorem un211:(prog).underlying 211=some (.int .u64):=by kernel_rfl
@[go_sem] theorem ld217:loadD prog σ 217 (.addr id off) K=ldM (σ id) off K:=ldA hT217 ag217
@[go_sem] theorem le217:loadD prog σ 217 (.elemP cs off) K=(∃ v,cs[off]?=some v/\K (.pv v)):=load_elem hT217 ag217
@[go_sem] theorem stp217:storeD prog σ 217 (.addr id off) (.pv p) KS=stM σ id (σ id) off (.pv p) KS:=stA hT217 sz217 rfl rfl
@[go_sem] theorem lnl217:lenD prog 217 (.pv (.lst n cs)) K=K (.pv (.int .i64 n)):=len_lst (by rw [el217]; rfl)
@[go_sem] theorem lng217:lenD prog 217 (.grow id n cs) K=K (.pv (.int .i64 n)):=len_grow (by rw [el217]; rfl)
@[go_sem] theorem lnf217:lenD prog 217 (.full n cs) K=K (.pv (.int .i64 n)):=len_full (by rw [el217]; rfl)
@[go_sem] theorem lnm217:lenD prog 217 (.msl id off n size) K=K (.pv (.int .i64 n)):=len_msl (by rw [el217]; rfl)
@[go_sem] theorem lnn217:lenD prog 217 .nilS K=K (.pv (.int .i64 0)):=len_nil (by rw [el217]; rfl)
@[go_sem] theorem fa241_0:fieldAddrD prog 241 (.addr id off) 0 K=K (.addr id (off + 0)):=by
  rw [fa_addr (by rw [fo241_0]; rfl)]; simp only [fo241_0,Option.getD_some,hT37,sz37,true_and]; simp
@[go_sem] theorem fe241_0:fieldAddrD prog 241 (.elemP cs off) 0 K=K (.elemP cs (off + 0)):=by
  rw [fa_elem (by rw [fo241_0]; rfl)]; simp only [fo241_0,Option.getD_some,hT37,sz37,true_and]; simp
@[go_sem] theorem fa241_1:fieldAddrD prog 241 (.addr id off) 1 K=K (.addr id (off + 1)):=by
  rw [fa_addr (by rw [fo241_1]; rfl)]; simp only [fo241_1,Option.getD_some,hT37,sz37,true_and]; simp
@[go_sem] theorem fe241_1:fieldAddrD prog 241 (.elemP cs off) 1 K=K (.elemP cs (off + 1)):=by
  rw [fa_elem (by rw [fo241_1]; rfl)]; simp only [fo241_1,Option.getD_some,hT37,sz37,true_and]; simp
@[go_sem] theorem fa256_0:fieldAddrD prog 256 (.addr id off) 0 K=K (.addr id (off + 0)):=by
  rw [fa_addr (by rw [fo256_0]; rfl)]; simp only [fo256_0,Option.getD_some,hT3,sz3,true_and]; simp
@[go_sem] theorem fe256_0:fieldAddrD prog 256 (.elemP cs off) 0 K=K (.elemP cs (off + 0)):=by
  rw [fa_elem (by rw [fo256_0]; rfl)]; simp only [fo256_0,Option.getD_some,hT3,sz3,true_and]; simp
@[go_sem] theorem fa256_1:fieldAddrD prog 256 (.addr id off) 1 K=K (.addr id (off + 1)):=by
  rw [fa_addr (by rw [fo256_1]; rfl)]; simp only [fo256_1,Option.getD_some,hT9,sz9,true_and]; simp
@[go_sem] theorem fe256_1:fieldAddrD prog 256 (.elemP cs off) 1 K=K (.elemP cs (off + 1)):=by
  rw [fa_elem (by rw [fo256_1]; rfl)]; simp only [fo256_1,Option.getD_some,hT9,sz9,true_and]; simp
@[go_sem] theorem ld257:loadD prog σ 257 (.addr id off) K=ldM (σ id) off K:=ldA hT257 ag257
@[go_sem] theorem le257:loadD prog σ 257 (.elemP cs off) K=(∃ v,cs[off]?=some v/\K (.pv v)):=load_elem hT257 ag257
@[go_sem] theorem stp257:storeD prog σ 257 (.addr id off) (.pv p) KS=stM σ id (σ id) off (.pv p) KS:=stA hT257 sz257 rfl rfl
@[go_sem] theorem lnl257:lenD prog 257 (.pv (.lst n cs)) K=K (.pv (.int .i64 n)):=len_lst (by rw [el257]; rfl)
@[go_sem] theorem lng257:lenD prog 257 (.grow id n cs) K=K (.pv (.int .i64 n)):=len_grow (by rw [el257]; rfl)
@[go_sem] theorem lnf257:lenD prog 257 (.full n cs) K=K (.pv (.int .i64 n)):=len_full (by rw [el257]; rfl)
@[go_sem] theorem lnm257:lenD prog 257 (.msl id off n size) K=K (.pv (.int .i64 n)):=len_msl (by rw [el257]; rfl)
@[go_sem] theorem lnn257:lenD prog 257 .nilS K=K (.pv (.int .i64 0)):=len_nil (by rw [el257]; rfl)
theorem ixl257 (h:i < n) (hl:cs.length=n * 2):indexAddrD prog 257 (.pv (.lst n cs)) (.pv (.int k i)) K=K (.elemP cs (i * 2)):=by
  rw [ix_lst (by rw [el257]; rfl)]; simp only [el257,Option.getD_some,iS256,sz256,Int.toNat_natCast,true_and]; simp [h,hl]
end Go.AD.T

set_option linter.unusedVariables false
set_option linter.unusedSimpArgs false
namespace Go.AD.T
open Go.Proofs.Tryz
section
variable {σ:AS} {K:AV->Prop} {n:Int} {b:Nat}
@[go_sem] theorem cv2_37:convD prog σ 2 37 (.pv (.int .i64 n)) K=K (.pv (.int .u64 (IntKind.wrap .u64 n))):=cvI (by rw [un2]; rfl) un37
@[go_sem] theorem cv3_5:convD prog σ 3 5 (.pv (.int .i64 n)) K=K (.pv (.int .u8 (IntKind.wrap .u8 n))):=cvI (by rw [un3]; rfl) un5
@[go_sem] theorem cv3_21:convD prog σ 3 21 (.pv (.int .i64 n)) K=K (.pv (.int .i32 (IntKind.wrap .i32 n))):=cvI (by rw [un3]; rfl) un21
@[go_sem] theorem cv3_37:convD prog σ 3 37 (.pv (.int .i64 n)) K=K (.pv (.int .u64 (IntKind.wrap .u64 n))):=cvI (by rw [un3]; rfl) un37
@[go_sem] theorem cv3_108:convD prog σ 3 108 (.pv (.int .i64 n)) K=K (.pv (.int .u64 (IntKind.wrap .u64 n))):=cvI (by rw [un3]; rfl) un108
@[go_sem] theorem cv3_172:convD prog σ 3 172 (.pv (.int .i64 n)) K=K (.pv (.int .u32 (IntKind.wrap .u32 n))):=cvI (by rw [un3]; rfl) un172
@[go_sem] theorem cv3_211:convD prog σ 3 211 (.pv (.int .i64 n)) K=K (.pv (.int .u64 (IntKind.wrap .u64 n))):=cvI (by rw [un3]; rfl) un211
@[go_sem] theorem cv5_3:convD prog σ 5 3 (.pv (.int .u8 n)) K=K (.pv (.int .i64 (IntKind.wrap .i64 n))):=cvI (by rw [un5]; rfl) un3
@[go_sem] theorem cv5_21:convD prog σ 5 21 (.pv (.int .u8 n)) K=K (.pv (.int .i32 (IntKind.wrap .i32 n))):=cvI (by rw [un5]; rfl) un21
@[go_sem] theorem cv5_37:convD prog σ 5 37 (.pv (.int .u8 n)) K=K (.pv (.int .u64 (IntKind.wrap .u64 n))):=cvI (by rw [un5]; rfl) un37
@[go_sem] theorem cv5_108:convD prog σ 5 108 (.pv (.int .u8 n)) K=K (.pv (.int .u64 (IntKind.wrap .u64 n))):=cvI (by rw [un5]; rfl) un108
@[go_sem] theorem cv5_172:convD prog σ 5 172 (.pv (.int .u8 n)) K=K (.pv (.int .u32 (IntKind.wrap .u32 n))):=cvI (by rw [un5]; rfl) un172
@[go_sem] theorem cv21_5:convD prog σ 21 5 (.pv (.int .i32 n)) K=K (.pv (.int .u8 (IntKind.wrap .u8 n))):=cvI (by rw [un21]; rfl) un5
@[go_sem] theorem cv21_172:convD prog σ 21 172 (.pv (.int .i32 n)) K=K (.pv (.int .u32 (IntKind.wrap .u32 n))):=cvI (by rw [un21]; rfl) un172
@[go_sem] theorem cv37_2:convD prog σ 37 2 (.pv (.int .u64 n)) K=K (.pv (.int .i64 (IntKind.wrap .i64 n))):=cvI (by rw [un37]; rfl) un2
@[go_sem] theorem cv37_3:convD prog σ 37 3 (.pv (.int .u64 n)) K=K (.pv (.int .i64 (IntKind.wrap .i64 n))):=cvI (by rw [un37]; rfl) un3
@[go_sem] theorem cv37_5:convD prog σ 37 5 (.pv (.int .u64 n)) K=K (.pv (.int .u8 (IntKind.wrap .u8 n))):=cvI (by rw [un37]; rfl) un5
@[go_sem] theorem cv37_22:convD prog σ 37 22 (.pv (.int .u64 n)) K=K (.pv (.float .f64 (floatOfInt .f64 n))):=by simp [convD,un37,un22]
@[go_sem] theorem cv37_130:convD prog σ 37 130 (.pv (.int .u64 n)) K=K (.pv (.float .f32 (floatOfInt .f32 n))):=by simp [convD,un37,un130]
@[go_sem] theorem cv37_172:convD prog σ 37 172 (.pv (.int .u64 n)) K=K (.pv (.int .u32 (IntKind.wrap .u32 n))):=cvI (by rw [un37]; rfl) un172
@[go_sem] theorem cv108_3:convD prog σ 108 3 (.pv (.int .u64 n)) K=K (.pv (.int .i64 (IntKind.wrap .i64 n))):=cvI (by rw [un108]; rfl) un3
@[go_sem] theorem cv108_5:convD prog σ 108 5 (.pv (.int .u64 n)) K=K (.pv (.int .u8 (IntKind.wrap .u8 n))):=cvI (by rw [un108]; rfl) un5
@[go_sem] theorem cv108_172:convD prog σ 108 172 (.pv (.int .u64 n)) K=K (.pv (.int .u32 (IntKind.wrap .u32 n))):=cvI (by rw [un108]; rfl) un172
@[go_sem] theorem cv172_5:convD prog σ 172 5 (.pv (.int .u32 n)) K=K (.pv (.int .u8 (IntKind.wrap .u8 n))):=cvI (by rw [un172]; rfl) un5
@[go_sem] theorem cv172_21:convD prog σ 172 21 (.pv (.int .u32 n)) K=K (.pv (.int .i32 (IntKind.wrap .i32 n))):=cvI (by rw [un172]; rfl) un21
@[go_sem] theorem cv172_37:convD prog σ 172 37 (.pv (.int .u32 n)) K=K (.pv (.int .u64 (IntKind.wrap .u64 n))):=cvI (by rw [un172]; rfl) un37
@[go_sem] theorem cv172_108:convD prog σ 172 108 (.pv (.int .u32 n)) K=K (.pv (.int .u64 (IntKind.wrap .u64 n))):=cvI (by rw [un172]; rfl) un108
end
end Go.AD.T

set_option linter.unusedVariables false
namespace Go.AD
section
variable {P:Program}
theorem extern_sound {f:FuncId} {fn:Func} {e:Array Value->Sem Value} (hf:P.funcs[f]?=some fn) (hname:(fn.name == "runtime.NumGoroutine")=false) (hb:fn.body.isNone=true) (hn:Extern.findNext fn=none) (he:Extern.find fn=some e) {T:Tr}
    (hT:∀ (w0:World) (ρ:Gh) (σ:AS) (w:World) (args:List AV) (us:List Value) (K:AV->AS->Prop) (X:PV->AS->Prop),RelL ρ args us->T args σ K X->∃ r u,(e us.toArray).run P w=.ok u w/\RelV ρ r u/\K r σ):SoundX P f T:=by
  intro w0 hS ρ σ w args us K X H hr h
  obtain ⟨r,u,h1,h2,h3⟩:=hT w0 ρ σ w args us K X hr h
  refine ⟨u,w,ρ,σ,r,?_,Gh.le_refl ρ,H,h2,h3⟩
  rw [run_callFunc_extern hf hname hb hn he,h1]
  rfl
def T_f64bits:Tr:=fun args σ K _=>∃ b:Nat,args=[.pv (.float .f64 b)]/\K (.pv (.int .u64 b)) σ
def T_f64from:Tr:=fun args σ K _=>∃ n:Int,args=[.pv (.int .u64 n)]/\K (.pv (.float .f64 n.toNat)) σ
theorem f64bits_sound {f:FuncId} {fn:Func} (hf:P.funcs[f]?=some fn) (hname:(fn.name == "runtime.NumGoroutine")=false) (hb:fn.body.isNone=true) (hn:Extern.findNext fn=none) (he:Extern.find fn=some Extern.MathFloatBits.float64bits):SoundX P f T_f64bits:=by
  refine extern_sound hf hname hb hn he ?_
  rintro w0 ρ σ w args us K X hr ⟨b,rfl,hK⟩
  obtain ⟨v,vs,rfl,hv,hr⟩:=hr.uncons
  obtain rfl:=hr.nil_inv
  rw [relFlt (x:=.undef) hv]
  exact ⟨_,_,rfl,mkInt ..,hK⟩
theorem f64from_sound {f:FuncId} {fn:Func} (hf:P.funcs[f]?=some fn) (hname:(fn.name == "runtime.NumGoroutine")=false) (hb:fn.body.isNone=true) (hn:Extern.findNext fn=none) (he:Extern.find fn=some Extern.MathFloatBits.float64frombits):SoundX P f T_f64from:=by
  refine extern_sound hf hname hb hn he ?_
  rintro w0 ρ σ w args us K X hr ⟨b,rfl,hK⟩
  obtain ⟨v,vs,rfl,hv,hr⟩:=hr.uncons
  obtain rfl:=hr.nil_inv
  rw [relInt (x:=.undef) hv]
  exact ⟨_,_,rfl,mkFlt ..,hK⟩
end
end Go.AD

set_option linter.unusedVariables false
namespace Go.AD
abbrev Objs:=List (Nat × AObj)
structure Sep (σ0 σ:AS) (l:Objs):Prop where
  sub:σ0.sub σ
  nodup:(l.map (·.1)).Nodup
  new:∀ p ∈ l,σ0 p.1=none
  here:∀ p ∈ l,σ p.1=some p.2
section
variable {σ0 σ:AS} {i:Nat} {o o':AObj} {l l':Objs}
theorem Sep.start (σ:AS):Sep σ σ []:=⟨sub_refl σ,by simp,by simp,by simp⟩
theorem Sep.get (h:Sep σ0 σ l) (hi:(i,o) ∈ l):σ i=some o:=h.here _ hi
theorem Sep.free (h:Sep σ0 σ l) (hi:σ i=none):σ0 i=none/\i ∉ l.map (·.1):=by
  constructor
  · cases e:σ0 i with
    | none=>rfl
    | some o=>rw [h.sub _ _ e] at hi; cases hi
  · intro hm
    obtain ⟨p,hp,rfl⟩:=List.mem_map.1 hm
    rw [h.here p hp] at hi; cases hi
theorem Sep.alloc (h:Sep σ0 σ l) (hi:σ i=none) (o:AObj):Sep σ0 (σ.set i o) ((i,o) :: l):=by
  obtain ⟨h0,hm⟩:=h.free hi
  refine ⟨h.sub.trans (sub_set _ hi),by simp only [List.map_cons,List.nodup_cons]; exact ⟨hm,h.nodup⟩,?_,?_⟩
  · intro p hp
    rcases List.mem_cons.1 hp with rfl | hp
    · exact h0
    · exact h.new p hp
  · intro p hp
    rcases List.mem_cons.1 hp with rfl | hp
    · exact set_same _ _ _
    · have:p.1 ≠ i:=fun e=>hm (List.mem_map.2 ⟨p,hp,e⟩)
      rw [set_ne _ _ this]; exact h.here p hp
theorem Sep.perm (h:Sep σ0 σ l) (hp:l.Perm l'):Sep σ0 σ l' :=
  ⟨h.sub,(hp.map _).nodup_iff.1 h.nodup,fun p hm=>h.new p (hp.mem_iff.2 hm),fun p hm=>h.here p (hp.mem_iff.2 hm)⟩
theorem Sep.front {l1 l2:Objs} {p:Nat × AObj} (h:Sep σ0 σ (l1 ++ p :: l2)):Sep σ0 σ (p :: (l1 ++ l2)):=h.perm List.perm_middle
theorem Sep.back {l1 l2:Objs} {p:Nat × AObj} (h:Sep σ0 σ (p :: (l1 ++ l2))):Sep σ0 σ (l1 ++ p :: l2):=h.perm List.perm_middle.symm
theorem Sep.set1 (h:Sep σ0 σ ((i,o) :: l)) (o':AObj):Sep σ0 (σ.set i o') ((i,o') :: l):=by
  have hn:=h.nodup
  simp only [List.map_cons,List.nodup_cons] at hn
  have h0:=h.new (i,o) (by simp)
  refine ⟨?_,by simp only [List.map_cons,List.nodup_cons]; exact hn,?_,?_⟩
  · intro j x hj
    have:j ≠ i:=by intro e; subst e; rw [h0] at hj; cases hj
    rw [set_ne _ _ this]; exact h.sub _ _ hj
  · intro p hp
    rcases List.mem_cons.1 hp with rfl | hp
    · exact h0
    · exact h.new p (by simp [hp])
  · intro p hp
    rcases List.mem_cons.1 hp with rfl | hp
    · exact set_same _ _ _
    · have:p.1 ≠ i:=fun e=>hn.1 (List.mem_map.2 ⟨p,hp,e⟩)
      rw [set_ne _ _ this]; exact h.here p (by simp [hp])
theorem Sep.set {l1 l2:Objs} (h:Sep σ0 σ (l1 ++ (i,o) :: l2)) (o':AObj):Sep σ0 (σ.set i o') (l1 ++ (i,o') :: l2):=(h.front.set1 o').back
theorem Sep.drop {p:Nat × AObj} (h:Sep σ0 σ (p :: l)):Sep σ0 σ l:=by
  have hn:=h.nodup
  simp only [List.map_cons,List.nodup_cons] at hn
  exact ⟨h.sub,hn.2,fun q hq=>h.new q (by simp [hq]),fun q hq=>h.here q (by simp [hq])⟩
theorem Sep.del (h:Sep σ0 σ ((i,o) :: l)):Sep σ0 (σ.del i) l:=by
  have hn:=h.nodup
  simp only [List.map_cons,List.nodup_cons] at hn
  have h0:=h.new (i,o) (by simp)
  refine ⟨?_,hn.2,fun q hq=>h.new q (by simp [hq]),fun q hq=>?_⟩
  · intro j x hj
    have:j ≠ i:=by intro e; subst e; rw [h0] at hj; cases hj
    rw [del_ne _ this]; exact h.sub _ _ hj
  · have:q.1 ≠ i:=fun e=>hn.1 (List.mem_map.2 ⟨q,hq,e⟩)
    rw [del_ne _ this]; exact h.here q (by simp [hq])
theorem Sep.hide (h:Sep σ0 σ ((i,o) :: l)):Sep (σ0.set i o) σ l:=by
  have hn:=h.nodup
  simp only [List.map_cons,List.nodup_cons] at hn
  refine ⟨?_,hn.2,?_,fun q hq=>h.here q (by simp [hq])⟩
  · intro j x hj
    by_cases e:j=i
    · subst e; rw [set_same] at hj; rw [h.here (j,o) (by simp)]; exact hj
    · rw [set_ne _ _ e] at hj; exact h.sub _ _ hj
  · intro q hq
    have:q.1 ≠ i:=fun e=>hn.1 (List.mem_map.2 ⟨q,hq,e⟩)
    rw [set_ne _ _ this]; exact h.new q (by simp [hq])
theorem Sep.unhide (h:Sep (σ0.set i o) σ l) (h0:σ0 i=none):Sep σ0 σ ((i,o) :: l):=by
  have hni:∀ q ∈ l,q.1 ≠ i:=by
    intro q hq e
    have:=h.new q hq
    rw [e,set_same] at this; cases this
  refine ⟨?_,?_,?_,?_⟩
  · intro j x hj
    have:j ≠ i:=by intro e; subst e; rw [h0] at hj; cases hj
    exact h.sub _ _ (by rw [set_ne _ _ this]; exact hj)
  · simp only [List.map_cons,List.nodup_cons]
    refine ⟨?_,h.nodup⟩
    intro hm
    obtain ⟨q,hq,e⟩:=List.mem_map.1 hm
    exact hni q hq e
  · intro q hq
    rcases List.mem_cons.1 hq with rfl | hq
    · exact h0
    · have:=h.new q hq
      rwa [set_ne _ _ (hni q hq)] at this
  · intro q hq
    rcases List.mem_cons.1 hq with rfl | hq
    · exact h.sub _ _ (set_same _ _ _)
    · exact h.here q hq
def AS.adds (σ:AS):Objs->AS
  | []=>σ
  | p :: l=>(AS.adds σ l).set p.1 p.2
theorem Sep.push {r:Objs} (h:Sep σ0 σ (r ++ l)):Sep (σ0.adds r) σ l:=by
  induction r generalizing l with
  | nil=>exact h
  | cons p r ih =>
    have h1:Sep σ0 σ (r ++ p :: l):=h.perm (List.perm_middle (a:=p) (l₁:=r) (l₂:=l)).symm
    exact (ih h1).hide
theorem Sep.pop {r:Objs} (h:Sep (σ0.adds r) σ l) (hn:(r.map (·.1)).Nodup) (h0:∀ p ∈ r,σ0 p.1=none):Sep σ0 σ (r ++ l):=by
  induction r generalizing l with
  | nil=>exact h
  | cons p r ih =>
    simp only [List.map_cons,List.nodup_cons] at hn
    have hp:(σ0.adds r) p.1=none:=by
      have:∀ r:Objs,p.1 ∉ r.map (·.1)->σ0 p.1=none->(σ0.adds r) p.1=none:=by
        intro r
        induction r with
        | nil=>intro _ h; exact h
        | cons q r ih =>
          intro h1 h2
          simp only [List.map_cons,List.mem_cons,not_or] at h1
          show (AS.adds σ0 r).set q.1 q.2 p.1=none
          rw [set_ne _ _ h1.1]; exact ih h1.2 h2
      exact this r hn.1 (h0 p (by simp))
    have h1:Sep (σ0.adds r) σ (p :: l):=Sep.unhide h hp
    have h2:=ih h1 hn.2 (fun q hq=>h0 q (by simp [hq]))
    exact h2.perm (List.perm_middle (a:=p) (l₁:=r) (l₂:=l))
theorem Sep.part {r:Objs} (h:Sep σ0 σ (r ++ l)) {Q:Prop} (hQ:Sep (σ0.adds r) σ l->(∀ σ' l',Sep (σ0.adds r) σ' l'->Sep σ0 σ' (r ++ l'))->Q):Q:=by
  refine hQ h.push fun σ' l' h'=>h'.pop ?_ fun p hp=>h.new p (by simp [hp])
  have:=h.nodup
  rw [List.map_append,List.nodup_append] at this
  exact this.1
end
def RowV (P:Program) (e:TypeId) (v:AV) (L:Objs) (n:Nat) (cs:List PV):Prop :=
  cs.length=n * szOf P e/\((v=.nilS/\L=[]/\n=0/\cs=[]) \/ ∃ id mk,v=.grow id n cs/\L=[(id,.front n (szOf P e) mk)])
section
variable {P:Program} {σ0 σ:AS} {t e:TypeId} {v x:AV} {n m:Nat} {cs ys:List PV} {l L:Objs}
theorem RowV.nil (P:Program) (e:TypeId):RowV P e .nilS [] 0 []:=⟨by simp,.inl ⟨rfl,rfl,rfl,rfl⟩⟩
theorem RowV.toPV (G:RowV P e v L n cs):Go.AD.toPV v=some (.lst n cs):=by
  rcases G.2 with ⟨rfl,rfl,rfl,rfl⟩ | ⟨id,mk,rfl,rfl⟩ <;> rfl
theorem RowV.cells (G:RowV P e v L n cs):v.cells=[v]:=by
  rcases G.2 with ⟨rfl,rfl,rfl,rfl⟩ | ⟨id,mk,rfl,rfl⟩ <;> rfl
theorem RowV.cellOk (G:RowV P e v L n cs):v.cellOk=true:=by
  rcases G.2 with ⟨rfl,rfl,rfl,rfl⟩ | ⟨id,mk,rfl,rfl⟩ <;> rfl
theorem RowV.append {K:AV->AS->Prop} (G:RowV P e v L n cs) (h:Sep σ0 σ (l ++ L)) (hT:RowT P t e) (hx:shown P σ e x=some (m,ys)) (hl:ys.length=m * szOf P e) (hm:0 < m) (hb:(n + m) * byOf P e <= 140737488355328) (hn:n + m <= 9223372036854775807)
    (hK:∀ v' L' σ',RowV P e v' L' (n + m) (cs ++ ys)->Sep σ0 σ' (l ++ L')->K v' σ'):appendD P false σ t v x K:=by
  have hlen:(cs ++ ys).length=(n + m) * szOf P e:=by rw [List.length_append,G.1,hl,Nat.add_mul]
  rcases G.2 with ⟨rfl,rfl,rfl,rfl⟩ | ⟨id,mk,rfl,rfl⟩
  · refine app_nil hT hx hl (by omega) (by simpa using hb) (by omega) ?_
    intro id hid
    refine hK _ [(id,.front (0 + m) (szOf P e) (some e))] _ ⟨hlen,.inr ⟨id,some e,by simp,rfl⟩⟩ ?_
    have:=(h.alloc hid (.front m (szOf P e) (some e)))
    simp only [List.append_nil] at this
    exact (this.perm (by simpa using (List.perm_append_comm (l₁:=[(id,AObj.front m (szOf P e) (some e))]) (l₂:=l))))
  · refine app_grow hT hx hl (h.get (o:=.front n (szOf P e) mk) (by simp)) (by omega) G.1 hb hn ?_
    exact hK _ _ _ ⟨hlen,.inr ⟨id,_,rfl,rfl⟩⟩ (h.set _)
end
end Go.AD

set_option maxRecDepth 100000
set_option linter.unusedSimpArgs false
namespace Go.AD.Fp
def infR : Nat := 2047 * 2 ^ 52
def tn (p : Int) : Nat := 10 ^ p.toNat
def td (p : Int) : Nat := 10 ^ (-p).toNat
theorem td_pos (p : Int) : 0 < td p := Nat.pow_pos (by decide)
def e1074 : Nat := 2 ^ 1074
def rungD (d : Nat) (p : Int) : Nat := min (rung (d * tn p * e1074) (td p)) infR
def packN (m : Nat) (e : Int) : Nat := if m < 2 ^ 52 then m else if 972 <= -e then infR else m - 2 ^ 52 + (1075 - e).toNat * 2 ^ 52
def expZ (d : Nat) (p : Int) : Int := min 1074 (53 - (d.log2 + 1 : Nat) - lpZ p)
def sZ (d : Nat) (p : Int) : Int := -(expZ d p - (64 - (d.log2 + 1 : Nat)) + lpZ p + 3)
def uN (d : Nat) (p : Int) : Nat := uscaleN (d * 2 ^ (64 - (d.log2 + 1))) (hiP p) (loP p) (sZ d p).toNat
def halfU (u : Nat) : Nat := 2 * (u / 2 / 2) + (if u / 2 % 2 = 0 /\ u % 2 = 0 then 0 else 1)
def rndU (u : Nat) : Nat := (u + 1 + u / 4 % 2) / 4
def parse64N (d : Nat) (p : Int) : Nat :=
  if 64 <= sZ d p then 0 else if 2 ^ 55 - 2 <= uN d p then packN (rndU (halfU (uN d p))) (expZ d p - 1) else packN (rndU (uN d p)) (expZ d p)
theorem unr_cross {a b c d : Nat} (hb : 0 < b) (hd : 0 < d) (h : a * d = c * b) : unr a b = unr c d := by
  rw [<- unr_scale (a := a) (b := b) hd, h, Nat.mul_comm b d, unr_scale hb]
theorem lp_facts {p : Int} (h1 : -345 <= p) (h2 : p <= 310) : 2 ^ 127 * denP p <= numP p /\ numP p < 2 ^ 128 * denP p /\ pmP p <= 2 ^ 128 - 2 ^ 64 /\ 2 ^ 127 <= pmP p := by
  have := okOf h1 h2
  unfold okP at this
  simp only [Bool.and_eq_true, decide_eq_true_eq] at this
  refine ⟨this.1.1.1, this.1.1.2, this.1.2, ?_⟩
  have hp := pm_facts p
  have hd := denP_pos p
  exact Nat.le_of_mul_le_mul_right (Nat.le_trans this.1.1.1 hp.1) hd
theorem two_pos (n : Nat) : 0 < 2 ^ n := Nat.pow_pos (by decide)
theorem pw4 (a i j k l : Nat) : a * 2 ^ (i + j + k + l) = a * (2 ^ i * 2 ^ j * 2 ^ k * 2 ^ l) := by rw [Nat.pow_add, Nat.pow_add, Nat.pow_add]
theorem u_eq {d : Nat} {p : Int} (hd : 0 < d) (hd2 : d < 2 ^ 64) (h1 : -345 <= p) (h2 : p <= 310) (hs : sZ d p < 64) : uN d p = unr (d * tn p * 2 ^ 1074) (td p * 2 ^ (1074 - expZ d p).toNat) /\ 8 <= sZ d p := by
  have hlog : d.log2 < 64 := (Nat.log2_lt (by omega)).2 hd2
  have lo := Nat.log2_self_le (show d ≠ 0 by omega)
  have hi := (Nat.log2_lt (show d ≠ 0 by omega)).1 (Nat.lt_succ_self d.log2)
  have h8 : 8 <= sZ d p := by unfold sZ expZ; omega
  refine ⟨?_, h8⟩
  have hx1 : 2 ^ 63 <= d * 2 ^ (64 - (d.log2 + 1)) := by
    have e : (2 : Nat) ^ 63 = 2 ^ d.log2 * 2 ^ (64 - (d.log2 + 1)) := by rw [<- Nat.pow_add]; congr 1; omega
    rw [e]; exact Nat.mul_le_mul_right _ lo
  have hx2 : d * 2 ^ (64 - (d.log2 + 1)) < 2 ^ 64 := by
    have e : (2 : Nat) ^ 64 = 2 ^ (d.log2 + 1) * 2 ^ (64 - (d.log2 + 1)) := by rw [<- Nat.pow_add]; congr 1; omega
    rw [e]; exact Nat.mul_lt_mul_of_pos_right hi (Nat.pow_pos (by decide))
  obtain ⟨f1, f2, f3, f4⟩ := lp_facts h1 h2
  have hpm := pm_facts p
  have hh := hl_facts p
  have hhi : 2 ^ 63 <= hiP p := by omega
  have hdp := denP_pos p
  unfold uN
  rw [uscale_eq (num := numP p) (den := denP p) (pm := pmP p) hx2 hh.2 hh.1 hdp hpm.1 hpm.2 (by
    have : 2 ^ 63 * 2 ^ 63 <= d * 2 ^ (64 - (d.log2 + 1)) * hiP p := Nat.mul_le_mul hx1 hhi
    omega) (by omega) (near h1 h2 hx1 hx2)]
  refine unr_cross (Nat.mul_pos hdp (Nat.pow_pos (by decide))) (Nat.mul_pos (td_pos p) (Nat.pow_pos (by decide))) ?_
  unfold numP denP tn td
  generalize (10 : Nat) ^ p.toNat = T
  generalize (10 : Nat) ^ (-p).toNat = D
  have pw : ∀ {i j k l m n : Nat}, i + j + k = l + m + n -> (2 : Nat) ^ i * 2 ^ j * 2 ^ k = 2 ^ l * 2 ^ m * 2 ^ n := fun h => by
    rw [<- Nat.pow_add, <- Nat.pow_add, <- Nat.pow_add, <- Nat.pow_add, h]
  have e := pw (i := 64 - (d.log2 + 1)) (j := (127 - lpZ p).toNat) (k := (1074 - expZ d p).toNat) (l := 1074) (m := (lpZ p - 127).toNat) (n := 130 + (sZ d p).toNat) (by
    have : expZ d p <= 1074 := by unfold expZ; omega
    have e : sZ d p = -(expZ d p - (64 - (d.log2 + 1 : Nat)) + lpZ p + 3) := rfl
    omega)
  generalize (2 : Nat) ^ (64 - (d.log2 + 1)) = a1 at *
  generalize (2 : Nat) ^ (127 - lpZ p).toNat = a2 at *
  generalize (2 : Nat) ^ (1074 - expZ d p).toNat = a3 at *
  generalize (2 : Nat) ^ 1074 = a4 at *
  generalize (2 : Nat) ^ (lpZ p - 127).toNat = a5 at *
  generalize (2 : Nat) ^ (130 + (sZ d p).toNat) = a6 at *
  have l : d * a1 * (T * a2) * (D * a3) = d * T * D * (a1 * a2 * a3) := by
    simp only [Nat.mul_assoc, Nat.mul_left_comm, Nat.mul_comm]
  have r : d * T * a4 * (D * a5 * a6) = d * T * D * (a4 * a5 * a6) := by
    simp only [Nat.mul_assoc, Nat.mul_left_comm, Nat.mul_comm]
  rw [l, r, e]
theorem upper {d c k : Nat} {p : Int} (h1 : -345 <= p) (h2 : p <= 310) (hi : d < 2 ^ c) (h : (c : Int) + lpZ p + 1075 <= k) : d * tn p * 2 ^ 1074 < td p * 2 ^ k := by
  obtain ⟨_, f2, _, _⟩ := lp_facts h1 h2
  unfold numP denP at f2
  change tn p * _ < _ at f2
  change _ < 2 ^ 128 * (td p * _) at f2
  generalize tn p = T at *
  generalize td p = D at *
  refine Nat.lt_of_mul_lt_mul_right (a := 2 ^ (127 - lpZ p).toNat) ?_
  have e1 : d * T * 2 ^ 1074 * 2 ^ (127 - lpZ p).toNat = d * (T * 2 ^ (127 - lpZ p).toNat) * 2 ^ 1074 := by
    simp only [Nat.mul_assoc, Nat.mul_left_comm, Nat.mul_comm]
  have e2 : D * 2 ^ k * 2 ^ (127 - lpZ p).toNat = D * 2 ^ (k + (127 - lpZ p).toNat) := by rw [Nat.mul_assoc, <- Nat.pow_add]
  have e3 : 2 ^ c * (2 ^ 128 * (D * 2 ^ (lpZ p - 127).toNat)) * 2 ^ 1074 = D * 2 ^ (c + 128 + (lpZ p - 127).toNat + 1074) := by
    rw [pw4]
    simp only [Nat.mul_assoc, Nat.mul_left_comm, Nat.mul_comm]
  rw [e1, e2]
  have s1 : d * (T * 2 ^ (127 - lpZ p).toNat) < 2 ^ c * (2 ^ 128 * (D * 2 ^ (lpZ p - 127).toNat)) := Nat.mul_lt_mul'' hi f2
  have s2 := Nat.mul_lt_mul_of_pos_right s1 (two_pos 1074)
  rw [e3] at s2
  refine Nat.lt_of_lt_of_le s2 (Nat.mul_le_mul_left D (Nat.pow_le_pow_right (by decide) ?_))
  omega
theorem lower {d c k : Nat} {p : Int} (h1 : -345 <= p) (h2 : p <= 310) (lo : 2 ^ c <= d) (h : (k : Int) <= c + lpZ p + 1074) : td p * 2 ^ k <= d * tn p * 2 ^ 1074 := by
  obtain ⟨f1, _, _, _⟩ := lp_facts h1 h2
  unfold numP denP at f1
  change _ <= tn p * _ at f1
  change 2 ^ 127 * (td p * _) <= _ at f1
  generalize tn p = T at *
  generalize td p = D at *
  refine Nat.le_of_mul_le_mul_right ?_ (two_pos (127 - lpZ p).toNat)
  have e1 : d * T * 2 ^ 1074 * 2 ^ (127 - lpZ p).toNat = d * (T * 2 ^ (127 - lpZ p).toNat) * 2 ^ 1074 := by
    simp only [Nat.mul_assoc, Nat.mul_left_comm, Nat.mul_comm]
  have e2 : D * 2 ^ k * 2 ^ (127 - lpZ p).toNat = D * 2 ^ (k + (127 - lpZ p).toNat) := by rw [Nat.mul_assoc, <- Nat.pow_add]
  have e3 : 2 ^ c * (2 ^ 127 * (D * 2 ^ (lpZ p - 127).toNat)) * 2 ^ 1074 = D * 2 ^ (c + 127 + (lpZ p - 127).toNat + 1074) := by
    rw [pw4]
    simp only [Nat.mul_assoc, Nat.mul_left_comm, Nat.mul_comm]
  rw [e1, e2]
  have s1 : 2 ^ c * (2 ^ 127 * (D * 2 ^ (lpZ p - 127).toNat)) <= d * (T * 2 ^ (127 - lpZ p).toNat) := Nat.mul_le_mul lo f1
  have s2 := Nat.mul_le_mul_right (2 ^ 1074) s1
  rw [e3] at s2
  refine Nat.le_trans (Nat.mul_le_mul_left D (Nat.pow_le_pow_right (by decide) ?_)) s2
  omega
theorem unr_ge {a b n : Nat} (hb : 0 < b) (h : 2 * n <= unr a b) : n * b <= 2 * a := by
  unfold unr at h
  rw [<- Nat.le_div_iff_mul_le hb]
  split at h <;> omega
theorem unr_lt {a b n : Nat} (hb : 0 < b) (h : unr a b < 2 * n) : 2 * a < n * b := by
  unfold unr at h
  rw [<- Nat.div_lt_iff_lt_mul hb]
  omega
theorem pack_eq {a b k : Nat} {e : Int} (he : e = 1074 - k) (hr : rung a b = k * 2 ^ 52 + rne a (b * 2 ^ k)) (hm : rne a (b * 2 ^ k) <= 2 ^ 53) (hk : k = 0 \/ 2 ^ 52 <= rne a (b * 2 ^ k)) : packN (rne a (b * 2 ^ k)) e = min (rung a b) infR := by
  rw [hr]
  generalize rne a (b * 2 ^ k) = m at *
  unfold packN infR
  by_cases h1 : m < 2 ^ 52
  · rw [if_pos h1]
    have : k = 0 := by omega
    subst this
    omega
  · rw [if_neg h1]
    by_cases h2 : 972 <= -e
    · rw [if_pos h2]; omega
    · rw [if_neg h2, he]
      have : (1075 - (1074 - (k : Int))).toNat = k + 1 := by omega
      rw [this, Nat.add_mul]
      omega
theorem parse64_eq {d : Nat} {p : Int} (hd : 0 < d) (hd2 : d < 2 ^ 64) (h1 : -345 <= p) (h2 : p <= 310) : parse64N d p = rungD d p := by
  have lo := Nat.log2_self_le (show d ≠ 0 by omega)
  have hi := (Nat.log2_lt (show d ≠ 0 by omega)).1 (Nat.lt_succ_self d.log2)
  have hB := td_pos p
  have ee : expZ d p = min 1074 (53 - (d.log2 + 1 : Nat) - lpZ p) := rfl
  have es : sZ d p = -(expZ d p - (64 - (d.log2 + 1 : Nat)) + lpZ p + 3) := rfl
  unfold parse64N rungD e1074
  by_cases h64 : 64 <= sZ d p
  · rw [if_pos h64]
    have l1 : d * tn p * 2 ^ 1074 < td p * 2 ^ (53 + 0) := upper h1 h2 hi (by omega)
    have l2 : d * 2 ^ 55 * tn p * 2 ^ 1074 < td p * 2 ^ 53 := upper (c := d.log2.succ + 55) h1 h2 (by rw [Nat.pow_add]; exact Nat.mul_lt_mul_of_pos_right hi (by decide)) (by omega)
    have l3 : d * 2 ^ 55 * tn p * 2 ^ 1074 = d * tn p * 2 ^ 1074 * 2 ^ 55 := by simp only [Nat.mul_assoc, Nat.mul_left_comm, Nat.mul_comm]
    rw [l3] at l2
    clear l3
    rw [rung_k hB l1 (.inl rfl)]
    have key : ∀ a : Nat, a * 2 ^ 55 < td p * 2 ^ 53 -> 0 = min (0 * 2 ^ 52 + rne a (td p * 2 ^ 0)) infR := fun a l2 => by
      rw [Nat.pow_zero, Nat.mul_one]
      have : ¬ (0 + 1 <= rne a (td p)) := by
        rw [le_rne hB]
        omega
      omega
    exact key _ l2
  · rw [if_neg h64]
    obtain ⟨eu, hs8⟩ := u_eq hd hd2 h1 h2 (by omega)
    rw [eu]
    obtain ⟨k, hk⟩ : ∃ k : Nat, expZ d p = 1074 - k := ⟨(1074 - expZ d p).toNat, by omega⟩
    rw [show (1074 - expZ d p).toNat = k by omega, hk]
    have l1 : d * tn p * 2 ^ 1074 < td p * 2 ^ (54 + k) := upper h1 h2 hi (by omega)
    have l2 : k = 0 \/ td p * 2 ^ (52 + k) <= d * tn p * 2 ^ 1074 := by
      rcases Nat.eq_zero_or_pos k with h | h
      · exact .inl h
      · exact .inr (lower h1 h2 lo (by omega))
    generalize d * tn p * 2 ^ 1074 = a at *
    generalize td p = b at *
    have hbk : 0 < b * 2 ^ k := Nat.mul_pos hB (two_pos k)
    have e53 : b * 2 ^ (53 + k) = 2 ^ 53 * (b * 2 ^ k) := pow_split ..
    have e54 : b * 2 ^ (54 + k) = 2 ^ 54 * (b * 2 ^ k) := pow_split ..
    have e52 : b * 2 ^ (52 + k) = 2 ^ 52 * (b * 2 ^ k) := pow_split ..
    have ek : b * 2 ^ (k + 1) = 2 * (b * 2 ^ k) := by rw [Nat.pow_succ, <- Nat.mul_assoc, Nat.mul_comm]
    have e541 : b * 2 ^ (53 + (k + 1)) = 2 ^ 53 * (b * 2 ^ (k + 1)) := pow_split ..
    have e521 : b * 2 ^ (52 + (k + 1)) = 2 ^ 52 * (b * 2 ^ (k + 1)) := pow_split ..
    by_cases hu : 2 ^ 55 - 2 <= unr a (b * 2 ^ k)
    · rw [if_pos hu]
      have g1 : (2 ^ 54 - 1) * (b * 2 ^ k) <= 2 * a := unr_ge hbk (by omega)
      have eh : halfU (unr a (b * 2 ^ k)) = unr a (b * 2 ^ (k + 1)) := by rw [ek, unr_half hbk]; rfl
      rw [eh]
      have hbk1 : 0 < b * 2 ^ (k + 1) := Nat.mul_pos hB (two_pos _)
      have er : rndU (unr a (b * 2 ^ (k + 1))) = rne a (b * 2 ^ (k + 1)) := rnd_unr hbk1
      rw [er]
      have hr : rung a b = (k + 1) * 2 ^ 52 + rne a (b * 2 ^ (k + 1)) := by
        rcases Nat.lt_or_ge a (b * 2 ^ (53 + k)) with h | h
        · exact rung_up hB h l2 g1
        · exact rung_k hB (by omega) (.inr (by omega))
      refine pack_eq (k := k + 1) (by omega) hr (rne_le hbk1 (by omega)) (.inr ?_)
      have : 4503599627370495 + 1 <= rne a (b * 2 ^ (k + 1)) := (le_rne hbk1).2 (.inl (by omega))
      omega
    · rw [if_neg hu]
      have g1 : 2 * a < (2 ^ 54 - 1) * (b * 2 ^ k) := unr_lt hbk (by omega)
      have er : rndU (unr a (b * 2 ^ k)) = rne a (b * 2 ^ k) := rnd_unr hbk
      rw [er]
      refine pack_eq (by omega) (rung_k hB (by omega) l2) (rne_le hbk (by omega)) ?_
      rcases l2 with h | h
      · exact .inl h
      · exact .inr (le_rne' hbk (by omega))
end Go.AD.Fp
