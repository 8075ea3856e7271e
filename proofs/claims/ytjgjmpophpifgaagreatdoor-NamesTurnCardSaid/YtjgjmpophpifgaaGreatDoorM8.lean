import Derived.Test.YtjgjmpophpifgaaGreatDoorM7
import Derived.Shelf.Strings.Builder1
import Derived.Shelf.Small.Bits
import Derived.Shelf.Small.Strs
import Derived.Shelf.Strings.BuilderF
import Derived.Shelf.Strings.BuilderK
import Derived.Shelf.Strconv.Itoa0
import Derived.Shelf.Strings.Search1
import Derived.Shelf.Strings.Search2
import Derived.Shelf.Strings.Search3
import Derived.Shelf.LaysM
import Derived.Shelf.Strings.Shaped
import Derived.Shelf.Sort.Plain
import Derived.Shelf.Strings.Prefix
import Derived.Shelf.Slices.In.SortNone
import Derived.Test.YtjgjmpophpifgaaGreatDoorChecked
set_option linter.unusedVariables false
namespace Go.AD
open Go.Proofs RowKit
theorem relNilPtr {ρ:Gh} {u:Value} (h:RelV ρ (.pv .nilPtr) u):u=.pointer none:=by
  cases h with | pv h=>cases h; rfl
def T_copyCheck:Tr:=fun args σ K _=>∃ id p buf,args=[.addr id 0]/\σ id=some (.cells [p,buf] (some 173))/\(p=.pv .nilPtr \/ p=.addr id 0)/\K (.tuple []) (σ.set id (.cells [.addr id 0,buf] (some 173)))
theorem F_copyCheck:SoundF Tryz.prog 178 T_copyCheck:=by
  rintro w0 hS ρ σ w args us K X H hr ⟨id,p,buf,rfl,ho,hp,hK⟩
  obtain ⟨u,us',rfl,hu,hnil⟩:=hr.uncons
  obtain rfl:us'=[]:=hnil.nil_inv
  obtain ⟨b,o,m,cur,e,fz,hl,hB,hb,hf,hm,hle,hok,hrr,hi,hvar⟩:=H.obj id _ ho
  obtain ⟨rfl,rfl,hsz⟩:=hvar 173 rfl
  obtain ⟨b',o',m',rfl,hl'⟩:=inv_addr hu
  rw [hl] at hl'
  cases hl'
  refine ⟨Tryz.call178 _ w,?_⟩
  have hsz2:cur.size=2:=by simpa using hsz
  obtain ⟨b0,o0,m0,vs,q1,_,q3,_,q5⟩:=cells_at H ho
  rw [hl] at q1
  cases q1
  obtain ⟨v0,vs',rfl,r0,r1⟩:=q3.uncons
  have c0:w.cell? ⟨b,0,none⟩=some v0:=q5 0 v0 rfl
  rcases hp with rfl | rfl
  · have e0:=relNilPtr r0
    subst e0
    have hsh:w.shape? b=some (173,2):=by simp [World.shape?,hb,hsz2]
    have hst:storeD Tryz.prog σ 171 (.addr id 0) (.addr id 0) fun σ=>K (.tuple []) σ:=by
      rw [store_addr (by kernel_rfl) (by rw [T.sz171]; rfl) rfl ho]
      exact ⟨by simp [AV.cells],hK⟩
    obtain ⟨σ',w',k1,k2,k3⟩:=store_sound H hst hu hu
    have hfz:w.frozen? ⟨b,0,none⟩=false:=frozen_no hb hf (by omega)
    refine (copyCheck_fresh b w c0 hsh hfz).mono fun e W' ⟨he,hW⟩=>?_
    subst he hW
    have ew:w'=w.setCell ⟨b,0,none⟩ (.pointer (some ⟨b,0,none⟩)):=by
      have hst2:=run_storeCells_cells (P:=Tryz.prog) b 0 [.pointer (some ⟨b,0,none⟩)] 0 w
        (fun j hj=>by
          have:j=0:=by simpa using hj
          subst this
          simp [c0])
        (fun j hj=>by
          have:j=0:=by simpa using hj
          subst this
          simpa using hfz) (fun u hu=>by
          have:u=.pointer (some ⟨b,0,none⟩):=by simpa using hu
          subst this; rfl)
      have k:(Instr.storeAt 171 (.pointer (some ⟨b,0 + 0,none⟩)) (.pointer (some ⟨b,0 + 0,none⟩))).run Tryz.prog w=.ok () (w.setCells b 0 [.pointer (some ⟨b,0,none⟩)]):=by
        have hs:(inf Tryz.prog 171).isSome=true:=by kernel_rfl
        simp [Instr.storeAt,Instr.sureAddr,storeVar,run_size hs,T.sz171,Value.cells] at hst2 ⊢
        exact hst2
      rw [k] at k1
      cases k1
      rfl
    rw [ew] at k2
    exact ⟨ρ,σ',Gh.le_refl ρ,k2,.tuple [],.of_tuple (.nil ρ),k3⟩
  · have e0:=inv_addr r0
    obtain ⟨b2,o2,m2,rfl,hl2⟩:=e0
    rw [hl] at hl2
    cases hl2
    refine (copyCheck_used b w c0).mono fun e W' ⟨he,hW⟩=>?_
    subst he hW
    rw [AS.set_id ho] at hK
    exact ⟨ρ,σ,Gh.le_refl ρ,H,.tuple [],.of_tuple (.nil ρ),hK⟩
theorem freeze_other (w:World) (a:Addr) (n k:Nat) (h:k ≠ a.block):(w.freeze a n).heap[k]?=w.heap[k]?:=by
  unfold World.freeze
  split
  · rfl
  · simp [Array.getElem?_modify,Ne.symm h]
theorem freeze_cell (w:World) (a:Addr) (n:Nat) (b o:Nat):(w.freeze a n).cell? ⟨b,o,none⟩=w.cell? ⟨b,o,none⟩:=by
  by_cases h:b=a.block
  · subst h
    unfold World.freeze
    split
    · rfl
    · simp only [World.cell?,Array.getElem?_modify,if_true]
      cases e:w.heap[a.block]? with
      | none=>rfl
      | some ob=>cases ob <;> rfl
  · exact World.cell?_of_block (freeze_other w a n b h)
def T_String:Tr:=fun args σ K _=>∃ id p buf,args=[.addr id 0]/\σ id=some (.cells [p,buf] (some 173)) /\
  ((buf=.nilS/\K (.pv (.str [])) σ) \/ ∃ g l,buf=.grow g l.length (pvBytes l)/\l ≠ []/\σ g=some (.front l.length 1 (some 5))/\K (.pv (.str l)) (σ.del g))
theorem F_String:SoundF Tryz.prog 154 T_String:=by
  rintro w0 hS ρ σ w args us K X H hr ⟨id,p,buf,rfl,ho,hK⟩
  obtain ⟨u,us',rfl,hu,hnil⟩:=hr.uncons
  obtain rfl:us'=[]:=hnil.nil_inv
  obtain ⟨b0,o0,m0,vs,q1,_,q3,_,q5⟩:=cells_at H ho
  obtain ⟨v0,vs',rfl,r0,r1⟩:=q3.uncons
  obtain ⟨v1,vs'',rfl,r1,_⟩:=r1.uncons
  obtain ⟨b,o,m,cur,e,fz,hl,hB,hb,hf,hm,hle,hok,hrr,hi,hvar⟩:=H.obj id _ ho
  obtain ⟨rfl,rfl,hsz⟩:=hvar 173 rfl
  obtain ⟨b',o',m',rfl,hl'⟩:=inv_addr hu
  rw [hl] at hl' q1
  have e1:b=b'/\b=b0/\0=o'/\0=o0:=by
    simp only [Option.some.injEq,Prod.mk.injEq] at hl' q1
    omega
  obtain ⟨rfl,rfl,rfl,rfl⟩:=e1
  have c1:w.cell? ⟨b,1,none⟩=some v1:=by simpa using q5 1 v1 rfl
  refine ⟨Tryz.call154 _ w,?_⟩
  rcases hK with ⟨rfl,hK⟩ | ⟨g,l,rfl,hl0,hg,hK⟩
  · cases r1
    refine (string_nil b w c1).mono fun e W' ⟨he,hW⟩=>?_
    subst he hW
    exact ⟨ρ,σ,Gh.le_refl ρ,H.drawn _,_,mkStr ρ [],hK⟩
  · cases r1 with
    | grow _ _ _ b1 o1 cap ws hlin hn hlen hi' hr' =>
      obtain ⟨b2,o2,cap2,cur2,e2,fz2,hlin2,hB2,hb2,hf2,hn2,hc2,hs2,hii,hkk,hmk⟩:=H.obj g _ hg
      rw [hlin] at hlin2
      cases hlin2
      obtain ⟨rfl,rfl⟩:=hmk 5 rfl
      have hpl:(pvBytes l).length=l.length:=by simp [pvBytes]
      refine (string_row b b1 v0 cap cur2 l w c1 hl0 (by simp [World.shape?,hb2]) hn hc2 (by omega) ?_).mono fun e W' ⟨he,hW⟩=>?_
      · intro j x hx
        rw [Addr.add_lit]
        have hj:j < l.length:=(List.getElem?_eq_some_iff.1 hx).1
        have h1:=ImmAt.cell H hi' j (ws.getD j undef) (by rw [List.getD_eq_getElem?_getD,List.getElem?_eq_getElem (by omega)]; rfl)
        have h2:=hr' j (by omega)
        have h3:(pvBytes l)[j]'(by omega)=.int .u8 x.toNat:=by
          have:=(List.getElem?_eq_some_iff.1 hx).2
          simp [pvBytes,this]
        rw [h3] at h2
        have h4:ws.getD j undef=.int .u8 x.toNat:=by
          generalize ws.getD j undef=y at h2
          cases h2
          rfl
        rw [h1,h4]
      · subst he hW
        have Hd:=(H.sub (AS.del_sub σ g)).drawn (w.drawn + 1)
        have hbel:Below w0.heap.size w0 (w.drew.freeze ⟨b1,0,none⟩ l.length):=Lib.below_freeze Hd.below hB2 _
        refine ⟨ρ,σ.del g,Gh.le_refl ρ,Hd.keep (Gh.le_refl ρ) hbel (fun b o v hv=>?_) (fun j oj b3 hoj hbj=>?_) ?_,_,mkStr ρ l,hK⟩
        · rw [freeze_cell]
          exact Hd.imm b o v hv
        · refine ⟨freeze_other _ _ _ _ (fun he=>?_),fun _=>rfl,fun _=>rfl⟩
          have hj:j ≠ g:=fun he=>by subst he; simp [AS.del] at hoj
          refine hj (H.apart j g oj _ (AS.del_sub σ g j oj hoj) hg ?_)
          rw [hbj]
          simp only [blkOf,hlin,Option.map_some]
          exact congrArg some he
        · exact Hd.bound
end Go.AD

namespace Go.Proofs
open Go.Shelf
def Tryz.lays137_ren:Go.Shelf.Ren:=⟨fun | 137=>125 | 217=>142 | 266=>175 | n=>n,fun | 9=>9 | 5=>5 | 3=>3 | n=>n,fun | n=>n⟩
theorem Tryz.lays137:Go.Proofs.Lays.n137 Tryz.prog Tryz.lays137_ren:={
  mixed:=by kernel_rfl
  f137:=Tryz.func125.trans (congrArg some (by kernel_rfl))
  f217:=Tryz.func142.trans (congrArg some (by kernel_rfl))
  f266:=Tryz.func175.trans (congrArg some (by kernel_rfl))
  t3:=Tryz.underlying3
  a3:=Tryz.isAgg3
  z3:=Tryz.sizeOf3
  v3:=Tryz.zeroValue3
  t5:=Tryz.underlying5
  a5:=Tryz.isAgg5
  z5:=Tryz.sizeOf5
  v5:=Tryz.zeroValue5
  t9:=Tryz.underlying9
  a9:=Tryz.isAgg9
  z9:=Tryz.sizeOf9
  v9:=Tryz.zeroValue9 }
open Go.RowKit in
theorem Tryz.strings_IndexByte (s:ByteArray) (c:Int) (w:World) :
    Calls Tryz.prog 125 #[.string s,.int .u8 c] w fun e w'=>e=.returned (.int .i64 (Lib.indexByte s.data.toList c.toNat.toUInt8))/\w'=w:=Any.strings_IndexByte Tryz.lays137 s c w
def Tryz.lays144_ren:Go.Shelf.Ren:=⟨fun | 144=>24 | 143=>67 | 219=>100 | 217=>142 | 225=>143 | 224=>144 | 267=>145 | 266=>175 | 314=>176 | n=>n,fun | 9=>9 | 4=>4 | 3=>3 | 5=>5 | 46=>118 | 146=>182 | 51=>146 | n=>n,fun | 1=>1 | n=>n⟩
theorem Tryz.lays144:Go.Proofs.Lays.n144 Tryz.prog Tryz.lays144_ren:={
  mixed:=by kernel_rfl
  f143:=Tryz.func67.trans (congrArg some (by kernel_rfl))
  f144:=Tryz.func24.trans (congrArg some (by kernel_rfl))
  f217:=Tryz.func142.trans (congrArg some (by kernel_rfl))
  f219:=Tryz.func100.trans (congrArg some (by kernel_rfl))
  f224:=Tryz.func144.trans (congrArg some (by kernel_rfl))
  f225:=Tryz.func143.trans (congrArg some (by kernel_rfl))
  f266:=Tryz.func175.trans (congrArg some (by kernel_rfl))
  f267:=Tryz.func145.trans (congrArg some (by kernel_rfl))
  f314:=Tryz.func176.trans (congrArg some (by kernel_rfl))
  t3:=Tryz.underlying3
  a3:=Tryz.isAgg3
  z3:=Tryz.sizeOf3
  v3:=Tryz.zeroValue3
  t4:=Tryz.underlying4
  a4:=Tryz.isAgg4
  z4:=Tryz.sizeOf4
  v4:=Tryz.zeroValue4
  t5:=Tryz.underlying5
  a5:=Tryz.isAgg5
  z5:=Tryz.sizeOf5
  v5:=Tryz.zeroValue5
  t9:=Tryz.underlying9
  a9:=Tryz.isAgg9
  z9:=Tryz.sizeOf9
  v9:=Tryz.zeroValue9
  t46:=Tryz.underlying118
  a46:=Tryz.isAgg118
  z46:=Tryz.sizeOf118
  v46:=Tryz.zeroValue118
  t51:=Tryz.underlying146
  a51:=Tryz.isAgg146
  z51:=Tryz.sizeOf146
  v51:=Tryz.zeroValue146
  t146:=Tryz.underlying182
  a146:=Tryz.isAgg182
  z146:=Tryz.sizeOf182
  v146:=Tryz.zeroValue182
  g1:=by kernel_rfl }
open Go.RowKit Go.Lib in
theorem Tryz.strings_Contains (s sub:ByteArray) (m:Int) (w:World) (hs:s.size < 4294967281) (hm:w.cell? ⟨1,0,none⟩=some (.int .i64 m)) :
    Calls Tryz.prog 24 #[.string s,.string sub] w fun e w'=>e=.returned (.bool (Lib.contains s.data.toList sub.data.toList))/\w'=w:=Any.strings_Contains Tryz.lays144 s sub m w hs hm
def Tryz.laysM143_ren:Go.Shelf.Ren:=⟨fun | 143=>67 | 219=>100 | 217=>142 | 225=>143 | 224=>144 | 267=>145 | 266=>175 | 314=>176 | n=>n,fun | 9=>9 | 3=>3 | 4=>4 | 5=>5 | 46=>118 | 146=>182 | 51=>146 | n=>n,fun | 1=>1 | n=>n⟩
theorem Tryz.laysM143:Go.Proofs.LaysM.n143 Tryz.prog Tryz.laysM143_ren:={
  mixed:=by kernel_rfl
  f143:=Tryz.func67.trans (congrArg some (by kernel_rfl))
  f217:=Tryz.func142.trans (congrArg some (by kernel_rfl))
  f219:=Tryz.func100.trans (congrArg some (by kernel_rfl))
  f224:=Tryz.func144.trans (congrArg some (by kernel_rfl))
  f225:=Tryz.func143.trans (congrArg some (by kernel_rfl))
  f266:=Tryz.func175.trans (congrArg some (by kernel_rfl))
  f267:=Tryz.func145.trans (congrArg some (by kernel_rfl))
  f314:=Tryz.func176.trans (congrArg some (by kernel_rfl))
  t3:=Tryz.underlying3
  a3:=Tryz.isAgg3
  z3:=Tryz.sizeOf3
  v3:=Tryz.zeroValue3
  t4:=Tryz.underlying4
  a4:=Tryz.isAgg4
  z4:=Tryz.sizeOf4
  v4:=Tryz.zeroValue4
  t5:=Tryz.underlying5
  a5:=Tryz.isAgg5
  z5:=Tryz.sizeOf5
  v5:=Tryz.zeroValue5
  t9:=Tryz.underlying9
  a9:=Tryz.isAgg9
  z9:=Tryz.sizeOf9
  v9:=Tryz.zeroValue9
  t46:=Tryz.underlying118
  a46:=Tryz.isAgg118
  z46:=Tryz.sizeOf118
  v46:=Tryz.zeroValue118
  t51:=Tryz.underlying146
  a51:=Tryz.isAgg146
  z51:=Tryz.sizeOf146
  v51:=Tryz.zeroValue146
  t146:=Tryz.underlying182
  a146:=Tryz.isAgg182
  z146:=Tryz.sizeOf182
  v146:=Tryz.zeroValue182
  g1:=by kernel_rfl
  i3:=by kernel_rfl
  i4:=by kernel_rfl
  i5:=by kernel_rfl
  i9:=by kernel_rfl
  i46:=by kernel_rfl
  i51:=by kernel_rfl
  i146:=by kernel_rfl
  m1:=by kernel_rfl
  s1_3:=fun w h=>Go.Proofs.cell_of_shapedOpen_int (zero:=#[.int .i64 0]) (t:=3) h (of_decide_eq_true (by kernel_rfl)) (by kernel_rfl) rfl (by kernel_rfl) (by kernel_rfl) Tryz.underlying3 }
def Tryz.lays190_ren:Go.Shelf.Ren:=⟨fun | 190=>25 | 125=>69 | 258=>68 | 128=>110 | 129=>111 | 302=>101 | 303=>102 | 304=>103 | 305=>104 | 306=>105 | 307=>106 | 308=>107 | 309=>108 | 310=>109 | 333=>146 | 329=>147 | 330=>148 | 334=>149 | 335=>150 | 336=>151 | 344=>177 | n=>n,fun | 31=>26 | 9=>9 | 3=>3 | 46=>118 | 0=>0 | 51=>146 | 53=>148 | 4=>4 | 183=>139 | 182=>138 | 131=>143 | 5=>5 | 218=>165 | 222=>169 | 228=>184 | 229=>159 | n=>n,fun | n=>n⟩
theorem Tryz.lays190:Go.Proofs.Lays.n190 Tryz.prog Tryz.lays190_ren:={
  mixed:=by kernel_rfl
  f125:=Tryz.func69.trans (congrArg some (by kernel_rfl))
  f128:=Tryz.func110.trans (congrArg some (by kernel_rfl))
  f129:=Tryz.func111.trans (congrArg some (by kernel_rfl))
  f190:=Tryz.func25.trans (congrArg some (by kernel_rfl))
  f258:=Tryz.func68.trans (congrArg some (by kernel_rfl))
  f302:=Tryz.func101.trans (congrArg some (by kernel_rfl))
  f303:=Tryz.func102.trans (congrArg some (by kernel_rfl))
  f304:=Tryz.func103.trans (congrArg some (by kernel_rfl))
  f305:=Tryz.func104.trans (congrArg some (by kernel_rfl))
  f306:=Tryz.func105.trans (congrArg some (by kernel_rfl))
  f307:=Tryz.func106.trans (congrArg some (by kernel_rfl))
  f308:=Tryz.func107.trans (congrArg some (by kernel_rfl))
  f309:=Tryz.func108.trans (congrArg some (by kernel_rfl))
  f310:=Tryz.func109.trans (congrArg some (by kernel_rfl))
  f329:=Tryz.func147.trans (congrArg some (by kernel_rfl))
  f330:=Tryz.func148.trans (congrArg some (by kernel_rfl))
  f333:=Tryz.func146.trans (congrArg some (by kernel_rfl))
  f334:=Tryz.func149.trans (congrArg some (by kernel_rfl))
  f335:=Tryz.func150.trans (congrArg some (by kernel_rfl))
  f336:=Tryz.func151.trans (congrArg some (by kernel_rfl))
  f344:=Tryz.func177.trans (congrArg some (by kernel_rfl))
  t0:=Tryz.underlying0
  a0:=Tryz.isAgg0
  z0:=Tryz.sizeOf0
  v0:=Tryz.zeroValue0
  t3:=Tryz.underlying3
  a3:=Tryz.isAgg3
  z3:=Tryz.sizeOf3
  v3:=Tryz.zeroValue3
  t4:=Tryz.underlying4
  a4:=Tryz.isAgg4
  z4:=Tryz.sizeOf4
  v4:=Tryz.zeroValue4
  t5:=Tryz.underlying5
  a5:=Tryz.isAgg5
  z5:=Tryz.sizeOf5
  v5:=Tryz.zeroValue5
  t9:=Tryz.underlying9
  a9:=Tryz.isAgg9
  z9:=Tryz.sizeOf9
  v9:=Tryz.zeroValue9
  t31:=Tryz.underlying26
  a31:=Tryz.isAgg26
  z31:=Tryz.sizeOf26
  v31:=Tryz.zeroValue26
  t46:=Tryz.underlying118
  a46:=Tryz.isAgg118
  z46:=Tryz.sizeOf118
  v46:=Tryz.zeroValue118
  t51:=Tryz.underlying146
  a51:=Tryz.isAgg146
  z51:=Tryz.sizeOf146
  v51:=Tryz.zeroValue146
  t53:=Tryz.underlying148
  a53:=Tryz.isAgg148
  z53:=Tryz.sizeOf148
  v53:=Tryz.zeroValue148
  t131:=Tryz.underlying143
  a131:=Tryz.isAgg143
  z131:=Tryz.sizeOf143
  v131:=Tryz.zeroValue143
  t182:=Tryz.underlying138
  a182:=Tryz.isAgg138
  z182:=Tryz.sizeOf138
  v182:=Tryz.zeroValue138
  t183:=Tryz.underlying139
  a183:=Tryz.isAgg139
  z183:=Tryz.sizeOf139
  v183:=Tryz.zeroValue139
  t218:=Tryz.underlying165
  a218:=Tryz.isAgg165
  z218:=Tryz.sizeOf165
  v218:=Tryz.zeroValue165
  t222:=Tryz.underlying169
  a222:=Tryz.isAgg169
  z222:=Tryz.sizeOf169
  v222:=Tryz.zeroValue169
  t228:=Tryz.underlying184
  a228:=Tryz.isAgg184
  z228:=Tryz.sizeOf184
  v228:=Tryz.zeroValue184
  t229:=Tryz.underlying159
  a229:=Tryz.isAgg159
  z229:=Tryz.sizeOf159
  v229:=Tryz.zeroValue159 }
open Go.Sort Go.RowKit in
theorem Tryz.slices_Sort_string (blk off cap:Nat) (ss:List (List UInt8)) (w:World) (hH:Holds encStr w blk off ss.toArray) (hblk:blk < w.heap.size) (hsz:ss.length < 4611686018427387904) :
    Calls Tryz.prog 25 #[.slice (some ⟨blk,off,none⟩) ss.length cap] w fun e w' =>
      e=.returned (.tuple #[])/\∃ n os,w'=grow (putRow encStr (Sort.ahead w n) blk off (ss.mergeSort fun x y=>decide (x <= y)).toArray) os:=Any.slices_Sort_string Tryz.lays190 blk off cap ss w hH hblk hsz
def Tryz.lays99_ren:Go.Shelf.Ren:=⟨fun | 99=>114 | 206=>153 | n=>n,fun | 9=>9 | 4=>4 | 3=>3 | n=>n,fun | n=>n⟩
theorem Tryz.lays99:Go.Proofs.Lays.n99 Tryz.prog Tryz.lays99_ren:={
  mixed:=by kernel_rfl
  f99:=Tryz.func114.trans (congrArg some (by kernel_rfl))
  f206:=Tryz.func153.trans (congrArg some (by kernel_rfl))
  t3:=Tryz.underlying3
  a3:=Tryz.isAgg3
  z3:=Tryz.sizeOf3
  v3:=Tryz.zeroValue3
  t4:=Tryz.underlying4
  a4:=Tryz.isAgg4
  z4:=Tryz.sizeOf4
  v4:=Tryz.zeroValue4
  t9:=Tryz.underlying9
  a9:=Tryz.isAgg9
  z9:=Tryz.sizeOf9
  v9:=Tryz.zeroValue9 }
open Go.RowKit Go.Lib in
theorem Tryz.strings_HasPrefix (s p:ByteArray) (w:World) :
    Calls Tryz.prog 114 #[.string s,.string p] w fun e w'=>e=.returned (.bool (Lib.hasPrefix s.data.toList p.data.toList))/\w'=w:=Any.strings_HasPrefix Tryz.lays99 s p w
def Tryz.lays100_ren:Go.Shelf.Ren:=⟨fun | 100=>133 | 207=>165 | n=>n,fun | 9=>9 | 4=>4 | 3=>3 | n=>n,fun | n=>n⟩
theorem Tryz.lays100:Go.Proofs.Lays.n100 Tryz.prog Tryz.lays100_ren:={
  mixed:=by kernel_rfl
  f100:=Tryz.func133.trans (congrArg some (by kernel_rfl))
  f207:=Tryz.func165.trans (congrArg some (by kernel_rfl))
  t3:=Tryz.underlying3
  a3:=Tryz.isAgg3
  z3:=Tryz.sizeOf3
  v3:=Tryz.zeroValue3
  t4:=Tryz.underlying4
  a4:=Tryz.isAgg4
  z4:=Tryz.sizeOf4
  v4:=Tryz.zeroValue4
  t9:=Tryz.underlying9
  a9:=Tryz.isAgg9
  z9:=Tryz.sizeOf9
  v9:=Tryz.zeroValue9 }
open Go.RowKit Go.Lib in
theorem Tryz.strings_HasSuffix (s p:ByteArray) (w:World) (hs:s.size <= 9223372036854775807) :
    Calls Tryz.prog 133 #[.string s,.string p] w fun e w'=>e=.returned (.bool (Lib.hasSuffix s.data.toList p.data.toList))/\w'=w:=Any.strings_HasSuffix Tryz.lays100 s p w hs
open Go.RowKit Go.Sort in
theorem Tryz.slices_Sort_string_none (p:Option Addr) (cap:Nat) (w:World) :
    Calls Tryz.prog 25 #[.slice p 0 cap] w fun e w'=>e=.returned (.tuple #[])/\w'=w:=Any.slices_Sort_string_none Tryz.lays190 p cap w
end Go.Proofs

set_option linter.unusedVariables false
set_option maxRecDepth 100000
namespace Go.AD
open Go.Proofs.Tryz
def an155:An:={ mu:=[],cut:=[],loop:=[] }
def S155 (env:Env) (b0_a c1_a:AV) (s:AS) (K:AV->AS->Prop) (X:PV->AS->Prop):Prop :=
 (env 178 [b0_a] s (fun t6 s1 =>
 (lock nilD b0_a fun t9 =>
 (lock fieldAddrD prog 173 t9 1 fun t10 =>
 (lock loadD prog s1 92 t10 fun t11 =>
 (lock buildSliceD prog false s1 92 1 1 [(0,c1_a)] fun t13 s2 =>
 (lock appendD prog false s2 92 t11 t13 fun t14 s3 =>
 (lock nilD b0_a fun t15 =>
 (lock fieldAddrD prog 173 t15 1 fun t16 =>
 (lock storeD prog s3 92 t16 t14 fun s4 =>
 (retV ((.pv .nilIface)) s4 K)))))))))) (panV X))
theorem S155_eq (env:Env) (b0_a c1_a:AV) (s:AS) (K:AV->AS->Prop) (X:PV->AS->Prop):S155 env b0_a c1_a s K X=bodyD prog env an155 f155 [b0_a,c1_a] s K X:=by
  unfold S155
  kernel_rfl
theorem S155_ok:(match f155.body with | some c=>okCode an155 prog f155.ntmps c | none=>false)=true:=by kernel_rfl
def an119:An:={ mu:=[],cut:=[(15,[1,8,9,51])],loop:=[(4,[1,5,21,22,23])] }
def L119_4 (env:Env) (I4:Nat->List AV->AS->Prop) (m4:Nat) (b1_l4 v5_l4 t21_l4 t22_l4 t23_l4:AV) (s:AS) (K:AV->AS->Prop) (X:PV->AS->Prop):Prop :=
 (lock binD prog .lss 3 t23_l4 t22_l4 fun t24 =>
 (condD t24
 (lock indexAddrD prog 92 t21_l4 t23_l4 fun t25 =>
 (lock loadD prog s 5 t25 fun t26 =>
 (lock binD prog .mul 3 v5_l4 (.pv (.int .i64 8)) fun t28 =>
 (lock binD prog .sub 5 t26 (.pv (.int .u8 48)) fun t30 =>
 (lock convD prog s 5 3 t30 fun t31 =>
 (lock binD prog .add 3 t28 t31 fun t32 =>
 (lock binD prog .add 3 t23_l4 (.pv (.int .i64 1)) fun t33 =>
 (∃ m',m' < m4/\I4 m' [b1_l4,t32,t21_l4,t22_l4,t33] s))))))))
 (lock convD prog s 3 5 v5_l4 fun t36 =>
 (env 155 [b1_l4,t36] s (fun t37 s5 =>
 (retV (.tuple []) s5 K)) (panV X)))))
theorem L119_4_eq (env:Env) (I4:Nat->List AV->AS->Prop) (m4:Nat) (b1_l4 v5_l4 t21_l4 t22_l4 t23_l4:AV) (s:AS) (K:AV->AS->Prop) (X:PV->AS->Prop):L119_4 env I4 m4 b1_l4 v5_l4 t21_l4 t22_l4 t23_l4 s K X=wpD prog env an119 (subC (bodyC f119) [0,1,1,0,1,0,1,0,0]) (contQ prog env an119 (bodyC f119) [0,1,1,0,1,0,1,0,0] [(I4,m4)] (rootQ prog f119 K X)) [(1,b1_l4),(5,v5_l4),(21,t21_l4),(22,t22_l4),(23,t23_l4)] s:=by
  unfold L119_4
  kernel_rfl
theorem lp119_4 {α:Type} {env:Env}  {b1_l4 t21_l4 t22_l4:AV} {s:AS} {K:AV->AS->Prop} {X:PV->AS->Prop} (μ:α->AS->Nat) (I:α->AS->Prop) (ev5_l4 et23_l4:α->AV) (a0:α) (h0:I a0 s)
 (h:∀ a s,I a s->L119_4 env  (Inv (fun a=>[b1_l4,ev5_l4 a,t21_l4,t22_l4,et23_l4 a]) μ I) (μ a s) b1_l4 (ev5_l4 a) t21_l4 t22_l4 (et23_l4 a) s K X) :
 ∃ I4:Nat->List AV->AS->Prop,(∃ m,I4 m [b1_l4,ev5_l4 a0,t21_l4,t22_l4,et23_l4 a0] s)/\∀ (m:Nat) (x0 x1 x2 x3 x4:AV),∀ s,I4 m [x0,x1,x2,x3,x4] s ->
 L119_4 env  I4 m x0 x1 x2 x3 x4 s K X:=by
  refine ⟨Inv (fun a=>[b1_l4,ev5_l4 a,t21_l4,t22_l4,et23_l4 a]) μ I,⟨_,a0,rfl,rfl,h0⟩,?_⟩
  rintro m x0 x1 x2 x3 x4 s' ⟨a,hv,rfl,hI⟩
  simp only [List.cons.injEq,and_true] at hv
  obtain ⟨rfl,rfl,rfl,rfl,rfl⟩:=hv
  exact h a s' hI
def J119_15 (env:Env)  (b1_j15 c8_j15 i9_j15 t51_j15:AV) (s:AS) (K:AV->AS->Prop) (X:PV->AS->Prop):Prop :=
 (condD t51_j15
 (env 155 [b1_j15,c8_j15] s (fun t64 s8 =>
 (retV (.tuple []) s8 K)) (panV X))
 (lock binD prog .geq 3 i9_j15 (.pv (.int .i64 0)) fun t67 =>
 (condD t67
 (lock binD prog .add 3 (.pv (.int .i64 7)) i9_j15 fun t70 =>
 (lock convD prog s 3 5 t70 fun t71 =>
 (env 155 [b1_j15,t71] s (fun t72 s9 =>
 (retV (.tuple []) s9 K)) (panV X))))
 (env 155 [b1_j15,(.pv (.int .u8 92))] s (fun t44 s10 =>
 (env 155 [b1_j15,c8_j15] s10 (fun t47 s11 =>
 (retV (.tuple []) s11 K)) (panV X))) (panV X)))))
def S119 (env:Env) (l0_a b1_a:AV) (s:AS) (K:AV->AS->Prop) (X:PV->AS->Prop):Prop :=
 (lock nilD l0_a fun t11 =>
 (lock fieldAddrD prog 123 t11 0 fun t12 =>
 (lock loadD prog s 9 t12 fun t13 =>
 (env 115 [t13,(.pv (.func 156))] s (fun t14 s1 =>
 (lock (foldD min2D) t14 [(.pv (.int .i64 3))] fun t15 =>
 (lock binD prog .gtr 3 t15 (.pv (.int .i64 0)) fun t17 =>
 (condD t17
 (env 113 [l0_a,t15] s1 (fun t20 s2 =>
 (lock bytesD prog false s2 9 92 t20 fun t21 s3 =>
 (lock lenD prog 92 t21 fun t22 =>
 (∃ I4:Nat->List AV->AS->Prop,(∃ m,I4 m [b1_a,(.pv (.int .i64 0)),t21,t22,(.pv (.int .i64 0))] s3)/\∀ (m4:Nat) (b1_l4 v5_l4 t21_l4 t22_l4 t23_l4:AV),∀ s4,I4 m4 [b1_l4,v5_l4,t21_l4,t22_l4,t23_l4] s4 ->
 (L119_4 env I4 m4 b1_l4 v5_l4 t21_l4 t22_l4 t23_l4 s4 K X))))) (panV X))
 (env 113 [l0_a,(.pv (.int .i64 1))] s1 (fun t39 s6 =>
 (lock indexD prog 9 t39 (.pv (.int .i64 0)) fun t40 =>
 (env 125 [(.pv (.str [97,98,116,110,118,102,114])),t40] s6 (fun t42 s7 =>
 (lock binD prog .eql 5 t40 (.pv (.int .u8 10)) fun t50 =>
 (condD t50
 (retV (.tuple []) s7 K)
 (lock binD prog .eql 5 t40 (.pv (.int .u8 34)) fun t53 =>
 (guardD t53 false
 (lock binD prog .eql 5 t40 (.pv (.int .u8 92)) fun t56 =>
 (guardD t56 false
 (lock binD prog .eql 5 t40 (.pv (.int .u8 47)) fun t60 =>
 (J119_15 env  (b1_a) (t40) (t42) (t60) s7 K X))
 (J119_15 env  (b1_a) (t40) (t42) (.pv (.bool true)) s7 K X)))
 (J119_15 env  (b1_a) (t40) (t42) (.pv (.bool true)) s7 K X)))))) (panV X)))) (panV X)))))) (panV X)))))
theorem S119_eq (env:Env) (l0_a b1_a:AV) (s:AS) (K:AV->AS->Prop) (X:PV->AS->Prop):S119 env l0_a b1_a s K X=bodyD prog env an119 f119 [l0_a,b1_a] s K X:=by
  unfold S119
  simp only [L119_4_eq]
  kernel_rfl
theorem S119_ok:(match f119.body with | some c=>okCode an119 prog f119.ntmps c | none=>false)=true:=by kernel_rfl
def an121:An:={ mu:=[],cut:=[],loop:=[] }
def S121 (env:Env) (l0_a b1_a:AV) (s:AS) (K:AV->AS->Prop) (X:PV->AS->Prop):Prop :=
 (lock nilD l0_a fun t6 =>
 (lock fieldAddrD prog 123 t6 0 fun t7 =>
 (lock loadD prog s 9 t7 fun t8 =>
 (lock indexD prog 9 t8 (.pv (.int .i64 0)) fun t9 =>
 (lock binD prog .eql 5 t9 (.pv (.int .u8 10)) fun t10 =>
 (condD t10
 (retV (.tuple []) s K)
 (env 113 [l0_a,(.pv (.int .i64 1))] s (fun t12 s1 =>
 (lock indexD prog 9 t12 (.pv (.int .i64 0)) fun t13 =>
 (lock binD prog .neq 5 t13 (.pv (.int .u8 47)) fun t15 =>
 (condD t15
 (env 155 [b1_a,(.pv (.int .u8 92))] s1 (fun t17 s2 =>
 (env 155 [b1_a,t13] s2 (fun t20 s3 =>
 (retV (.tuple []) s3 K)) (panV X))) (panV X))
 (env 155 [b1_a,t13] s1 (fun t20 s4 =>
 (retV (.tuple []) s4 K)) (panV X)))))) (panV X))))))))
theorem S121_eq (env:Env) (l0_a b1_a:AV) (s:AS) (K:AV->AS->Prop) (X:PV->AS->Prop):S121 env l0_a b1_a s K X=bodyD prog env an121 f121 [l0_a,b1_a] s K X:=by
  unfold S121
  kernel_rfl
theorem S121_ok:(match f121.body with | some c=>okCode an121 prog f121.ntmps c | none=>false)=true:=by kernel_rfl
def an118:An:={ mu:=[],cut:=[(3,[0,1,2,8])],loop:=[(2,[0,1,2,8])] }
def J118_3 (env:Env) (I2:Nat->List AV->AS->Prop) (m2:Nat) (l0_j3 end1_j3 escape2_j3 b8_j3:AV) (s:AS) (K:AV->AS->Prop) (X:PV->AS->Prop):Prop :=
 (env 113 [l0_j3,(.pv (.int .i64 1))] s (fun t24 s3 =>
 (lock indexD prog 9 t24 (.pv (.int .i64 0)) fun t25 =>
 (lock binD prog .eql 5 t25 end1_j3 fun t31 =>
 (condD t31
 (env 154 [b8_j3] s3 (fun t32 s4 =>
 (retV (.tuple [t32,(.pv (.bool true))]) s4 K)) (panV X))
 (lock binD prog .neq 5 t25 (.pv (.int .u8 92)) fun t35 =>
 (condD t35
 (env 155 [b8_j3,t25] s3 (fun t37 s5 =>
 (∃ m',m' < m2/\I2 m' [l0_j3,end1_j3,escape2_j3,b8_j3] s5)) (panV X))
 (lock nilD l0_j3 fun t40 =>
 (lock fieldAddrD prog 123 t40 0 fun t41 =>
 (lock loadD prog s3 9 t41 fun t42 =>
 (lock binD prog .eql 9 t42 (.pv (.str [])) fun t43 =>
 (condD t43
 (retV (.tuple [(.pv (.str [])),(.pv (.bool false))]) s3 K)
 (callD env escape2_j3 [b8_j3] s3 (fun t27 s6 =>
 (∃ m',m' < m2/\I2 m' [l0_j3,end1_j3,escape2_j3,b8_j3] s6)) (panV X))))))))))))) (panV X))
def L118_2 (env:Env) (I2:Nat->List AV->AS->Prop) (m2:Nat) (l0_l2 end1_l2 escape2_l2 b8_l2:AV) (s:AS) (K:AV->AS->Prop) (X:PV->AS->Prop):Prop :=
 (lock nilD l0_l2 fun t11 =>
 (lock fieldAddrD prog 123 t11 0 fun t12 =>
 (lock loadD prog s 9 t12 fun t13 =>
 (lock binD prog .neq 9 t13 (.pv (.str [])) fun t14 =>
 (guardD t14 true
 (lock nilD l0_l2 fun t17 =>
 (lock fieldAddrD prog 123 t17 0 fun t18 =>
 (lock loadD prog s 9 t18 fun t19 =>
 (lock indexD prog 9 t19 (.pv (.int .i64 0)) fun t20 =>
 (lock binD prog .neq 5 t20 (.pv (.int .u8 10)) fun t21 =>
 (condD t21
 (J118_3 env I2 m2 (l0_l2) (end1_l2) (escape2_l2) (b8_l2) s K X)
 (retV (.tuple [(.pv (.str [])),(.pv (.bool false))]) s K)))))))
 (retV (.tuple [(.pv (.str [])),(.pv (.bool false))]) s K))))))
theorem L118_2_eq (env:Env) (I2:Nat->List AV->AS->Prop) (m2:Nat) (l0_l2 end1_l2 escape2_l2 b8_l2:AV) (s:AS) (K:AV->AS->Prop) (X:PV->AS->Prop):L118_2 env I2 m2 l0_l2 end1_l2 escape2_l2 b8_l2 s K X=wpD prog env an118 (subC (bodyC f118) [1,1,0,0,0]) (contQ prog env an118 (bodyC f118) [1,1,0,0,0] [(I2,m2)] (rootQ prog f118 K X)) [(0,l0_l2),(1,end1_l2),(2,escape2_l2),(8,b8_l2)] s:=by
  unfold L118_2
  kernel_rfl
theorem lp118_2 {α:Type} {env:Env}  {l0_l2 end1_l2 escape2_l2 b8_l2:AV} {s:AS} {K:AV->AS->Prop} {X:PV->AS->Prop} (μ:α->AS->Nat) (I:α->AS->Prop) (a0:α) (h0:I a0 s)
 (h:∀ a s,I a s->L118_2 env  (Inv (fun a=>[l0_l2,end1_l2,escape2_l2,b8_l2]) μ I) (μ a s) l0_l2 end1_l2 escape2_l2 b8_l2 s K X) :
 ∃ I2:Nat->List AV->AS->Prop,(∃ m,I2 m [l0_l2,end1_l2,escape2_l2,b8_l2] s)/\∀ (m:Nat) (x0 x1 x2 x3:AV),∀ s,I2 m [x0,x1,x2,x3] s ->
 L118_2 env  I2 m x0 x1 x2 x3 s K X:=by
  refine ⟨Inv (fun a=>[l0_l2,end1_l2,escape2_l2,b8_l2]) μ I,⟨_,a0,rfl,rfl,h0⟩,?_⟩
  rintro m x0 x1 x2 x3 s' ⟨a,hv,rfl,hI⟩
  simp only [List.cons.injEq,and_true] at hv
  obtain ⟨rfl,rfl,rfl,rfl⟩:=hv
  exact h a s' hI
def S118 (env:Env) (l0_a end1_a escape2_a:AV) (s:AS) (K:AV->AS->Prop) (X:PV->AS->Prop):Prop :=
 (lock allocD prog s 173 fun t8 s1 =>
 (∃ I2:Nat->List AV->AS->Prop,(∃ m,I2 m [l0_a,end1_a,escape2_a,t8] s1)/\∀ (m2:Nat) (l0_l2 end1_l2 escape2_l2 b8_l2:AV),∀ s2,I2 m2 [l0_l2,end1_l2,escape2_l2,b8_l2] s2 ->
 (L118_2 env I2 m2 l0_l2 end1_l2 escape2_l2 b8_l2 s2 K X)))
theorem S118_eq (env:Env) (l0_a end1_a escape2_a:AV) (s:AS) (K:AV->AS->Prop) (X:PV->AS->Prop):S118 env l0_a end1_a escape2_a s K X=bodyD prog env an118 f118 [l0_a,end1_a,escape2_a] s K X:=by
  unfold S118
  simp only [L118_2_eq]
  kernel_rfl
theorem S118_ok:(match f118.body with | some c=>okCode an118 prog f118.ntmps c | none=>false)=true:=by kernel_rfl
def an73:An:={ mu:=[],cut:=[(5,[0,3,4,19]),(21,[0,3,77]),(28,[0,3,103])],loop:=[] }
def J73_28 (env:Env)  (l0_j28 c3_j28 t103_j28:AV) (s:AS) (K:AV->AS->Prop) (X:PV->AS->Prop):Prop :=
 (condD t103_j28
 (env 113 [l0_j28,(.pv (.int .i64 2))] s (fun t120 s21 =>
 (env 117 [l0_j28,(.pv (.str [111,112])),t120] s21 (fun t121 s22 =>
 (retV ((.pv (.bool true))) s22 K)) (panV X))) (panV X))
 (env 125 [(.pv (.str [123,125,40,41,91,93,59,44,43,45,42,47,37,94,33,62,60,63,58,126,36,61])),c3_j28] s (fun t124 s23 =>
 (lock binD prog .geq 3 t124 (.pv (.int .i64 0)) fun t125 =>
 (condD t125
 (env 113 [l0_j28,(.pv (.int .i64 1))] s23 (fun t128 s24 =>
 (env 117 [l0_j28,(.pv (.str [111,112])),t128] s24 (fun t129 s25 =>
 (retV ((.pv (.bool true))) s25 K)) (panV X))) (panV X))
 (retV ((.pv (.bool false))) s23 K)))) (panV X)))
def J73_21 (env:Env)  (l0_j21 c3_j21 t77_j21:AV) (s:AS) (K:AV->AS->Prop) (X:PV->AS->Prop):Prop :=
 (condD t77_j21
 (env 113 [l0_j21,(.pv (.int .i64 1))] s (fun t86 s15 =>
 (env 118 [l0_j21,(.pv (.int .u8 47)),(.clo 121 [l0_j21] [])] s15 (fun t91 s16 =>
 (lock extractD t91 0 fun t92 =>
 (lock extractD t91 1 fun t93 =>
 (env 117 [l0_j21,(.pv (.str [101,114,101])),t92] s16 (fun t96 s17 =>
 (retV (t93) s17 K)) (panV X))))) (panV X))) (panV X))
 (env 122 [c3_j21] s (fun t100 s18 =>
 (condD t100
 (env 123 [l0_j21] s18 (fun t102 s19 =>
 (retV (t102) s19 K)) (panV X))
 (lock nilD l0_j21 fun t105 =>
 (lock fieldAddrD prog 123 t105 0 fun t106 =>
 (lock loadD prog s18 9 t106 fun t107 =>
 (lock lenD prog 9 t107 fun t108 =>
 (lock binD prog .gtr 3 t108 (.pv (.int .i64 1)) fun t109 =>
 (guardD t109 true
 (lock nilD l0_j21 fun t112 =>
 (lock fieldAddrD prog 123 t112 0 fun t113 =>
 (lock loadD prog s18 9 t113 fun t114 =>
 (lock sliceD prog 9 t114 none (some (.pv (.int .i64 2))) fun t115 =>
 (env 124 [(.pv (.str [32,62,62,32,33,126,32,43,61,32,45,61,32,42,61,32,47,61,32,37,61,32,94,61,32,61,61,32,60,61,32,62,61,32,33,61,32,43,43,32,45,45,32,38,38,32,124,124,32])),t115] s18 (fun t116 s20 =>
 (J73_28 env  (l0_j21) (c3_j21) (t116) s20 K X)) (panV X))))))
 (J73_28 env  (l0_j21) (c3_j21) (.pv (.bool false)) s18 K X))))))))) (panV X)))
def J73_5 (env:Env)  (l0_j5 c3_j5 n4_j5 t19_j5:AV) (s:AS) (K:AV->AS->Prop) (X:PV->AS->Prop):Prop :=
 (condD t19_j5
 (env 113 [l0_j5,(.pv (.int .i64 1))] s (fun t27 s2 =>
 (retV ((.pv (.bool true))) s2 K)) (panV X))
 (lock nilD l0_j5 fun t30 =>
 (lock fieldAddrD prog 123 t30 0 fun t31 =>
 (lock loadD prog s 9 t31 fun t32 =>
 (env 114 [t32,(.pv (.str [92,10]))] s (fun t33 s3 =>
 (condD t33
 (env 113 [l0_j5,(.pv (.int .i64 2))] s3 (fun t35 s4 =>
 (retV ((.pv (.bool true))) s4 K)) (panV X))
 (lock binD prog .eql 5 c3_j5 (.pv (.int .u8 35)) fun t38 =>
 (condD t38
 (lock nilD l0_j5 fun t41 =>
 (lock fieldAddrD prog 123 t41 0 fun t42 =>
 (lock loadD prog s3 9 t42 fun t43 =>
 (env 115 [t43,(.pv (.func 116))] s3 (fun t44 s5 =>
 (env 113 [l0_j5,t44] s5 (fun t45 s6 =>
 (retV ((.pv (.bool true))) s6 K)) (panV X))) (panV X)))))
 (lock binD prog .eql 5 c3_j5 (.pv (.int .u8 10)) fun t48 =>
 (condD t48
 (env 113 [l0_j5,(.pv (.int .i64 1))] s3 (fun t50 s7 =>
 (env 117 [l0_j5,(.pv (.str [110,108])),(.pv (.str []))] s7 (fun t52 s8 =>
 (retV ((.pv (.bool true))) s8 K)) (panV X))) (panV X))
 (lock binD prog .gtr 3 n4_j5 (.pv (.int .i64 0)) fun t55 =>
 (condD t55
 (env 113 [l0_j5,n4_j5] s3 (fun t59 s9 =>
 (env 117 [l0_j5,(.pv (.str [110,117,109])),t59] s9 (fun t60 s10 =>
 (retV ((.pv (.bool true))) s10 K)) (panV X))) (panV X))
 (lock binD prog .eql 5 c3_j5 (.pv (.int .u8 34)) fun t63 =>
 (condD t63
 (env 113 [l0_j5,(.pv (.int .i64 1))] s3 (fun t65 s11 =>
 (env 118 [l0_j5,(.pv (.int .u8 34)),(.clo 119 [l0_j5] [])] s11 (fun t70 s12 =>
 (lock extractD t70 0 fun t71 =>
 (lock extractD t70 1 fun t72 =>
 (env 117 [l0_j5,(.pv (.str [115,116,114])),t71] s12 (fun t75 s13 =>
 (retV (t72) s13 K)) (panV X))))) (panV X))) (panV X))
 (lock binD prog .eql 5 c3_j5 (.pv (.int .u8 47)) fun t79 =>
 (guardD t79 true
 (env 120 [l0_j5] s3 (fun t82 s14 =>
 (unD .not t82 fun t83 =>
 (J73_21 env  (l0_j5) (c3_j5) (t83) s14 K X))) (panV X))
 (J73_21 env  (l0_j5) (c3_j5) (.pv (.bool false)) s3 K X))))))))))))) (panV X))))))
def S73 (env:Env) (l0_a:AV) (s:AS) (K:AV->AS->Prop) (X:PV->AS->Prop):Prop :=
 (lock nilD l0_a fun t10 =>
 (lock fieldAddrD prog 123 t10 0 fun t11 =>
 (lock loadD prog s 9 t11 fun t12 =>
 (lock indexD prog 9 t12 (.pv (.int .i64 0)) fun t13 =>
 (lock nilD l0_a fun t15 =>
 (lock fieldAddrD prog 123 t15 0 fun t16 =>
 (lock loadD prog s 9 t16 fun t17 =>
 (env 112 [t17] s (fun t18 s1 =>
 (lock binD prog .eql 5 t13 (.pv (.int .u8 32)) fun t21 =>
 (guardD t21 false
 (lock binD prog .eql 5 t13 (.pv (.int .u8 9)) fun t24 =>
 (J73_5 env  (l0_a) (t13) (t18) (t24) s1 K X))
 (J73_5 env  (l0_a) (t13) (t18) (.pv (.bool true)) s1 K X)))) (panV X)))))))))
theorem S73_eq (env:Env) (l0_a:AV) (s:AS) (K:AV->AS->Prop) (X:PV->AS->Prop):S73 env l0_a s K X=bodyD prog env an73 f73 [l0_a] s K X:=by
  unfold S73
  kernel_rfl
theorem S73_ok:(match f73.body with | some c=>okCode an73 prog f73.ntmps c | none=>false)=true:=by kernel_rfl
def an34:An:={ mu:=[],cut:=[(4,[4]),(5,[4,5])],loop:=[(3,[4,5])] }
def J34_4 (env:Env) (I3:Nat->List AV->AS->Prop) (m3:Nat) (l4_j4:AV) (s:AS) (K:AV->AS->Prop) (X:PV->AS->Prop):Prop :=
 (env 73 [l4_j4] s (fun t21 s3 =>
 (guardD t21 true
 (lock nilD l4_j4 fun t24 =>
 (lock fieldAddrD prog 123 t24 1 fun t25 =>
 (lock loadD prog s3 42 t25 fun t26 =>
 (lock lenD prog 42 t26 fun t27 =>
 (lock binD prog .leq 3 t27 (.pv (.int .i64 20000)) fun t28 =>
 (∃ m',m' < m3/\I3 m' [l4_j4,t28] s3))))))
 (∃ m',m' < m3/\I3 m' [l4_j4,(.pv (.bool false))] s3))) (panV X))
def J34_5 (env:Env)  (l4_j5 ok5_j5:AV) (s:AS) (K:AV->AS->Prop) (X:PV->AS->Prop):Prop :=
 (unD .not ok5_j5 fun t31 =>
 (condD t31
 (retV (.tuple [(.nilS),(.pv (.bool false))]) s K)
 (lock nilD l4_j5 fun t33 =>
 (lock fieldAddrD prog 123 t33 1 fun t34 =>
 (lock loadD prog s 42 t34 fun t35 =>
 (retV (.tuple [t35,(.pv (.bool true))]) s K))))))
def L34_3 (env:Env) (I3:Nat->List AV->AS->Prop) (m3:Nat) (l4_l3 ok5_l3:AV) (s:AS) (K:AV->AS->Prop) (X:PV->AS->Prop):Prop :=
 (guardD ok5_l3 true
 (lock nilD l4_l3 fun t15 =>
 (lock fieldAddrD prog 123 t15 0 fun t16 =>
 (lock loadD prog s 9 t16 fun t17 =>
 (lock binD prog .neq 9 t17 (.pv (.str [])) fun t18 =>
 (condD t18
 (J34_4 env I3 m3 (l4_l3) s K X)
 (J34_5 env  (l4_l3) (ok5_l3) s K X))))))
 (J34_5 env  (l4_l3) (ok5_l3) s K X))
theorem L34_3_eq (env:Env) (I3:Nat->List AV->AS->Prop) (m3:Nat) (l4_l3 ok5_l3:AV) (s:AS) (K:AV->AS->Prop) (X:PV->AS->Prop):L34_3 env I3 m3 l4_l3 ok5_l3 s K X=wpD prog env an34 (subC (bodyC f34) [1,1,1,0,0,0]) (contQ prog env an34 (bodyC f34) [1,1,1,0,0,0] [(I3,m3)] (rootQ prog f34 K X)) [(4,l4_l3),(5,ok5_l3)] s:=by
  unfold L34_3
  kernel_rfl
theorem lp34_3 {α:Type} {env:Env}  {l4_l3:AV} {s:AS} {K:AV->AS->Prop} {X:PV->AS->Prop} (μ:α->AS->Nat) (I:α->AS->Prop) (eok5_l3:α->AV) (a0:α) (h0:I a0 s)
 (h:∀ a s,I a s->L34_3 env  (Inv (fun a=>[l4_l3,eok5_l3 a]) μ I) (μ a s) l4_l3 (eok5_l3 a) s K X) :
 ∃ I3:Nat->List AV->AS->Prop,(∃ m,I3 m [l4_l3,eok5_l3 a0] s)/\∀ (m:Nat) (x0 x1:AV),∀ s,I3 m [x0,x1] s ->
 L34_3 env  I3 m x0 x1 s K X:=by
  refine ⟨Inv (fun a=>[l4_l3,eok5_l3 a]) μ I,⟨_,a0,rfl,rfl,h0⟩,?_⟩
  rintro m x0 x1 s' ⟨a,hv,rfl,hI⟩
  simp only [List.cons.injEq,and_true] at hv
  obtain ⟨rfl,rfl⟩:=hv
  exact h a s' hI
def S34 (env:Env) (s0_a:AV) (s:AS) (K:AV->AS->Prop) (X:PV->AS->Prop):Prop :=
 (lock buildD prog 123 [(0,s0_a)] fun t7 =>
 (lock boxD s t7 fun t8 s1 =>
 (lock lenD prog 9 s0_a fun t10 =>
 (lock binD prog .leq 3 t10 (.pv (.int .i64 65536)) fun t11 =>
 (∃ I3:Nat->List AV->AS->Prop,(∃ m,I3 m [t8,t11] s1)/\∀ (m3:Nat) (l4_l3 ok5_l3:AV),∀ s2,I3 m3 [l4_l3,ok5_l3] s2 ->
 (L34_3 env I3 m3 l4_l3 ok5_l3 s2 K X))))))
theorem S34_eq (env:Env) (s0_a:AV) (s:AS) (K:AV->AS->Prop) (X:PV->AS->Prop):S34 env s0_a s K X=bodyD prog env an34 f34 [s0_a] s K X:=by
  unfold S34
  simp only [L34_3_eq]
  kernel_rfl
theorem S34_ok:(match f34.body with | some c=>okCode an34 prog f34.ntmps c | none=>false)=true:=by kernel_rfl
end Go.AD
