import Derived.Test.YteabilbccbhecaaGreatDoorM9
import Derived.Test.YteabilbccbhecaaGreatDoorM10
import Derived.Test.YteabilbccbhecaaGreatDoorM8
set_option linter.unusedVariables false
set_option linter.unusedSimpArgs false
namespace Go.AD.Fl
open Go.AD
section
variable {P : Program} {t : TypeId} {K : AV -> Prop} {kk : IntKind}
theorem wU64 {n : Int} (h : 0 <= n) (h' : n < 18446744073709551616) : IntKind.wrap .u64 n = n := by
  have e : IntKind.wrap .u64 n = n % 18446744073709551616 := by simp [IntKind.wrap, IntKind.bits, IntKind.signed]
  rw [e]; omega
theorem wU64n {n : Nat} (h' : n < 18446744073709551616) : IntKind.wrap .u64 (n : Int) = (n : Int) := wU64 (by omega) (by omega)
theorem bv64 (a : Nat) : BitVec.ofInt 64 (a : Int) = BitVec.ofNat 64 a := by rw [BitVec.ofInt_natCast]
theorem orU {a b : Nat} (ha : a < 18446744073709551616) (hb : b < 18446744073709551616) : binD P .or t (.pv (.int .u64 (a : Int))) (.pv (.int .u64 (b : Int))) K = K (.pv (.int .u64 ((a ||| b : Nat) : Int))) := by
  rw [bin_or]
  show K (.pv (.int .u64 (IntKind.wrap .u64 ((BitVec.ofInt 64 (a : Int) ||| BitVec.ofInt 64 (b : Int)).toNat : Nat)))) = _
  rw [bv64, bv64, BitVec.toNat_or, BitVec.toNat_ofNat, BitVec.toNat_ofNat, Nat.mod_eq_of_lt ha, Nat.mod_eq_of_lt hb, wU64n (Nat.or_lt_two_pow (n := 64) ha hb)]
theorem andU {a b : Nat} (ha : a < 18446744073709551616) (hb : b < 18446744073709551616) : binD P .and t (.pv (.int .u64 (a : Int))) (.pv (.int .u64 (b : Int))) K = K (.pv (.int .u64 ((a &&& b : Nat) : Int))) := by
  rw [bin_and]
  show K (.pv (.int .u64 (IntKind.wrap .u64 ((BitVec.ofInt 64 (a : Int) &&& BitVec.ofInt 64 (b : Int)).toNat : Nat)))) = _
  rw [bv64, bv64, BitVec.toNat_and, BitVec.toNat_ofNat, BitVec.toNat_ofNat, Nat.mod_eq_of_lt ha, Nat.mod_eq_of_lt hb, wU64n (Nat.lt_of_le_of_lt Nat.and_le_left ha)]
theorem shrU {a k : Nat} (hk : k <= 64) : binD P .shr t (.pv (.int .u64 (a : Int))) (.pv (.int kk (k : Int))) K = K (.pv (.int .u64 ((a / 2 ^ k : Nat) : Int))) := by
  rw [bin_shr]
  have e : min (Int.toNat (k : Int)) (IntKind.bits .u64) = k := by rw [Int.toNat_natCast]; show min k 64 = k; omega
  rw [e]
  have e2 : (a : Int).fdiv (2 ^ k) = ((a / 2 ^ k : Nat) : Int) := by
    have := nFdiv a (2 ^ k)
    rw [<- this]; congr 1
  rw [e2]
  simp
theorem shlU {a k : Nat} (hk : k <= 64) : binD P .shl t (.pv (.int .u64 (a : Int))) (.pv (.int kk (k : Int))) K = K (.pv (.int .u64 ((a * 2 ^ k % 18446744073709551616 : Nat) : Int))) := by
  rw [bin_shl]
  have e : min (Int.toNat (k : Int)) (IntKind.bits .u64) = k := by rw [Int.toNat_natCast]; show min k 64 = k; omega
  rw [e]
  have e2 : IntKind.wrap .u64 ((a : Int) * 2 ^ k) = ((a * 2 ^ k % 18446744073709551616 : Nat) : Int) := by
    have e3 : ∀ n : Int, IntKind.wrap .u64 n = n % 18446744073709551616 := fun n => by simp [IntKind.wrap, IntKind.bits, IntKind.signed]
    rw [e3, show ((a : Int) * 2 ^ k) = ((a * 2 ^ k : Nat) : Int) from by rw [Int.natCast_mul, Int.natCast_pow]; rfl]; exact (Int.natCast_emod _ _).symm
  rw [e2]
  simp
theorem addU {a b : Nat} (h : a + b < 18446744073709551616) : binD P .add t (.pv (.int .u64 (a : Int))) (.pv (.int .u64 (b : Int))) K = K (.pv (.int .u64 ((a + b : Nat) : Int))) := by
  rw [bin_add, wU64 (by omega) (by omega)]; rfl
theorem subU {a b : Nat} (h : b <= a) (h2 : a < 18446744073709551616) : binD P .sub t (.pv (.int .u64 (a : Int))) (.pv (.int .u64 (b : Int))) K = K (.pv (.int .u64 ((a - b : Nat) : Int))) := by
  rw [bin_sub, wU64 (by omega) (by omega)]
  congr 3; omega
theorem mulU {a b : Nat} (h : a * b < 18446744073709551616) : binD P .mul t (.pv (.int .u64 (a : Int))) (.pv (.int .u64 (b : Int))) K = K (.pv (.int .u64 ((a * b : Nat) : Int))) := by
  have e : (a : Int) * b = ((a * b : Nat) : Int) := rfl
  rw [bin_mul, e, wU64n h]
theorem subUw {a b : Nat} (h : a < b) (h2 : b < 18446744073709551616) : binD P .sub t (.pv (.int .u64 (a : Int))) (.pv (.int .u64 (b : Int))) K = K (.pv (.int .u64 ((a + 18446744073709551616 - b : Nat) : Int))) := by
  have e3 : ∀ n : Int, IntKind.wrap .u64 n = n % 18446744073709551616 := fun n => by simp [IntKind.wrap, IntKind.bits, IntKind.signed]
  rw [bin_sub, e3]
  congr 3; omega
end
theorem or_one (n : Nat) : n ||| 1 = 2 * (n / 2) + 1 := by
  apply Nat.eq_of_testBit_eq; intro i; rw [Nat.testBit_or]
  cases i with
  | zero => rw [Nat.testBit_zero, Nat.testBit_zero, Nat.testBit_zero]; have : (2 * (n / 2) + 1) % 2 = 1 := by omega
            simp [this]
  | succ i => rw [Nat.testBit_succ, Nat.testBit_succ, Nat.testBit_succ, show (2 * (n / 2) + 1) / 2 = n / 2 from by omega]; simp
end Go.AD.Fl

set_option linter.unusedVariables false
set_option linter.unusedSimpArgs false
set_option maxRecDepth 100000
namespace Go.AD.Fl
open Go.Proofs RowKit Go.AD.Fp
noncomputable abbrev PS := Go.Proofs.Tryz.prog
section
variable {P : Program} {σ : AS} {t g off : Nat} {K : AV -> Prop} {kk : IntKind}
theorem ld_glob {cs : List PV} (h : hasT P t = true) (h2 : aggB P t = false) (h3 : known P g = some cs) : loadD P σ t (.glob g off) K = ∃ v, cs[off]? = some v /\ K (.pv v) := by
  simp only [loadD, h, h2, h3, true_and]
  cases cs[off]? <;> simp
theorem ld_any (h : hasT P t = true) (h2 : aggB P t = false) (h3 : known P g = none) (h4 : anyG P g = true) : loadD P σ t (.glob g 0) K = K .any := by
  simp [loadD, h, h2, h3, h4]
theorem ix_glob {e : TypeId} {n : Nat} {i : Int} (h : P.underlying t = some (.array n e)) (h2 : (inf P e).isSome = true) : indexAddrD P t (.glob g off) (.pv (.int kk i)) K = (0 <= i /\ i < (n : Int) /\ K (.glob g (off + i.toNat * szOf P e))) := by
  simp [indexAddrD, h, h2]
theorem fa_glob {f o u : Nat} (h : fieldOff P t f = some (o, u)) (h2 : hasT P u = true) (h3 : szOf P u = 1) : fieldAddrD P t (.glob g off) f K = K (.glob g (off + o)) := by
  simp [fieldAddrD, h, h2, h3, movePtr]
end
section
variable {P : Program} {t : TypeId} {K : AV -> Prop} {kk : IntKind}
theorem shrI (a k : Nat) {y : Int} (hy : y = k) (hk : k <= 64) : binD P .shr t (.pv (.int .u64 (a : Int))) (.pv (.int kk y)) K = K (.pv (.int .u64 ((a / 2 ^ k : Nat) : Int))) := by subst hy; exact shrU hk
theorem shlI (a k : Nat) {y : Int} (hy : y = k) (hk : k <= 64) : binD P .shl t (.pv (.int .u64 (a : Int))) (.pv (.int kk y)) K = K (.pv (.int .u64 ((a * 2 ^ k % 18446744073709551616 : Nat) : Int))) := by subst hy; exact shlU hk
theorem andI (a b : Nat) {y : Int} (hy : y = b) (ha : a < 18446744073709551616) (hb : b < 18446744073709551616) : binD P .and t (.pv (.int .u64 (a : Int))) (.pv (.int .u64 y)) K = K (.pv (.int .u64 ((a &&& b : Nat) : Int))) := by subst hy; exact andU ha hb
theorem orI (a b : Nat) {y : Int} (hy : y = b) (ha : a < 18446744073709551616) (hb : b < 18446744073709551616) : binD P .or t (.pv (.int .u64 (a : Int))) (.pv (.int .u64 y)) K = K (.pv (.int .u64 ((a ||| b : Nat) : Int))) := by subst hy; exact orU ha hb
theorem addI (a b : Nat) {y : Int} (hy : y = b) (h : a + b < 18446744073709551616) : binD P .add t (.pv (.int .u64 (a : Int))) (.pv (.int .u64 y)) K = K (.pv (.int .u64 ((a + b : Nat) : Int))) := by subst hy; exact addU h
theorem subI (a b : Nat) {y : Int} (hy : y = b) (h : b <= a) (h2 : a < 18446744073709551616) : binD P .sub t (.pv (.int .u64 (a : Int))) (.pv (.int .u64 y)) K = K (.pv (.int .u64 ((a - b : Nat) : Int))) := by subst hy; exact subU h h2
theorem and_bit (a i : Nat) : a &&& 2 ^ i = if a / 2 ^ i % 2 = 1 then 2 ^ i else 0 := by
  apply Nat.eq_of_testBit_eq; intro j
  rw [Nat.testBit_and, Nat.testBit_two_pow]
  by_cases hj : i = j
  · subst hj
    rw [Nat.testBit_eq_decide_div_mod_eq]
    split
    · rename_i h; rw [h, Nat.testBit_two_pow_self]; simp
    · rename_i h; simp [h]
  · simp only [hj, decide_false, Bool.and_false]
    split
    · rw [Nat.testBit_two_pow]; simp [hj]
    · simp
theorem or_high {b i : Nat} (hb : b < 2 ^ i) (a : Nat) : 2 ^ i * a ||| b = 2 ^ i * a + b := (Nat.two_pow_add_eq_or_of_lt hb a).symm
theorem andNot_bit {a : Nat} (ha : a < 18446744073709551616) : binD P .andNot t (.pv (.int .u64 (a : Int))) (.pv (.int .u64 4503599627370496)) K = K (.pv (.int .u64 ((if a / 2 ^ 52 % 2 = 1 then a - 2 ^ 52 else a : Nat) : Int))) := by
  have e0 : binD P .andNot t (.pv (.int .u64 (a : Int))) (.pv (.int .u64 4503599627370496)) K = K (.pv (.int .u64 (IntKind.wrap .u64 ((BitVec.ofInt 64 (a : Int) &&& ~~~BitVec.ofInt 64 4503599627370496).toNat : Nat)))) := by simp [binD, intOp]; rfl
  rw [e0]
  have e : (BitVec.ofInt 64 (a : Int) &&& ~~~BitVec.ofInt 64 4503599627370496).toNat = if a / 2 ^ 52 % 2 = 1 then a - 2 ^ 52 else a := by
    rw [bv64, show BitVec.ofInt 64 4503599627370496 = BitVec.twoPow 64 52 from by decide]
    apply Nat.eq_of_testBit_eq; intro j
    have h1 : (BitVec.ofNat 64 a &&& ~~~BitVec.twoPow 64 52).toNat.testBit j = (a.testBit j && !(decide (52 = j))) := by
      rw [BitVec.testBit_toNat]
      by_cases hj : j < 64
      · rw [BitVec.getLsbD_and, BitVec.getLsbD_not, BitVec.getLsbD_ofNat, BitVec.getLsbD_twoPow]
        simp [hj]
      · rw [BitVec.getLsbD_of_ge _ _ (by omega)]
        have : a.testBit j = false := Nat.testBit_lt_two_pow (Nat.lt_of_lt_of_le ha (Nat.pow_le_pow_right (n := 2) (i := 64) (by decide) (by omega)))
        rw [this]; rfl
    rw [h1]
    split
    · rename_i h
      have e : a = 2 ^ 52 * (2 * (a / 2 ^ 52 / 2) + 1) + a % 2 ^ 52 := by omega
      have e2 : a - 2 ^ 52 = 2 ^ 52 * (2 * (a / 2 ^ 52 / 2)) + a % 2 ^ 52 := by omega
      have hl : a % 2 ^ 52 < 2 ^ 52 := Nat.mod_lt _ (by decide)
      rw [e2]
      conv => lhs; rw [e]
      rw [Nat.testBit_two_pow_mul_add _ hl, Nat.testBit_two_pow_mul_add _ hl]
      generalize a / 2 ^ 52 / 2 = q
      by_cases hj : j < 52
      · have : ¬ 52 = j := by omega
        simp [hj, this]
      · rw [if_neg hj, if_neg hj]
        by_cases h52 : 52 = j
        · subst h52; simp
        · obtain ⟨k, hk⟩ : ∃ k, j - 52 = k + 1 := ⟨j - 53, by omega⟩
          rw [hk, Nat.testBit_succ, Nat.testBit_succ, show (2 * q + 1) / 2 = q from by omega, show 2 * q / 2 = q from by omega]
          simp [h52]
    · rename_i h
      by_cases h52 : 52 = j
      · subst h52
        have h3 : a.testBit 52 = false := by rw [Nat.testBit_eq_decide_div_mod_eq]; exact decide_eq_false h
        rw [h3, Bool.false_and]
      · simp [h52]
  rw [e, wU64n (by split <;> omega)]
end
end Go.AD.Fl

set_option linter.unusedVariables false
set_option maxRecDepth 100000
namespace Go.AD
open Go.Proofs.Tryz
def an144:An:={ mu:=[],cut:=[],loop:=[] }
def S144 (env:Env) (b0_a:AV) (s:AS) (K:AV->AS->Prop) (X:PV->AS->Prop):Prop :=
 (condD b0_a
 (retV ((.pv (.int .u64 1))) s K)
 (retV ((.pv (.int .u64 0))) s K))
theorem S144_eq (env:Env) (b0_a:AV) (s:AS) (K:AV->AS->Prop) (X:PV->AS->Prop):S144 env b0_a s K X=bodyD prog env an144 f144 [b0_a] s K X:=by
  unfold S144
  kernel_rfl
theorem S144_ok:(match f144.body with | some c=>okCode an144 prog f144.ntmps c | none=>false)=true:=by kernel_rfl
def an151:An:={ mu:=[],cut:=[],loop:=[] }
def S151 (env:Env) (b0_a:AV) (s:AS) (K:AV->AS->Prop) (X:PV->AS->Prop):Prop :=
 (condD b0_a
 (retV ((.pv (.int .i64 1))) s K)
 (retV ((.pv (.int .i64 0))) s K))
theorem S151_eq (env:Env) (b0_a:AV) (s:AS) (K:AV->AS->Prop) (X:PV->AS->Prop):S151 env b0_a s K X=bodyD prog env an151 f151 [b0_a] s K X:=by
  unfold S151
  kernel_rfl
theorem S151_ok:(match f151.body with | some c=>okCode an151 prog f151.ntmps c | none=>false)=true:=by kernel_rfl
def an177:An:={ mu:=[],cut:=[],loop:=[] }
def S177 (env:Env) (u0_a:AV) (s:AS) (K:AV->AS->Prop) (X:PV->AS->Prop):Prop :=
 (lock binD prog .add 211 u0_a (.pv (.int .u64 1)) fun t4 =>
 (lock binD prog .shr 211 u0_a (.pv (.int .u64 2)) fun t6 =>
 (lock binD prog .and 211 t6 (.pv (.int .u64 1)) fun t7 =>
 (lock binD prog .add 211 t4 t7 fun t8 =>
 (lock binD prog .shr 211 t8 (.pv (.int .u64 2)) fun t9 =>
 (retV (t9) s K))))))
theorem S177_eq (env:Env) (u0_a:AV) (s:AS) (K:AV->AS->Prop) (X:PV->AS->Prop):S177 env u0_a s K X=bodyD prog env an177 f177 [u0_a] s K X:=by
  unfold S177
  kernel_rfl
theorem S177_ok:(match f177.body with | some c=>okCode an177 prog f177.ntmps c | none=>false)=true:=by kernel_rfl
def an175:An:={ mu:=[],cut:=[],loop:=[] }
def S175 (env:Env) (x0_a:AV) (s:AS) (K:AV->AS->Prop) (X:PV->AS->Prop):Prop :=
 (lock binD prog .shl 37 x0_a (.pv (.int .u64 2)) fun t4 =>
 (lock binD prog .sub 37 t4 (.pv (.int .u64 2)) fun t5 =>
 (retV (t5) s K)))
theorem S175_eq (env:Env) (x0_a:AV) (s:AS) (K:AV->AS->Prop) (X:PV->AS->Prop):S175 env x0_a s K X=bodyD prog env an175 f175 [x0_a] s K X:=by
  unfold S175
  kernel_rfl
theorem S175_ok:(match f175.body with | some c=>okCode an175 prog f175.ntmps c | none=>false)=true:=by kernel_rfl
def an172:An:={ mu:=[],cut:=[],loop:=[] }
def S172 (env:Env) (x0_a:AV) (s:AS) (K:AV->AS->Prop) (X:PV->AS->Prop):Prop :=
 (lock binD prog .mul 3 x0_a (.pv (.int .i64 108853)) fun t4 =>
 (lock binD prog .shr 3 t4 (.pv (.int .u64 15)) fun t5 =>
 (retV (t5) s K)))
theorem S172_eq (env:Env) (x0_a:AV) (s:AS) (K:AV->AS->Prop) (X:PV->AS->Prop):S172 env x0_a s K X=bodyD prog env an172 f172 [x0_a] s K X:=by
  unfold S172
  kernel_rfl
theorem S172_ok:(match f172.body with | some c=>okCode an172 prog f172.ntmps c | none=>false)=true:=by kernel_rfl
def an170:An:={ mu:=[],cut:=[],loop:=[] }
def S170 (env:Env) (c0_a:AV) (s:AS) (K:AV->AS->Prop) (X:PV->AS->Prop):Prop :=
 (lock binD prog .or 5 c0_a (.pv (.int .u8 32)) fun t4 =>
 (retV (t4) s K))
theorem S170_eq (env:Env) (c0_a:AV) (s:AS) (K:AV->AS->Prop) (X:PV->AS->Prop):S170 env c0_a s K X=bodyD prog env an170 f170 [c0_a] s K X:=by
  unfold S170
  kernel_rfl
theorem S170_ok:(match f170.body with | some c=>okCode an170 prog f170.ntmps c | none=>false)=true:=by kernel_rfl
def an173:An:={ mu:=[],cut:=[],loop:=[] }
def S173 (env:Env) (pre0_a e1_a p2_a lp3_a:AV) (s:AS) (K:AV->AS->Prop) (X:PV->AS->Prop):Prop :=
 (lock binD prog .sub 3 p2_a (.pv (.int .i64 (-348))) fun t10 =>
 (lock indexAddrD prog 242 (.glob 14 0) t10 fun t11 =>
 (lock fieldAddrD prog 241 t11 0 fun t12 =>
 (lock loadD prog s 37 t12 fun t13 =>
 (lock nilD pre0_a fun t14 =>
 (lock fieldAddrD prog 208 t14 0 fun t15 =>
 (lock storeD prog s 37 t15 t13 fun s1 =>
 (lock binD prog .sub 3 p2_a (.pv (.int .i64 (-348))) fun t18 =>
 (lock indexAddrD prog 242 (.glob 14 0) t18 fun t19 =>
 (lock fieldAddrD prog 241 t19 1 fun t20 =>
 (lock loadD prog s1 37 t20 fun t21 =>
 (lock nilD pre0_a fun t22 =>
 (lock fieldAddrD prog 208 t22 1 fun t23 =>
 (lock storeD prog s1 37 t23 t21 fun s2 =>
 (lock binD prog .add 3 e1_a lp3_a fun t27 =>
 (lock binD prog .add 3 t27 (.pv (.int .i64 3)) fun t28 =>
 (unD .neg t28 fun t29 =>
 (lock nilD pre0_a fun t30 =>
 (lock fieldAddrD prog 208 t30 2 fun t31 =>
 (lock storeD prog s2 3 t31 t29 fun s3 =>
 (retV (.tuple []) s3 K)))))))))))))))))))))
theorem S173_eq (env:Env) (pre0_a e1_a p2_a lp3_a:AV) (s:AS) (K:AV->AS->Prop) (X:PV->AS->Prop):S173 env pre0_a e1_a p2_a lp3_a s K X=bodyD prog env an173 f173 [pre0_a,e1_a,p2_a,lp3_a] s K X:=by
  unfold S173
  kernel_rfl
theorem S173_ok:(match f173.body with | some c=>okCode an173 prog f173.ntmps c | none=>false)=true:=by kernel_rfl
def an174:An:={ mu:=[],cut:=[],loop:=[],any:=[7] }
def S174 (env:Env) (x0_a c1_a:AV) (s:AS) (K:AV->AS->Prop) (X:PV->AS->Prop):Prop :=
 (lock nilD c1_a fun t13 =>
 (lock fieldAddrD prog 208 t13 0 fun t14 =>
 (lock loadD prog s 37 t14 fun t15 =>
 (env 155 [x0_a,t15] s (fun t16 s1 =>
 (lock extractD t16 0 fun t17 =>
 (lock extractD t16 1 fun t18 =>
 (lock nilD c1_a fun t20 =>
 (lock fieldAddrD prog 208 t20 2 fun t21 =>
 (lock loadD prog s1 3 t21 fun t22 =>
 (lock binD prog .and 3 t22 (.pv (.int .i64 63)) fun t23 =>
 (lock binD prog .shr 37 t17 t23 fun t26 =>
 (lock binD prog .shl 37 t26 t23 fun t28 =>
 (lock binD prog .neq 37 t28 t17 fun t30 =>
 (condD t30
 (lock binD prog .shr 37 t17 t23 fun t33 =>
 (lock binD prog .or 37 t33 (.pv (.int .u64 1)) fun t34 =>
 (retV (t34) s1 K)))
 (lock nilD c1_a fun t38 =>
 (lock fieldAddrD prog 208 t38 1 fun t39 =>
 (lock loadD prog s1 37 t39 fun t40 =>
 (env 155 [x0_a,t40] s1 (fun t41 s2 =>
 (lock extractD t41 0 fun t42 =>
 (lock extractD t41 1 fun t43 =>
 (lock binD prog .lss 37 t18 t42 fun t47 =>
 (env 144 [t47] s2 (fun t48 s3 =>
 (lock binD prog .sub 37 t17 t48 fun t49 =>
 (lock binD prog .shr 37 t49 t23 fun t52 =>
 (lock binD prog .sub 37 t18 t42 fun t55 =>
 (lock binD prog .gtr 37 t55 (.pv (.int .u64 1)) fun t56 =>
 ((env 144 [t56] s3 (fun t57 s4 =>
 (lock binD prog .or 37 t52 t57 fun t58 =>
 (retV (t58) s4 K))) (panV X))/\True)))))) (panV X)))))) (panV X)))))))))))))))) (panV X)))))
theorem S174_eq (env:Env) (x0_a c1_a:AV) (s:AS) (K:AV->AS->Prop) (X:PV->AS->Prop):S174 env x0_a c1_a s K X=bodyD prog env an174 f174 [x0_a,c1_a] s K X:=by
  unfold S174
  kernel_rfl
theorem S174_ok:(match f174.body with | some c=>okCode an174 prog f174.ntmps c | none=>false)=true:=by kernel_rfl
def an147:An:={ mu:=[],cut:=[],loop:=[] }
def S147 (env:Env) (d0_a p1_a sign2_a:AV) (s:AS) (K:AV->AS->Prop) (X:PV->AS->Prop):Prop :=
 (env 150 [d0_a] s (fun t15 s1 =>
 (env 172 [p1_a] s1 (fun t17 s2 =>
 (lock binD prog .sub 3 (.pv (.int .i64 53)) t15 fun t19 =>
 (lock binD prog .sub 3 t19 t17 fun t21 =>
 (lock (foldD min2D) (.pv (.int .i64 1074)) [t21] fun t22 =>
 (lock allocD prog s2 208 fun t11 s3 =>
 (lock binD prog .sub 3 (.pv (.int .i64 64)) t15 fun t25 =>
 (lock binD prog .sub 3 t22 t25 fun t26 =>
 (env 173 [t11,t26,p1_a,t17] s3 (fun t29 s4 =>
 (lock fieldAddrD prog 208 t11 2 fun t30 =>
 (lock loadD prog s4 3 t30 fun t31 =>
 (lock binD prog .geq 3 t31 (.pv (.int .i64 64)) fun t32 =>
 (condD t32
 (lock binD prog .or 37 sign2_a (.pv (.int .u64 0)) fun t34 =>
 (env 145 [t34] s4 (fun t35 s5 =>
 (retV (.tuple [t35,(.pv .nilIface)]) s5 K)) (panV X)))
 (lock binD prog .sub 3 (.pv (.int .i64 64)) t15 fun t38 =>
 (lock binD prog .shl 37 d0_a t38 fun t39 =>
 (env 174 [t39,t11] s4 (fun t40 s6 =>
 (env 175 [(.pv (.int .u64 9007199254740992))] s6 (fun t42 s7 =>
 (lock binD prog .geq 211 t40 t42 fun t43 =>
 (env 151 [t43] s7 (fun t44 s8 =>
 (lock binD prog .shr 211 t40 t44 fun t47 =>
 (lock binD prog .and 211 t40 (.pv (.int .u64 1)) fun t49 =>
 (lock binD prog .or 211 t47 t49 fun t50 =>
 (lock binD prog .sub 3 t22 t44 fun t53 =>
 (env 177 [t50] s8 (fun t56 s9 =>
 (lock binD prog .or 37 sign2_a t56 fun t57 =>
 (unD .neg t53 fun t59 =>
 (env 180 [t57,t59] s9 (fun t60 s10 =>
 (lock extractD t60 0 fun t61 =>
 (lock extractD t60 1 fun t62 =>
 (retV (.tuple [t61,t62]) s10 K)))) (panV X))))) (panV X))))))) (panV X)))) (panV X))) (panV X))))))))) (panV X))))))))) (panV X))) (panV X))
theorem S147_eq (env:Env) (d0_a p1_a sign2_a:AV) (s:AS) (K:AV->AS->Prop) (X:PV->AS->Prop):S147 env d0_a p1_a sign2_a s K X=bodyD prog env an147 f147 [d0_a,p1_a,sign2_a] s K X:=by
  unfold S147
  kernel_rfl
theorem S147_ok:(match f147.body with | some c=>okCode an147 prog f147.ntmps c | none=>false)=true:=by kernel_rfl
def an180:An:={ mu:=[],cut:=[],loop:=[] }
def S180 (env:Env) (m0_a e1_a:AV) (s:AS) (K:AV->AS->Prop) (X:PV->AS->Prop):Prop :=
 (lock binD prog .and 37 m0_a (.pv (.int .u64 4503599627370496)) fun t7 =>
 (lock binD prog .eql 37 t7 (.pv (.int .u64 0)) fun t8 =>
 (condD t8
 (env 145 [m0_a] s (fun t10 s1 =>
 (retV (.tuple [t10,(.pv .nilIface)]) s1 K)) (panV X))
 (lock binD prog .geq 3 e1_a (.pv (.int .i64 972)) fun t12 =>
 (condD t12
 (lock binD prog .and 37 m0_a (.pv (.int .u64 9223372036854775808)) fun t14 =>
 (lock binD prog .or 37 t14 (.pv (.int .u64 9218868437227405312)) fun t15 =>
 (env 145 [t15] s (fun t16 s2 =>
 (lock ifaceD prog 120 (.pv (.int .i64 1)) fun t17 =>
 (retV (.tuple [t16,t17]) s2 K))) (panV X))))
 (lock binD prog .andNot 37 m0_a (.pv (.int .u64 4503599627370496)) fun t19 =>
 (lock binD prog .add 3 (.pv (.int .i64 1075)) e1_a fun t21 =>
 (lock convD prog s 3 37 t21 fun t22 =>
 (lock binD prog .shl 37 t22 (.pv (.int .u64 52)) fun t23 =>
 (lock binD prog .or 37 t19 t23 fun t24 =>
 (env 145 [t24] s (fun t25 s3 =>
 (retV (.tuple [t25,(.pv .nilIface)]) s3 K)) (panV X))))))))))))
theorem S180_eq (env:Env) (m0_a e1_a:AV) (s:AS) (K:AV->AS->Prop) (X:PV->AS->Prop):S180 env m0_a e1_a s K X=bodyD prog env an180 f180 [m0_a,e1_a] s K X:=by
  unfold S180
  kernel_rfl
theorem S180_ok:(match f180.body with | some c=>okCode an180 prog f180.ntmps c | none=>false)=true:=by kernel_rfl
end Go.AD

set_option linter.unusedVariables false
set_option linter.unusedSimpArgs false
set_option maxRecDepth 100000
namespace Go.AD.Fl
open Go.Proofs RowKit Go.AD.Fp
section
variable {env : Env} {args : List AV} {σ0 σ τ : AS} {K : AV -> AS -> Prop} {X : PV -> AS -> Prop}
abbrev u64 (n : Nat) : AV := .pv (.int .u64 (n : Int))
abbrev i64 (n : Int) : AV := .pv (.int .i64 n)
def T_Len64 : Tr := fun args σ K _ => ∃ d : Nat, args = [u64 d] /\ 0 < d /\ d < 18446744073709551616 /\ K (i64 ((d.log2 + 1 : Nat) : Int)) σ
def T_Mul64 : Tr := fun args σ K _ => ∃ x y : Nat, args = [u64 x, u64 y] /\ x < 18446744073709551616 /\ y < 18446744073709551616 /\ K (.tuple [u64 (x * y / 18446744073709551616), u64 (x * y % 18446744073709551616)]) σ
def T_bool (k : IntKind) : Tr := fun args σ K _ => ∃ b : Bool, args = [.pv (.bool b)] /\ K (.pv (.int k (if b then 1 else 0))) σ
theorem T_iBool64_ok (h : T_bool .u64 args σ K X) : bodyD PS env an144 Tryz.f144 args σ K X := by
  obtain ⟨b, rfl, hK⟩ := h
  rw [<- S144_eq env, S144]
  cases b <;> exact retV_self hK
def T_iRound : Tr := fun args σ K _ => ∃ u : Nat, args = [u64 u] /\ u < 18446744073709551600 /\ K (u64 (rndU u)) σ
theorem T_iRound_ok (h : T_iRound args σ K X) : bodyD PS env an177 Tryz.f177 args σ K X := by
  obtain ⟨u, rfl, hu, hK⟩ := h
  rw [<- S177_eq env, S177]
  simp only [lock_eq]
  rw [addI (y := 1) u 1 rfl (by omega)]
  rw [shrI (y := 2) u 2 rfl (by decide)]
  rw [andI (y := 1) (u / 2 ^ 2) 1 rfl (by omega) (by decide)]
  rw [show u / 2 ^ 2 &&& 1 = u / 4 % 2 from Nat.and_one_is_mod _, addU (by omega)]
  rw [shrI (y := 2) _ 2 rfl (by decide)]
  exact retV_self hK
def T_iUnmin : Tr := fun args σ K _ => ∃ u : Nat, args = [u64 u] /\ 0 < u /\ u < 4611686018427387904 /\ K (u64 (4 * u - 2)) σ
theorem T_iUnmin_ok (h : T_iUnmin args σ K X) : bodyD PS env an175 Tryz.f175 args σ K X := by
  obtain ⟨u, rfl, h0, hu, hK⟩ := h
  rw [<- S175_eq env, S175]
  simp only [lock_eq]
  rw [shlI (y := 2) u 2 rfl (by decide)]
  rw [show u * 2 ^ 2 % 18446744073709551616 = 4 * u from by omega, subI (y := 2) (4 * u) 2 rfl (by omega) (by omega)]
  exact retV_self hK
def T_iLog2 : Tr := fun args σ K _ => ∃ p : Int, args = [i64 p] /\ -400 <= p /\ p <= 400 /\ K (i64 (lpZ p)) σ
theorem T_iLog2_ok (h : T_iLog2 args σ K X) : bodyD PS env an172 Tryz.f172 args σ K X := by
  obtain ⟨p, rfl, h1, h2, hK⟩ := h
  rw [<- S172_eq env, S172]
  simp only [lock_eq]
  rw [bin_mul, wrap64 (by omega) (by omega)]
  rw [bin_shr]
  refine ⟨by decide, ?_⟩
  have e : (p * 108853).fdiv (2 ^ min (Int.toNat 15) (IntKind.bits .i64)) = lpZ p := by
    show (p * 108853).fdiv 32768 = _
    rw [Int.fdiv_eq_ediv_of_nonneg _ (by decide)]; rfl
  rw [e]
  exact retV_self hK
theorem hi_lt {p : Int} (h1 : -345 <= p) (h2 : p <= 310) : hiP p < 18446744073709551616 := by
  have := (lp_facts h1 h2).2.2.1
  unfold hiP
  omega
theorem lo_lt (p : Int) : loP p < 18446744073709551616 := (hl_facts p).2
theorem tab_get {p : Int} (h1 : -348 <= p) (h2 : p < 348) : tabPow10[(p + 348).toNat * 2]? = some (.int .u64 (hiP p)) /\ tabPow10[(p + 348).toNat * 2 + 1]? = some (.int .u64 (loP p)) := by
  have hl : ∀ n : Nat, ((List.range n).flatMap fun (i : Nat) => [PV.int .u64 (hiP ((i : Int) - 348)), PV.int .u64 (loP ((i : Int) - 348))]).length = n * 2 := by
    intro n
    induction n with
    | zero => rfl
    | succ n ih => rw [List.range_succ, List.flatMap_append, List.length_append, ih]; simp; omega
  have key : ∀ (n i : Nat), i < n -> ((List.range n).flatMap fun (i : Nat) => [PV.int .u64 (hiP ((i : Int) - 348)), PV.int .u64 (loP ((i : Int) - 348))])[i * 2]? = some (.int .u64 (hiP ((i : Int) - 348))) /\
      ((List.range n).flatMap fun (i : Nat) => [PV.int .u64 (hiP ((i : Int) - 348)), PV.int .u64 (loP ((i : Int) - 348))])[i * 2 + 1]? = some (.int .u64 (loP ((i : Int) - 348))) := by
    intro n
    induction n with
    | zero => intro i h; omega
    | succ n ih =>
      intro i h
      have hl := hl n
      rw [List.range_succ, List.flatMap_append]
      by_cases hi : i < n
      · rw [List.getElem?_append_left (by rw [hl]; omega), List.getElem?_append_left (by rw [hl]; omega)]
        exact ih i hi
      · obtain rfl : i = n := by omega
        rw [List.getElem?_append_right (by rw [hl]; omega), List.getElem?_append_right (by rw [hl]; omega), hl, Nat.sub_self, show i * 2 + 1 - i * 2 = 1 from by omega]
        exact ⟨rfl, rfl⟩
  have h := key 696 (p + 348).toNat (by omega)
  rw [show (((p + 348).toNat : Nat) : Int) - 348 = p from by omega] at h
  exact h
theorem known_tab {g : Nat} {x : Global} {cs : List PV} (h : PS.globals[g]? = some x) (h2 : knownTab x.name = some cs) : known PS g = some cs := by unfold known; rw [h]; exact h2
theorem g_pow10 : known PS 14 = some tabPow10 := by
  refine known_tab (x := PS.globals[14]!) (by kernel_rfl) ?_
  have e : (PS.globals[14]!).name = "internal/strconv.pow10Tab" := by kernel_rfl
  rw [e]; rfl
def T_iPrescale : Tr := fun args σ K _ => ∃ (a : Nat) (x y z : AV) (mk : Option TypeId) (e p l : Int), args = [.addr a 0, i64 e, i64 p, i64 l] /\ σ a = some (.cells [x, y, z] mk) /\ -345 <= p /\ p <= 310 /\ -10000 <= e /\ e <= 10000 /\ -10000 <= l /\ l <= 10000 /\
  K (.tuple []) (σ.set a (.cells [u64 (hiP p), u64 (loP p), i64 (-(e + l + 3))] mk))
theorem unPow : PS.underlying 242 = some (.array 696 241) := by kernel_rfl
theorem foPm0 : fieldOff PS 241 0 = some (0, 37) := by kernel_rfl
theorem foPm1 : fieldOff PS 241 1 = some (1, 37) := by kernel_rfl
theorem T_iPrescale_ok (h : T_iPrescale args σ K X) : bodyD PS env an173 Tryz.f173 args σ K X := by
  obtain ⟨a, x, y, z, mk, e, p, l, rfl, ha, h1, h2, h3, h4, h5, h6, hK⟩ := h
  obtain ⟨t1, t2⟩ := tab_get (p := p) (by omega) (by omega)
  rw [<- S173_eq env, S173]
  simp only [lock_eq]
  have ix : ∀ K : AV -> Prop, indexAddrD PS 242 (.glob 14 0) (i64 (p - -348)) K = K (.glob 14 ((p + 348).toNat * 2)) := fun K => by
    rw [ix_glob unPow (by kernel_rfl), show szOf PS 241 = 2 from by kernel_rfl, show p - -348 = p + 348 from by omega, Nat.zero_add]
    exact propext ⟨fun h => h.2.2, fun h => ⟨by omega, by omega, h⟩⟩
  have f0 : ∀ (o : Nat) (K : AV -> Prop), fieldAddrD PS 241 (.glob 14 o) 0 K = K (.glob 14 (o + 0)) := fun o K => fa_glob foPm0 T.hT37 T.sz37
  have f1 : ∀ (o : Nat) (K : AV -> Prop), fieldAddrD PS 241 (.glob 14 o) 1 K = K (.glob 14 (o + 1)) := fun o K => fa_glob foPm1 T.hT37 T.sz37
  have ld : ∀ (o : Nat) (K : AV -> Prop) (σ : AS), loadD PS σ 37 (.glob 14 o) K = ∃ v, tabPow10[o]? = some v /\ K (.pv v) := fun o K σ => ld_glob T.hT37 T.ag37 g_pow10
  simp (disch := omega) only [bin_sub, bin_add, wrap64, ix, f0, f1, ld, Nat.add_zero, t1, t2, someEx, nil_addr, T.fa208_0, T.fa208_1, T.fa208_2, T.stp37, T.stp3, ha, set_same, set_set, stM_cells, un_neg, Nat.zero_add,
    List.set_cons_zero, List.set_cons_succ, List.length_cons, List.length_nil]
  refine ⟨by decide, by decide, by decide, retV_self ?_⟩
  rw [show 0 - (e + l + 3) = -(e + l + 3) from by omega]
  exact hK
def T_iUscale : Tr := fun args σ K _ => ∃ (x a hi lo s : Nat) (mk : Option TypeId), args = [u64 x, .addr a 0] /\ σ a = some (.cells [u64 hi, u64 lo, i64 (s : Int)] mk) /\ x < 18446744073709551616 /\ hi < 18446744073709551616 /\ lo < 18446744073709551616 /\ s < 64 /\ 0 < x * hi / 18446744073709551616 /\
  K (u64 (uscaleN x hi lo s)) σ
theorem and63 {s : Nat} (h : s < 64) {t : TypeId} {K : AV -> Prop} : binD PS .and t (i64 (s : Int)) (i64 63) K = K (i64 (s : Int)) := by
  rw [bin_and]
  have e : IntKind.wrap .i64 ((BitVec.ofInt (IntKind.bits .i64) (s : Int) &&& BitVec.ofInt (IntKind.bits .i64) 63).toNat : Nat) = (s : Int) := by
    have : ∀ s : Fin 64, IntKind.wrap .i64 ((BitVec.ofInt (IntKind.bits .i64) ((s : Nat) : Int) &&& BitVec.ofInt (IntKind.bits .i64) 63).toNat : Nat) = ((s : Nat) : Int) := by decide +kernel
    exact this ⟨s, h⟩
  rw [e]
theorem shift_back {h s : Nat} (hh : h < 18446744073709551616) : (h / 2 ^ s * 2 ^ s % 18446744073709551616 = h) ↔ h % 2 ^ s = 0 := by
  have e := Nat.div_add_mod h (2 ^ s)
  have e2 : h / 2 ^ s * 2 ^ s <= h := Nat.div_mul_le_self _ _
  rw [Nat.mul_comm] at e
  omega
theorem or_one_if (n : Nat) (b : Bool) : n ||| (if b = true then 1 else 0) = orB n b := by
  cases b with
  | true => exact or_one n
  | false => simp [orB]
theorem T_iUscale_ok (h1 : env 155 = T_Mul64) (h2 : env 144 = T_bool .u64) (h : T_iUscale args σ K X) : bodyD PS env an174 Tryz.f174 args σ K X := by
  obtain ⟨x, a, hi, lo, s, mk, rfl, ha, hx, hhi, hlo, hs, h0, hK⟩ := h
  have hH : x * hi / 18446744073709551616 < 18446744073709551616 := by
    refine (Nat.div_lt_iff_lt_mul (by decide)).2 ?_
    exact Nat.lt_of_le_of_lt (Nat.mul_le_mul_right hi (Nat.le_of_lt hx)) (Nat.mul_lt_mul_of_pos_left hhi (by decide))
  have hL : x * lo / 18446744073709551616 < 18446744073709551616 := by
    refine (Nat.div_lt_iff_lt_mul (by decide)).2 ?_
    exact Nat.lt_of_le_of_lt (Nat.mul_le_mul_right lo (Nat.le_of_lt hx)) (Nat.mul_lt_mul_of_pos_left hlo (by decide))
  have hM : x * hi % 18446744073709551616 < 18446744073709551616 := Nat.mod_lt _ (by decide)
  unfold uscaleN at hK
  rw [show (2 : Nat) ^ 64 = 18446744073709551616 from rfl] at hK
  rw [<- S174_eq env, S174]
  simp only [lock_eq, nil_addr, T.fa208_0, T.fa208_1, T.fa208_2, T.ld37, T.ld3, ha, ldM_cells, Nat.zero_add, List.getElem?_cons_zero, List.getElem?_cons_succ, someEx]
  rw [h1]
  refine ⟨x, hi, rfl, hx, hhi, ?_⟩
  simp only [nil_addr, T.fa208_0, T.fa208_1, T.fa208_2, T.ld37, T.ld3, ha, ldM_cells, Nat.zero_add, List.getElem?_cons_zero, List.getElem?_cons_succ, someEx, ext_tuple, and63 hs]
  generalize x * hi / 18446744073709551616 = H at *
  generalize x * hi % 18446744073709551616 = M at *
  rw [shrU (by omega)]
  rw [shlU (by omega)]
  rw [bin_neq, cond_bool]
  have hb : ((((H / 2 ^ s * 2 ^ s % 18446744073709551616 : Nat) : Int) != (H : Int)) = true) ↔ H % 2 ^ s ≠ 0 := by
    rw [bne_iff_ne, ne_eq, Int.natCast_inj, shift_back hH]
  refine iteI (fun g => ?_) (fun g => ?_)
  · rw [if_pos (hb.1 g)] at hK
    rw [shrU (by omega)]
    have := Nat.div_le_self H (2 ^ s)
    rw [orI (y := 1) _ 1 rfl (by omega) (by decide), or_one]
    exact retV_self hK
  · rw [if_neg (fun e => g (hb.2 e))] at hK
    refine ⟨x, lo, rfl, hx, hlo, ?_⟩
    simp only [ext_tuple, List.getElem?_cons_zero, List.getElem?_cons_succ, someEx]
    generalize x * lo / 18446744073709551616 = L at *
    rw [bin_lss, h2]
    refine ⟨_, rfl, ?_⟩
    by_cases hml : M < L
    · rw [if_pos hml] at hK
      have e : decide ((M : Int) < (L : Int)) = true := by simp; omega
      simp only [e, if_true]
      rw [subI (y := 1) H 1 rfl (by omega) hH]
      rw [shrU (by omega)]
      rw [subUw hml hL]
      rw [bin_gtr]
      refine ⟨⟨_, rfl, ?_⟩, trivial⟩
      have := Nat.div_le_self (H - 1) (2 ^ s)
      have e2 : (if decide (((M + 18446744073709551616 - L : Nat) : Int) > 1) = true then (1 : Int) else 0) = (((if decide (1 < M + 18446744073709551616 - L) = true then 1 else 0 : Nat)) : Int) := by
        by_cases hh : 1 < M + 18446744073709551616 - L
        · rw [if_pos (by simp; omega), if_pos (by simp; omega)]; rfl
        · rw [if_neg (by simp; omega), if_neg (by simp; omega)]; rfl
      rw [e2]
      dsimp only
      rw [orU (by omega) (by split <;> decide), or_one_if]
      exact retV_self hK
    · rw [if_neg hml] at hK
      have e : decide ((M : Int) < (L : Int)) = false := by simp; omega
      simp only [e, Bool.false_eq_true, if_false]
      rw [subI (y := 0) H 0 rfl (by omega) hH, Nat.sub_zero]
      rw [shrU (by omega)]
      rw [subU (by omega) hM]
      rw [bin_gtr]
      refine ⟨⟨_, rfl, ?_⟩, trivial⟩
      have := Nat.div_le_self H (2 ^ s)
      have e2 : (if decide (((M - L : Nat) : Int) > 1) = true then (1 : Int) else 0) = (((if decide (1 < M - L) = true then 1 else 0 : Nat)) : Int) := by
        by_cases hh : 1 < M - L
        · rw [if_pos (by simp; omega), if_pos (by simp; omega)]; rfl
        · rw [if_neg (by simp; omega), if_neg (by simp; omega)]; rfl
      rw [e2]
      dsimp only
      rw [orU (by omega) (by split <;> decide), or_one_if]
      exact retV_self hK
end
end Go.AD.Fl

set_option linter.unusedVariables false
set_option linter.unusedSimpArgs false
set_option maxRecDepth 100000
namespace Go.AD.Fl
open Go.Proofs RowKit Go.AD.Fp
section
variable {env : Env} {args : List AV} {σ0 σ τ : AS} {K : AV -> AS -> Prop} {X : PV -> AS -> Prop}
theorem T_iBoolI_ok (h : T_bool .i64 args σ K X) : bodyD PS env an151 Tryz.f151 args σ K X := by
  obtain ⟨b, rfl, hK⟩ := h
  rw [<- S151_eq env, S151]
  cases b <;> exact retV_self hK
def sg (neg : Bool) : Nat := if neg = true then 9223372036854775808 else 0
theorem sg_le (neg : Bool) : sg neg <= 9223372036854775808 := by unfold sg; split <;> decide
theorem sg_mul (neg : Bool) : sg neg = 2 ^ 63 * neg.toNat := by cases neg <;> rfl
theorem sg_or (neg : Bool) {m : Nat} (h : m < 9223372036854775808) : sg neg ||| m = sg neg + m := by rw [sg_mul]; exact or_high h _
theorem wordR_sg (neg : Bool) {r : Nat} (h : r <= infR) : wordR neg r = sg neg + r := by
  unfold wordR
  rw [Nat.min_eq_left h, sg_mul, Nat.add_comm]
  unfold Ieee.Format.word
  rw [dbl_sign]
  cases neg
  · simp
  · simp; omega
def errR (r : Nat) : AV := if r = infR then .pv (.iface 120 false [.int .i64 1]) else .pv .nilIface
def T_iPack : Tr := fun args σ K _ => ∃ (neg : Bool) (m : Nat) (e : Int), args = [u64 (sg neg + m), i64 (-e)] /\ m < 9007199254740992 /\ -5000 < e /\ e <= 1074 /\
  K (.tuple [.pv (.float .f64 (sg neg + packN m e)), errR (packN m e)]) σ
theorem T_iPack_ok (h1 : env 145 = T_f64from) (h : T_iPack args σ K X) : bodyD PS env an180 Tryz.f180 args σ K X := by
  obtain ⟨neg, m, e, rfl, hm, he1, he2, hK⟩ := h
  have hs := sg_le neg
  have hsm : sg neg % 9223372036854775808 = 0 := by unfold sg; split <;> rfl
  rw [<- S180_eq env, S180]
  simp only [lock_eq]
  rw [andI (y := 4503599627370496) _ (2 ^ 52) rfl (by omega) (by decide), and_bit, bin_eql, cond_bool]
  have hb : (sg neg + m) / 2 ^ 52 % 2 = 1 ↔ 2 ^ 52 <= m := by omega
  refine iteI (fun g => ?_) (fun g => ?_)
  · have hlt : m < 2 ^ 52 := by
      apply Classical.byContradiction; intro hc
      rw [if_pos (hb.2 (by omega))] at g
      exact absurd g (by decide)
    rw [h1]
    refine ⟨_, rfl, retV_self ?_⟩
    have e1 : packN m e = m := by unfold packN; rw [if_pos hlt]
    rw [e1] at hK
    have e2 : errR m = .pv .nilIface := by unfold errR infR; rw [if_neg (by omega)]
    rw [e2] at hK
    rw [Int.toNat_natCast]
    exact hK
  · have hge : 2 ^ 52 <= m := by
      apply Classical.byContradiction; intro hc
      rw [if_neg (fun e => hc (hb.1 e))] at g
      exact absurd rfl g
    rw [bin_geq, cond_bool]
    refine iteI (fun g2 => ?_) (fun g2 => ?_)
    · have e1 : packN m e = infR := by
        unfold packN
        rw [if_neg (by omega), if_pos (by simpa using g2)]
      rw [e1] at hK
      rw [andI (y := 9223372036854775808) _ (2 ^ 63) rfl (by omega) (by decide), and_bit]
      have e3 : (if (sg neg + m) / 2 ^ 63 % 2 = 1 then 2 ^ 63 else 0) = sg neg := by unfold sg at *; split at hs <;> simp_all <;> omega
      rw [e3, orI (y := 9218868437227405312) _ infR rfl (by omega) (by decide), sg_or neg (by decide), h1]
      refine ⟨_, rfl, ?_⟩
      rw [Int.toNat_natCast]
      have hif : ∀ K : AV -> Prop, ifaceD PS 120 (i64 1) K = K (.pv (.iface 120 false [.int .i64 1])) := fun K => by simp [ifaceD, T.un120, toPV]
      dsimp only
      rw [hif]
      exact retV_self hK
    · have g3 : ¬ (972 <= -e) := by simpa using g2
      have e1 : packN m e = m - 2 ^ 52 + (1075 - e).toNat * 2 ^ 52 := by
        unfold packN
        rw [if_neg (by omega), if_neg g3]
      rw [e1] at hK
      rw [andNot_bit (by omega), if_pos (hb.2 hge), bin_add, wrap64 (by omega) (by omega), T.cv3_37, wU64 (by omega) (by omega), show (1075 + -e : Int) = (((1075 - e).toNat : Nat) : Int) from by omega,
        shlI (y := 52) _ 52 rfl (by decide)]
      generalize hk : (1075 - e).toNat = k at *
      rw [show k * 2 ^ 52 % 18446744073709551616 = 2 ^ 52 * k from by omega, orU (by omega) (by omega)]
      have e4 : sg neg + m - 2 ^ 52 ||| 2 ^ 52 * k = sg neg + (m - 2 ^ 52 + k * 2 ^ 52) := by
        rw [show sg neg + m - 2 ^ 52 = sg neg + (m - 2 ^ 52) from by omega, <- sg_or neg (by omega), Nat.or_assoc, Nat.or_comm (m - 2 ^ 52), or_high (by omega), sg_or neg (by omega)]
        omega
      rw [e4, h1]
      refine ⟨_, rfl, retV_self ?_⟩
      rw [Int.toNat_natCast]
      have e5 : errR (m - 2 ^ 52 + k * 2 ^ 52) = .pv .nilIface := by unfold errR infR; rw [if_neg (by omega)]
      rw [e5] at hK
      exact hK
def T_iParse64 : Tr := fun args σ K _ => ∃ (neg : Bool) (d : Nat) (p : Int), args = [u64 d, i64 p, u64 (sg neg)] /\ 0 < d /\ d < 18446744073709551616 /\ -345 <= p /\ p <= 310 /\
  K (.tuple [.pv (.float .f64 (sg neg + rungD d p)), errR (rungD d p)]) σ
theorem half_or (u : Nat) : u / 2 ||| u % 2 = halfU u := by
  unfold halfU
  rcases (show u % 2 = 0 \/ u % 2 = 1 by omega) with h | h
  · rw [h, Nat.or_zero]
    split <;> omega
  · rw [h, or_one, if_neg (by omega)]
theorem same_or (u : Nat) : u ||| u % 2 = u := by
  rcases (show u % 2 = 0 \/ u % 2 = 1 by omega) with h | h
  · rw [h, Nat.or_zero]
  · rw [h, or_one]; omega
theorem T_iParse64_ok (hLen : env 150 = T_Len64) (hLog : env 172 = T_iLog2) (hPre : env 173 = T_iPrescale) (hFrom : env 145 = T_f64from) (hUs : env 174 = T_iUscale) (hMin : env 175 = T_iUnmin)
    (hB : env 151 = T_bool .i64) (hRnd : env 177 = T_iRound) (hPack : env 180 = T_iPack) (h : T_iParse64 args σ K X) : bodyD PS env an147 Tryz.f147 args σ K X := by
  obtain ⟨neg, d, p, rfl, hd, hd2, h1, h2, hK⟩ := h
  rw [<- parse64_eq hd hd2 h1 h2] at hK
  have hs := sg_le neg
  have hlog : d.log2 < 64 := (Nat.log2_lt (by omega)).2 hd2
  have lo := Nat.log2_self_le (show d ≠ 0 by omega)
  have hi := (Nat.log2_lt (show d ≠ 0 by omega)).1 (Nat.lt_succ_self d.log2)
  have hlp : -1200 <= lpZ p /\ lpZ p <= 1100 := by unfold lpZ; omega
  have hE : min (1074 : Int) (53 - ((d.log2 + 1 : Nat) : Int) - lpZ p) = expZ d p := rfl
  have hEb : -2000 <= expZ d p /\ expZ d p <= 1074 := by rw [<- hE]; omega
  rw [<- S147_eq env, S147]
  rw [hLen]
  refine ⟨d, rfl, hd, hd2, ?_⟩
  rw [hLog]
  refine ⟨p, rfl, by omega, by omega, ?_⟩
  simp (disch := omega) only [lock_eq, bin_sub, wrap64, min_one, hE]
  refine alloc_of T.zo208 (by rfl) ?_
  intro a ha
  rw [hPre]
  refine ⟨a, _, _, _, _, _, p, lpZ p, rfl, set_same _ _ _, h1, h2, by omega, by omega, by omega, by omega, ?_⟩
  have hsz : -(expZ d p - (64 - ((d.log2 + 1 : Nat) : Int)) + lpZ p + 3) = sZ d p := rfl
  simp only [T.fa208_2, T.ld3, set_same, set_set, ldM_cells, Nat.zero_add, List.getElem?_cons_zero, List.getElem?_cons_succ, someEx, hsz, bin_geq, cond_bool]
  have hsub : σ.sub (σ.set a (.cells [u64 (hiP p), u64 (loP p), i64 (sZ d p)] (some 208))) := sub_set _ ha
  refine iteI (fun g => ?_) (fun g => ?_)
  · have g : 64 <= sZ d p := by simpa using g
    have e1 : parse64N d p = 0 := by unfold parse64N; rw [if_pos g]
    rw [e1] at hK
    rw [orI (y := 0) _ 0 rfl (by omega) (by decide), Nat.or_zero, hFrom]
    refine ⟨_, rfl, retV_sub hsub ?_⟩
    rw [Int.toNat_natCast]
    exact hK
  · have g : sZ d p < 64 := by simpa using g
    obtain ⟨_, h8⟩ := u_eq hd hd2 h1 h2 g
    have hmN := mN_lt hd hd2 h1 h2 g
    have hus := uN_small hd hd2 h1 h2 g
    have e1 : parse64N d p = packN (mN d p) (expZ d p - if 2 ^ 55 - 2 <= uN d p then 1 else 0) := by
      unfold parse64N mN
      rw [if_neg (by omega)]
      split
      · rfl
      · rw [Int.sub_zero]
    rw [e1] at hK
    unfold mN at hK hmN
    have hx1 : 2 ^ 63 <= d * 2 ^ (64 - (d.log2 + 1)) := by
      refine Nat.le_trans ?_ (Nat.mul_le_mul_right _ lo)
      rw [<- Nat.pow_add]
      exact Nat.pow_le_pow_right (by decide) (by omega)
    have hx2 : d * 2 ^ (64 - (d.log2 + 1)) < 2 ^ 64 := by
      refine Nat.lt_of_lt_of_le (Nat.mul_lt_mul_of_pos_right hi (two_pos _)) ?_
      rw [<- Nat.pow_add]
      exact Nat.pow_le_pow_right (by decide) (by omega)
    have hhi : 2 ^ 63 <= hiP p := by
      have := (lp_facts h1 h2).2.2.2
      unfold hiP
      omega
    rw [shlI (y := 64 - ((d.log2 + 1 : Nat) : Int)) d (64 - (d.log2 + 1)) (by omega) (by omega), Nat.mod_eq_of_lt (show d * 2 ^ (64 - (d.log2 + 1)) < 18446744073709551616 from hx2), hUs]
    have hpos : 0 < d * 2 ^ (64 - (d.log2 + 1)) * hiP p / 18446744073709551616 := by
      refine Nat.div_pos ?_ (by decide)
      exact Nat.le_trans (by decide) (Nat.mul_le_mul hx1 hhi)
    refine ⟨d * 2 ^ (64 - (d.log2 + 1)), a, hiP p, loP p, (sZ d p).toNat, some 208, rfl, ?_, hx2, hi_lt h1 h2, lo_lt p, by omega, hpos, ?_⟩
    · rw [set_same, Int.toNat_of_nonneg (by omega)]
    rw [show uscaleN (d * 2 ^ (64 - (d.log2 + 1))) (hiP p) (loP p) (sZ d p).toNat = uN d p from rfl, hMin]
    refine ⟨9007199254740992, rfl, by decide, by decide, ?_⟩
    dsimp only
    rw [bin_geq, hB]
    refine ⟨_, rfl, ?_⟩
    generalize hu : uN d p = u at *
    generalize expZ d p = E at *
    by_cases hc : 2 ^ 55 - 2 <= u
    · rw [if_pos hc] at hK hmN
      rw [if_pos hc] at hK
      have e : decide ((u : Int) ≥ ((4 * 9007199254740992 - 2 : Nat) : Int)) = true := by simp; omega
      simp only [e, if_true]
      rw [shrI (y := 1) u 1 rfl (by decide), andI (y := 1) u 1 rfl (by omega) (by decide), show u &&& 1 = u % 2 from Nat.and_one_is_mod _, orU (by omega) (by omega), show u / 2 ^ 1 = u / 2 from rfl, half_or, bin_sub, wrap64 (by omega) (by omega), hRnd]
      have hh := half_le (u := u)
      refine ⟨_, rfl, by omega, ?_⟩
      dsimp only
      rw [orU (by omega) (by omega), sg_or neg (by omega), un_neg, show (0 : Int) - (E - 1) = -(E - 1) from by omega, wrap64 (by omega) (by omega), hPack]
      refine ⟨neg, _, E - 1, rfl, hmN, by omega, by omega, ?_⟩
      simp only [ext_tuple, List.getElem?_cons_zero, List.getElem?_cons_succ, someEx]
      exact retV_sub hsub hK
    · rw [if_neg hc] at hK hmN
      rw [if_neg hc, Int.sub_zero] at hK
      have e : decide ((u : Int) ≥ ((4 * 9007199254740992 - 2 : Nat) : Int)) = false := by simp; omega
      simp only [e, Bool.false_eq_true, if_false]
      rw [shrI (y := 0) u 0 rfl (by decide), andI (y := 1) u 1 rfl (by omega) (by decide), show u &&& 1 = u % 2 from Nat.and_one_is_mod _, show u / 2 ^ 0 = u from Nat.div_one _, orU (by omega) (by omega), same_or, bin_sub, wrap64 (by omega) (by omega), Int.sub_zero, hRnd]
      refine ⟨_, rfl, by omega, ?_⟩
      dsimp only
      rw [orU (by omega) (by omega), sg_or neg (by omega), un_neg, show (0 : Int) - E = -E from by omega, wrap64 (by omega) (by omega), hPack]
      refine ⟨neg, _, E, rfl, hmN, by omega, by omega, ?_⟩
      simp only [ext_tuple, List.getElem?_cons_zero, List.getElem?_cons_succ, someEx]
      exact retV_sub hsub hK
end
end Go.AD.Fl

set_option maxRecDepth 100000
set_option linter.unusedSimpArgs false
namespace Go.AD.Fp
open Ieee
def valR (r : Nat) : Nat := if r < 2 ^ 52 then r else (2 ^ 52 + r % 2 ^ 52) * 2 ^ (r / 2 ^ 52 - 1)
theorem valR_lt {r s : Nat} (h : r < s) : valR r < valR s := by
  unfold valR
  by_cases h1 : s < 2 ^ 52
  · rw [if_pos (by omega), if_pos h1]; exact h
  · rw [if_neg h1]
    have hs : 2 ^ 52 + s % 2 ^ 52 <= (2 ^ 52 + s % 2 ^ 52) * 2 ^ (s / 2 ^ 52 - 1) := Nat.le_mul_of_pos_right _ (two_pos _)
    by_cases h2 : r < 2 ^ 52
    · rw [if_pos h2]; omega
    · rw [if_neg h2]
      by_cases h3 : r / 2 ^ 52 = s / 2 ^ 52
      · rw [h3]; exact Nat.mul_lt_mul_of_pos_right (by omega) (two_pos _)
      · have h4 : r / 2 ^ 52 - 1 + 1 <= s / 2 ^ 52 - 1 := by omega
        have a1 : (2 ^ 52 + r % 2 ^ 52) * 2 ^ (r / 2 ^ 52 - 1) < 2 ^ 53 * 2 ^ (r / 2 ^ 52 - 1) := Nat.mul_lt_mul_of_pos_right (by omega) (two_pos _)
        have a2 : 2 ^ 53 * 2 ^ (r / 2 ^ 52 - 1) = 2 ^ 52 * 2 ^ (r / 2 ^ 52 - 1 + 1) := by rw [pw, pw]; congr 1; omega
        have a3 : 2 ^ 52 * 2 ^ (r / 2 ^ 52 - 1 + 1) <= 2 ^ 52 * 2 ^ (s / 2 ^ 52 - 1) := Nat.mul_le_mul_left _ (pow_le2 h4)
        have a4 : 2 ^ 52 * 2 ^ (s / 2 ^ 52 - 1) <= (2 ^ 52 + s % 2 ^ 52) * 2 ^ (s / 2 ^ 52 - 1) := Nat.mul_le_mul_right _ (by omega)
        omega
theorem valR_le {r s : Nat} (h : r <= s) : valR r <= valR s := by
  rcases Nat.lt_or_ge r s with h1 | h1
  · exact Nat.le_of_lt (valR_lt h1)
  · rw [Nat.le_antisymm h h1]; exact Nat.le_refl _
theorem read_wordR {neg : Bool} {r : Nat} (h : r < infR) : double.read (wordR neg r) = if r < 2 ^ 52 then .number neg r (-1074) else .number neg (2 ^ 52 + r % 2 ^ 52) (-1074 + (r / 2 ^ 52 - 1 : Nat)) := by
  unfold wordR
  rw [Nat.min_eq_left (Nat.le_of_lt h)]
  exact read_word h
theorem fv_word {neg : Bool} {r : Nat} (h : r < infR) : fvZ (wordR neg r) = sgn neg (valR r) /\ isNaNw (wordR neg r) = false := by
  unfold fvZ isNaNw valR
  rw [read_wordR h]
  split
  · refine ⟨?_, rfl⟩
    show sgn neg (r * 2 ^ ((-1074 : Int) + 1074).toNat) = _
    rw [show ((-1074 : Int) + 1074).toNat = 0 from rfl, Nat.pow_zero, Nat.mul_one]
  · refine ⟨?_, rfl⟩
    show sgn neg ((2 ^ 52 + r % 2 ^ 52) * 2 ^ ((-1074 : Int) + (r / 2 ^ 52 - 1 : Nat) + 1074).toNat) = _
    congr 3
    omega
theorem read_inf (neg : Bool) : double.read (wordR neg infR) = .infinity neg := by cases neg <;> decide +kernel
theorem fv_inf (neg : Bool) : fvZ (wordR neg infR) = sgn neg e4000 /\ isNaNw (wordR neg infR) = false := by
  unfold fvZ isNaNw
  rw [read_inf]
  exact ⟨rfl, rfl⟩
theorem valR_inf {r : Nat} (h : r < infR) : valR r < e4000 := by
  have h1 : r <= infR - 1 := by omega
  exact Nat.lt_of_le_of_lt (valR_le h1) (by decide +kernel)
theorem wordR_order (neg : Bool) {r s : Nat} (hs : s < r) (hr : r <= infR) : isNaNw (wordR neg r) = false /\ (neg = false -> fvZ (wordR false s) < fvZ (wordR neg r)) /\ (neg = true -> fvZ (wordR neg r) < fvZ (wordR true s)) := by
  have e1 := (fv_word (neg := false) (r := s) (by omega)).1
  have e2 := (fv_word (neg := true) (r := s) (by omega)).1
  by_cases h : r < infR
  · obtain ⟨h1, h2⟩ := fv_word (neg := neg) h
    have := valR_lt hs
    refine ⟨h2, fun hn => ?_, fun hn => ?_⟩
    · subst hn; rw [h1, e1]; unfold sgn; simp; omega
    · subst hn; rw [h1, e2]; unfold sgn; simp; omega
  · obtain rfl : r = infR := by omega
    obtain ⟨h1, h2⟩ := fv_inf neg
    have := valR_inf (r := s) (by omega)
    refine ⟨h2, fun hn => ?_, fun hn => ?_⟩
    · subst hn; rw [h1, e1]; unfold sgn; simp; omega
    · subst hn; rw [h1, e2]; unfold sgn; simp; omega
theorem c15_word : wordR false 4831355200913801216 = 4831355200913801216 /\ wordR true 4831355200913801216 = 14054727237768577024 := by decide +kernel
theorem c15_next : 4831355200913801216 < rung ((10 ^ 15 + 1) * e1074) 1 := by decide +kernel
theorem le15 {neg : Bool} {V : Nat} (h1 : double.order (wordR neg (rung (V * e1074) 1)) 4831355200913801216 ≠ some .gt) (h2 : double.order (wordR neg (rung (V * e1074) 1)) 14054727237768577024 ≠ some .lt) : V <= 10 ^ 15 := by
  apply Classical.byContradiction
  intro hV
  have hr : 4831355200913801216 < rung (V * e1074) 1 := by
    refine Nat.lt_of_lt_of_le c15_next (rung_mono (by decide) (by decide) ?_)
    rw [Nat.mul_one, Nat.mul_one]
    exact Nat.mul_le_mul_right _ (by omega)
  have ew : wordR neg (rung (V * e1074) 1) = wordR neg (min (rung (V * e1074) 1) infR) := by
    unfold wordR; rw [Nat.min_assoc, Nat.min_self]
  rw [ew] at h1 h2
  have hi : infR = 9218868437227405312 := rfl
  obtain ⟨n1, n2, n3⟩ := wordR_order neg (r := min (rung (V * e1074) 1) infR) (s := 4831355200913801216) (by omega) (Nat.min_le_right ..)
  have m1 := (fv_word (neg := false) (r := 4831355200913801216) (by decide)).2
  have m2 := (fv_word (neg := true) (r := 4831355200913801216) (by decide)).2
  cases neg with
  | false =>
    rw [<- c15_word.1, order_w n1 m1, Int.compare_eq_gt.2 (n2 rfl)] at h1
    exact h1 rfl
  | true =>
    rw [<- c15_word.2, order_w n1 m2, Int.compare_eq_lt.2 (n3 rfl)] at h2
    exact h2 rfl
def isNB (w V : Nat) : Bool := match double.read w with
  | .number false mag place => decide (-60 <= place) && decide (mag < 2 ^ 53) && decide (mag * 2 ^ (place + 60).toNat = V * 2 ^ 60)
  | _ => false
theorem isNB_isN {w V : Nat} (h : isNB w V = true) : IsN w false V := by
  unfold isNB at h
  split at h
  · rename_i mag place e
    simp only [Bool.and_eq_true, decide_eq_true_eq] at h
    exact ⟨mag, place, e, h.1.1, h.1.2, h.2⟩
  · cases h
theorem ten_isN : ∀ i : Nat, i < 23 -> isNB (double.write (.number false (10 ^ i) 0)) (10 ^ i) = true := by decide +kernel
theorem xor63 {r : Nat} (h : r < 9223372036854775808) : r ^^^ 9223372036854775808 = 9223372036854775808 + r := by
  have e : (9223372036854775808 : Nat) = 2 ^ 63 := rfl
  have h' : r < 2 ^ 63 := h
  have e2 : 2 ^ 63 + r = 2 ^ 63 * 1 ||| r := by rw [<- Nat.two_pow_add_eq_or_of_lt h']
  rw [e, e2, Nat.mul_one]
  apply Nat.eq_of_testBit_eq; intro j
  rw [Nat.testBit_xor, Nat.testBit_or, Nat.testBit_two_pow]
  by_cases hj : 63 = j
  · subst hj
    rw [Nat.testBit_lt_two_pow h']; simp
  · simp [hj]
theorem neg_word {r : Nat} (h : r <= infR) : wordR false r ^^^ 9223372036854775808 = wordR true r := by
  have hi : infR = 9218868437227405312 := rfl
  unfold wordR Format.word
  rw [dbl_sign, Nat.min_eq_left h]
  show r ^^^ 9223372036854775808 = 9223372036854775808 + r
  exact xor63 (by omega)
end Go.AD.Fp

set_option linter.unusedVariables false
set_option maxRecDepth 100000
namespace Go.AD
open Go.Proofs.Tryz
def an146:An:={ mu:=[],cut:=[(5,[1,6,7]),(8,[1,6,7,22]),(11,[1,6,7]),(12,[1,6]),(14,[1,6,7,50])],loop:=[] }
def J146_12 (env:Env)  (exp1_j12 f6_j12:AV) (s:AS) (K:AV->AS->Prop) (X:PV->AS->Prop):Prop :=
 (lock loadD prog s 217 (.glob 12 0) fun t45 =>
 (lock indexAddrD prog 217 t45 exp1_j12 fun t47 =>
 (lock loadD prog s 22 t47 fun t48 =>
 (lock fbinD s .mul f6_j12 t48 fun t49 s2 =>
 (retV (.tuple [t49,(.pv (.bool true))]) s2 K)))))
theorem J146_12_eq (env:Env)  (exp1_j12 f6_j12:AV) (s:AS) (K:AV->AS->Prop) (X:PV->AS->Prop):J146_12 env  exp1_j12 f6_j12 s K X=cutK (fun fr s=>wpD prog env an146 (subC (bodyC f146) [1,1,1,1,0,0,1,1,1,0,1,1]) (contQ prog env an146 (bodyC f146) [1,1,1,1,0,0,1,1,1,0,1,1] [] (rootQ prog f146 K X)) fr s) [(1,exp1_j12),(6,f6_j12)] s:=by
  unfold J146_12
  refine cutK_of ?_
  kernel_rfl
def J146_11 (env:Env)  (exp1_j11 f6_j11 ok7_j11:AV) (s:AS) (K:AV->AS->Prop) (X:PV->AS->Prop):Prop :=
 (lock binD prog .gtr 22 f6_j11 (.pv (.float .f64 4831355200913801216)) fun t39 =>
 (guardD t39 false
 (lock binD prog .lss 22 f6_j11 (.pv (.float .f64 14054727237768577024)) fun t42 =>
 (condD t42
 (retV (.tuple [f6_j11,ok7_j11]) s K)
 (J146_12 env  (exp1_j11) (f6_j11) s K X)))
 (retV (.tuple [f6_j11,ok7_j11]) s K)))
theorem J146_11_eq (env:Env)  (exp1_j11 f6_j11 ok7_j11:AV) (s:AS) (K:AV->AS->Prop) (X:PV->AS->Prop):J146_11 env  exp1_j11 f6_j11 ok7_j11 s K X=cutK (fun fr s=>wpD prog env an146 (subC (bodyC f146) [1,1,1,1,0,0,1,1,1,0,1]) (contQ prog env an146 (bodyC f146) [1,1,1,1,0,0,1,1,1,0,1] [] (rootQ prog f146 K X)) fr s) [(1,exp1_j11),(6,f6_j11),(7,ok7_j11)] s:=by
  unfold J146_11
  simp only [J146_12_eq]
  refine cutK_of ?_
  kernel_rfl
def J146_14 (env:Env)  (exp1_j14 f6_j14 ok7_j14 t50_j14:AV) (s:AS) (K:AV->AS->Prop) (X:PV->AS->Prop):Prop :=
 (condD t50_j14
 (lock loadD prog s 217 (.glob 12 0) fun t58 =>
 (unD .neg exp1_j14 fun t60 =>
 (lock indexAddrD prog 217 t58 t60 fun t61 =>
 (lock loadD prog s 22 t61 fun t62 =>
 (lock fbinD s .quo f6_j14 t62 fun t63 s3 =>
 (retV (.tuple [t63,(.pv (.bool true))]) s3 K))))))
 (retV (.tuple [f6_j14,ok7_j14]) s K))
theorem J146_14_eq (env:Env)  (exp1_j14 f6_j14 ok7_j14 t50_j14:AV) (s:AS) (K:AV->AS->Prop) (X:PV->AS->Prop):J146_14 env  exp1_j14 f6_j14 ok7_j14 t50_j14 s K X=cutK (fun fr s=>wpD prog env an146 (subC (bodyC f146) [1,1,1,1,0,0,1,1,1,1,1]) (contQ prog env an146 (bodyC f146) [1,1,1,1,0,0,1,1,1,1,1] [] (rootQ prog f146 K X)) fr s) [(1,exp1_j14),(6,f6_j14),(7,ok7_j14),(50,t50_j14)] s:=by
  unfold J146_14
  refine cutK_of ?_
  kernel_rfl
def J146_8 (env:Env)  (exp1_j8 f6_j8 ok7_j8 t22_j8:AV) (s:AS) (K:AV->AS->Prop) (X:PV->AS->Prop):Prop :=
 (condD t22_j8
 (lock binD prog .gtr 3 exp1_j8 (.pv (.int .i64 22)) fun t30 =>
 (condD t30
 (lock loadD prog s 217 (.glob 12 0) fun t32 =>
 (lock binD prog .sub 3 exp1_j8 (.pv (.int .i64 22)) fun t34 =>
 (lock indexAddrD prog 217 t32 t34 fun t35 =>
 (lock loadD prog s 22 t35 fun t36 =>
 (lock fbinD s .mul f6_j8 t36 fun t37 s1 =>
 (J146_11 env  (.pv (.int .i64 22)) (t37) (ok7_j8) s1 K X))))))
 (J146_11 env  (exp1_j8) (f6_j8) (ok7_j8) s K X)))
 (lock binD prog .lss 3 exp1_j8 (.pv (.int .i64 0)) fun t52 =>
 (guardD t52 true
 (lock binD prog .geq 3 exp1_j8 (.pv (.int .i64 (-22))) fun t55 =>
 (J146_14 env  (exp1_j8) (f6_j8) (ok7_j8) (t55) s K X))
 (J146_14 env  (exp1_j8) (f6_j8) (ok7_j8) (.pv (.bool false)) s K X))))
theorem J146_8_eq (env:Env)  (exp1_j8 f6_j8 ok7_j8 t22_j8:AV) (s:AS) (K:AV->AS->Prop) (X:PV->AS->Prop):J146_8 env  exp1_j8 f6_j8 ok7_j8 t22_j8 s K X=cutK (fun fr s=>wpD prog env an146 (subC (bodyC f146) [1,1,1,1,0,0,1,1,1]) (contQ prog env an146 (bodyC f146) [1,1,1,1,0,0,1,1,1] [] (rootQ prog f146 K X)) fr s) [(1,exp1_j8),(6,f6_j8),(7,ok7_j8),(22,t22_j8)] s:=by
  unfold J146_8
  simp only [J146_11_eq,J146_14_eq]
  refine cutK_of ?_
  kernel_rfl
def J146_5 (env:Env)  (exp1_j5 f6_j5 ok7_j5:AV) (s:AS) (K:AV->AS->Prop) (X:PV->AS->Prop):Prop :=
 (lock binD prog .eql 3 exp1_j5 (.pv (.int .i64 0)) fun t20 =>
 (condD t20
 (retV (.tuple [f6_j5,(.pv (.bool true))]) s K)
 (lock binD prog .gtr 3 exp1_j5 (.pv (.int .i64 0)) fun t24 =>
 (guardD t24 true
 (lock binD prog .leq 3 exp1_j5 (.pv (.int .i64 37)) fun t27 =>
 (J146_8 env  (exp1_j5) (f6_j5) (ok7_j5) (t27) s K X))
 (J146_8 env  (exp1_j5) (f6_j5) (ok7_j5) (.pv (.bool false)) s K X)))))
theorem J146_5_eq (env:Env)  (exp1_j5 f6_j5 ok7_j5:AV) (s:AS) (K:AV->AS->Prop) (X:PV->AS->Prop):J146_5 env  exp1_j5 f6_j5 ok7_j5 s K X=cutK (fun fr s=>wpD prog env an146 (subC (bodyC f146) [1,1,1,1]) (contQ prog env an146 (bodyC f146) [1,1,1,1] [] (rootQ prog f146 K X)) fr s) [(1,exp1_j5),(6,f6_j5),(7,ok7_j5)] s:=by
  unfold J146_5
  simp only [J146_8_eq]
  refine cutK_of ?_
  kernel_rfl
def S146 (env:Env) (mantissa0_a exp1_a neg2_a:AV) (s:AS) (K:AV->AS->Prop) (X:PV->AS->Prop):Prop :=
 (lock fieldAddrD prog 171 (.glob 7 0) 0 fun t9 =>
 (lock loadD prog s 108 t9 fun t10 =>
 (lock binD prog .shr 37 mantissa0_a t10 fun t11 =>
 (lock binD prog .neq 37 t11 (.pv (.int .u64 0)) fun t12 =>
 (condD t12
 (retV (.tuple [(.pv (.float .f64 0)),(.pv (.bool false))]) s K)
 (lock convD prog s 37 22 mantissa0_a fun t14 =>
 (condD neg2_a
 (unD .neg t14 fun t17 =>
 (J146_5 env  (exp1_a) (t17) (.pv (.bool false)) s K X))
 (J146_5 env  (exp1_a) (t14) (.pv (.bool false)) s K X))))))))
theorem S146_eq (env:Env) (mantissa0_a exp1_a neg2_a:AV) (s:AS) (K:AV->AS->Prop) (X:PV->AS->Prop):S146 env mantissa0_a exp1_a neg2_a s K X=bodyD prog env an146 f146 [mantissa0_a,exp1_a,neg2_a] s K X:=by
  unfold S146
  simp only [J146_5_eq]
  kernel_rfl
theorem S146_ok:(match f146.body with | some c=>okCode an146 prog f146.ntmps c | none=>false)=true:=by kernel_rfl
end Go.AD
