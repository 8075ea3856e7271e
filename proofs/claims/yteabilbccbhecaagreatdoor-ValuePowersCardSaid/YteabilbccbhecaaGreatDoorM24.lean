import Derived.Laws.FloatArith
import Derived.Test.YteabilbccbhecaaGreatDoorM8
import Derived.Test.YteabilbccbhecaaGreatDoorM22
import Derived.Test.YteabilbccbhecaaGreatDoorM9
import Derived.Test.YteabilbccbhecaaGreatDoorM23
set_option linter.unusedVariables false
set_option linter.unusedSimpArgs false
namespace Go.AD.Fp
open Go Ieee
def absB (b : Nat) : Nat := b % 9223372036854775808
def truncB (b : Nat) : Nat := FloatKind.f64.encode ((FloatKind.f64.decode b).integral .zero)
def nanB (b : Nat) : Bool := (FloatKind.f64.decode b).isNaN
def c1024 : Nat := 4652218415073722368
def m1024 : Nat := 13875590451928498176
theorem read_abs (b : Nat) : double.read (absB b) = match double.read b with
    | .number _ m e => .number false m e | .infinity _ => .infinity false | .nan _ t => .nan false t := by
  unfold Format.read absB
  have h : double.signWeight = 9223372036854775808 := by decide
  have h1 : b % 9223372036854775808 / 9223372036854775808 % 2 = 0 := by omega
  have h2 : b % 9223372036854775808 % 9223372036854775808 = b % 9223372036854775808 := by omega
  simp only [h, h1, h2]
  by_cases k1 : b % 9223372036854775808 < double.binade
  · simp only [k1, if_true]; rfl
  · by_cases k2 : b % 9223372036854775808 < double.infRung
    · simp only [k1, k2, if_true, if_false]; rfl
    · by_cases k3 : b % 9223372036854775808 = double.infRung
      · simp only [k1, k2, k3, if_true, if_false]; rfl
      · simp only [k1, k2, k3, if_true, if_false]; rfl
theorem read_mag {b m : Nat} {s : Bool} {e : Int} (h : double.read b = .number s m e) : m < 9007199254740992 := by
  unfold Format.read at h
  have hb : double.binade = 4503599627370496 := by decide
  simp only at h
  split at h
  · rename_i k; injection h with h1 h2 h3; rw [hb] at k; omega
  · split at h
    · injection h with h1 h2 h3; rw [hb] at h2; omega
    · split at h <;> cases h
theorem read_c : double.read c1024 = .number false 4503599627370496 (-42) := by decide +kernel
theorem read_m : double.read m1024 = .number true 4503599627370496 (-42) := by decide +kernel
theorem read_0 : double.read 0 = .number false 0 (-1074) := by decide +kernel
theorem shl (m k : Nat) : m <<< k = m * 2 ^ k := Nat.shiftLeft_eq m k
theorem cmp_gt {x y : Int} : (compare x y = .gt) ↔ y < x := Int.compare_eq_gt
theorem cmp_lt {x y : Int} : (compare x y = .lt) ↔ x < y := Int.compare_eq_lt
theorem is_nan {d : Datum} (h : d.isNaN = true) : ∃ s t, d = .nan s t := by
  cases d with
  | nan s t => exact ⟨s, t, rfl⟩
  | number => cases h
  | infinity => cases h
theorem ord_nan {x y : Nat} (h : nanB x = true \/ nanB y = true) : FloatKind.f64.format.order x y = none := by
  unfold nanB FloatKind.decode at h
  show Datum.order (FloatKind.f64.format.read x) (FloatKind.f64.format.read y) = none
  rcases h with h | h <;> obtain ⟨s, t, e⟩ := is_nan h
  · rw [e]; cases FloatKind.f64.format.read y <;> rfl
  · rw [e]; cases FloatKind.f64.format.read x <;> rfl
theorem ord_abs {y : Nat} (hn : nanB y = false) : FloatKind.f64.format.order (absB y) c1024 = some .gt ↔ (FloatKind.f64.format.order y c1024 = some .gt \/ FloatKind.f64.format.order y m1024 = some .lt) := by
  show Datum.order (double.read (absB y)) (double.read c1024) = some .gt ↔ (Datum.order (double.read y) (double.read c1024) = some .gt \/ Datum.order (double.read y) (double.read m1024) = some .lt)
  have hn : (double.read y).isNaN = false := hn
  rw [read_abs, read_c, read_m]
  cases h : double.read y with
  | nan s t => rw [h] at hn; cases hn
  | infinity s => cases s <;> simp [Datum.order]
  | number s m i =>
    simp only [Datum.order, Option.some.injEq, cmp_gt, cmp_lt]
    have hp : 0 < (4503599627370496 <<< ((-42 : Int) - min i (-42)).toNat : Nat) := by rw [shl]; exact Nat.mul_pos (by decide) (Nat.pow_pos (by decide))
    have hq := Int.natCast_nonneg (m <<< (i - min i (-42)).toNat)
    have hp : (0 : Int) < ((4503599627370496 <<< ((-42 : Int) - min i (-42)).toNat : Nat) : Int) := Int.ofNat_lt.2 hp
    cases s <;> simp only [signed, if_true, if_false, Bool.false_eq_true]
    all_goals generalize ((m <<< (i - min i (-42)).toNat : Nat) : Int) = u at *
    all_goals generalize ((4503599627370496 <<< ((-42 : Int) - min i (-42)).toNat : Nat) : Int) = v at *
    all_goals omega
def cutZ (m : Nat) (i : Int) : Nat := (m <<< i.toNat) / (1 <<< min (-i).toNat ((m <<< i.toNat).log2 + 2))
theorem toInt_num {b m : Nat} {s : Bool} {i : Int} (h : double.read b = .number s m i) : (FloatKind.f64.decode b).toInt .zero = some (signed s (cutZ m i) 0) := by
  show (double.read b).toInt .zero = _
  rw [h]
  simp [Datum.toInt, Datum.integral, Toward.cut, cutZ]
theorem cut_le (m : Nat) (i : Int) : cutZ m i <= m <<< i.toNat := Nat.div_le_self _ _
theorem small {y m : Nat} {s : Bool} {i : Int} (h : double.read y = .number s m i) (hg : FloatKind.f64.format.order (absB y) c1024 ≠ some .gt) : cutZ m i < 9007199254740993 := by
  have hm := read_mag h
  by_cases hi : i <= 0
  · have e : i.toNat = 0 := by omega
    have := cut_le m i
    rw [e, shl] at this
    omega
  · have hc := cut_le m i
    have hg' : ¬ (compare (signed false (m <<< (i - min i (-42)).toNat) 0) (signed false (4503599627370496 <<< ((-42 : Int) - min i (-42)).toNat) 0)) = .gt := by
      intro hh
      apply hg
      show Datum.order (double.read (absB y)) (double.read c1024) = some .gt
      rw [read_abs, read_c, h]
      simp only [Datum.order]
      rw [show compare (signed false m (i - min i (-42)).toNat) (signed false 4503599627370496 ((-42 : Int) - min i (-42)).toNat) = Ordering.gt by simpa [signed] using hh]
    rw [cmp_gt] at hg'
    simp only [signed, Bool.false_eq_true, if_false, Nat.shiftLeft_zero] at hg'
    have e1 : min i (-42) = -42 := by omega
    rw [e1] at hg'
    have e2 : ((-42 : Int) - -42).toNat = 0 := rfl
    have e3 : (i - -42).toNat = i.toNat + 42 := by omega
    rw [e2, e3, shl, shl, Nat.pow_add, <- Nat.mul_assoc] at hg'
    rw [shl] at hc
    generalize m * 2 ^ i.toNat = z at *
    have : ¬ (4503599627370496 * 2 ^ 0 < z * 2 ^ 42) := by omega
    omega
def powZ (y : Nat) : Int := ((FloatKind.f64.decode y).toInt .zero).getD 0
theorem i64min : IntKind.i64.min = -9223372036854775808 := by decide
theorem i64max : IntKind.i64.max = 9223372036854775807 := by decide
theorem num_of {y : Nat} (hn : nanB y = false) (hg : FloatKind.f64.format.order (absB y) c1024 ≠ some .gt) : ∃ s m i, double.read y = .number s m i := by
  have hn : (double.read y).isNaN = false := hn
  cases h : double.read y with
  | nan s t => rw [h] at hn; cases hn
  | infinity s =>
    exfalso; apply hg
    show Datum.order (double.read (absB y)) (double.read c1024) = some .gt
    rw [read_abs, read_c, h]; rfl
  | number s m i => exact ⟨s, m, i, rfl⟩
theorem to_int {y : Nat} (hn : nanB y = false) (hg : FloatKind.f64.format.order (absB y) c1024 ≠ some .gt) :
    floatToIntVal .f64 y .i64 = some (powZ y) /\ floatToIntVal .f64 (absB y) .i64 = some ((powZ y).natAbs : Int) /\ (powZ y).natAbs < 9007199254740993 := by
  obtain ⟨s, m, i, h⟩ := num_of hn hg
  have hs := small h hg
  have h2 : double.read (absB y) = .number false m i := by rw [read_abs, h]
  have e1 : powZ y = signed s (cutZ m i) 0 := by unfold powZ; rw [toInt_num h]; rfl
  have e2 : (signed s (cutZ m i) 0).natAbs = cutZ m i := by cases s <;> simp [signed]
  refine ⟨?_, ?_, by rw [e1, e2]; exact hs⟩
  · unfold floatToIntVal
    rw [toInt_num h, e1]
    simp only
    rw [if_pos]
    rw [i64min, i64max]
    cases s <;> simp only [signed, Nat.shiftLeft_zero, if_true, if_false, Bool.false_eq_true] <;> omega
  · unfold floatToIntVal
    rw [toInt_num h2, e1, e2]
    simp only [signed, Nat.shiftLeft_zero, if_false, Bool.false_eq_true]
    rw [if_pos]
    rw [i64min, i64max]
    omega
theorem neg_iff {y : Nat} (hn : nanB y = false) (hg : FloatKind.f64.format.order (absB y) c1024 ≠ some .gt) (ht : FloatKind.f64.format.order y (truncB y) = some .eq) :
    FloatKind.f64.format.order y 0 = some .lt ↔ powZ y < 0 := by
  obtain ⟨s, m, i, h⟩ := num_of hn hg
  have e1 : powZ y = signed s (cutZ m i) 0 := by unfold powZ; rw [toInt_num h]; rfl
  have e2 : FloatKind.f64.format.order y 0 = some .lt ↔ (s = true /\ 0 < m) := by
    show Datum.order (double.read y) (double.read 0) = some .lt ↔ _
    rw [h, read_0]
    simp only [Datum.order, Option.some.injEq, cmp_lt, signed, shl, Nat.zero_mul, Bool.false_eq_true, if_false]
    have hp : 0 < 2 ^ (i - min i (-1074)).toNat := Nat.pow_pos (by decide)
    generalize 2 ^ (i - min i (-1074)).toNat = z at *
    cases s with
    | false => simp; exact Int.natCast_nonneg _
    | true =>
      simp only [if_true, true_and]
      have : 0 < m * z ↔ 0 < m := ⟨fun h => Nat.pos_of_mul_pos_right h, fun h => Nat.mul_pos h hp⟩
      omega
  rw [e2, e1]
  cases s with
  | false => simp [signed]
  | true =>
    simp only [signed, if_true, true_and, Nat.shiftLeft_zero]
    have hle := cut_le m i
    constructor
    · intro hm
      by_cases hc : cutZ m i = 0
      · exfalso
        have hi : (double.read y).integral .zero = .number true 0 0 := by
          rw [h]
          have : Toward.zero.cut true (m <<< i.toNat) (-i).toNat = cutZ m i := by simp [Toward.cut, cutZ]
          simp only [Datum.integral, this, hc]
        have htr : double.read (truncB y) = .number true 0 (-1074) := by
          have : truncB y = double.write (.number true 0 0) := by
            show double.write ((double.read y).integral .zero) = _
            rw [hi]
          rw [this]; decide +kernel
        have ht : Datum.order (double.read y) (double.read (truncB y)) = some .eq := ht
        rw [h, htr] at ht
        simp only [Datum.order, Option.some.injEq, signed, if_true, shl, Nat.zero_mul] at ht
        have ht := Int.compare_eq_eq.1 ht
        have hp : 0 < 2 ^ (i - min i (-1074)).toNat := Nat.pow_pos (by decide)
        have := Nat.mul_pos hm hp
        omega
      · omega
    · intro hc
      rw [shl] at hle
      have : 0 < m * 2 ^ i.toNat := by omega
      exact Nat.pos_of_mul_pos_right this
def EqN (a b : Nat) : Prop := a = b \/ (nanB a = true /\ nanB b = true)
def FR (op : BinOp) (a b r : Nat) : Prop := floatBits op .f64 a b = some r \/ (floatBits op .f64 a b = none /\ nanB r = true)
theorem FR.self {op : BinOp} {a b r r' : Nat} (h : FR op a b r) (h' : FR op a b r') : EqN r r' := by
  rcases h with h | h <;> rcases h' with h' | h'
  · rw [h] at h'; exact .inl (Option.some.inj h')
  · rw [h] at h'; cases h'.1
  · rw [h'] at h; cases h.1
  · exact .inr ⟨h.2, h'.2⟩
theorem none_of_nan {op : BinOp} {a b : Nat} (h : nanB a = true \/ nanB b = true) : floatBits op .f64 a b = none := by
  have h : (double.read a).isNaN = true \/ (double.read b).isNaN = true := h
  unfold floatBits
  rcases h with h | h <;> obtain ⟨s, t, e⟩ := is_nan h
  all_goals split
  · show ((double.read a).sum (double.read b)).map double.write = none
    rw [e]; cases double.read b <;> rfl
  · show ((double.read a).sum (double.read b).opposite).map double.write = none
    rw [e]; cases double.read b <;> rfl
  · show ((double.read a).product (double.read b)).map double.write = none
    rw [e]; cases double.read b <;> rfl
  · show ((double.read a).quotient _ (double.read b)).map double.write = none
    rw [e]; cases double.read b <;> rfl
  · rfl
  · show ((double.read a).sum (double.read b)).map double.write = none
    rw [e]; cases double.read a <;> rfl
  · show ((double.read a).sum (double.read b).opposite).map double.write = none
    rw [e]; cases double.read a <;> rfl
  · show ((double.read a).product (double.read b)).map double.write = none
    rw [e]; cases double.read a <;> rfl
  · show ((double.read a).quotient _ (double.read b)).map double.write = none
    rw [e]; cases double.read a <;> rfl
  · rfl
theorem FR.congr {op : BinOp} {a a' b b' r r' : Nat} (ha : EqN a a') (hb : EqN b b') (h : FR op a b r) (h' : FR op a' b' r') : EqN r r' := by
  rcases ha with rfl | ⟨n1, n2⟩
  · rcases hb with rfl | ⟨n1, n2⟩
    · exact h.self h'
    · have e1 := none_of_nan (op := op) (a := a) (.inr n1); have e2 := none_of_nan (op := op) (a := a) (.inr n2)
      rcases h with h | h
      · rw [e1] at h; cases h
      · rcases h' with h' | h'
        · rw [e2] at h'; cases h'
        · exact .inr ⟨h.2, h'.2⟩
  · have e1 := none_of_nan (op := op) (b := b) (.inl n1); have e2 := none_of_nan (op := op) (b := b') (.inl n2)
    rcases h with h | h
    · rw [e1] at h; cases h
    · rcases h' with h' | h'
      · rw [e2] at h'; cases h'
      · exact .inr ⟨h.2, h'.2⟩
def one64 : Nat := 4607182418800017408
def Muls (x : Nat) : Nat -> Nat -> Prop
  | 0, r => r = one64
  | k + 1, r => ∃ q, Muls x k q /\ FR .mul q x r
theorem Muls.eqN {x : Nat} : ∀ {k r r' : Nat}, Muls x k r -> Muls x k r' -> EqN r r'
  | 0, _, _, h, h' => .inl (h.trans h'.symm)
  | k + 1, _, _, ⟨q, h1, h2⟩, ⟨q', h1', h2'⟩ => FR.congr (Muls.eqN h1 h1') (.inl rfl) h2 h2'
def powOk (y : Nat) : Bool := FloatKind.f64.format.order y (truncB y) == some .eq && !(FloatKind.f64.format.order y c1024 == some .gt) && !(FloatKind.f64.format.order y m1024 == some .lt)
def PowR (x y r : Nat) : Prop := if powZ y < 0 then ∃ q, Muls x (powZ y).natAbs q /\ FR .quo one64 q r else Muls x (powZ y).natAbs r
theorem PowR.eqN {x y r r' : Nat} (h : PowR x y r) (h' : PowR x y r') : EqN r r' := by
  unfold PowR at h h'
  split at h
  · rename_i k
    rw [if_pos k] at h'
    obtain ⟨q, h1, h2⟩ := h
    obtain ⟨q', h1', h2'⟩ := h'
    exact FR.congr (.inl rfl) (h1.eqN h1') h2 h2'
  · rename_i k
    rw [if_neg k] at h'
    exact Muls.eqN h h'
def bitsB (b : Nat) : Nat := if FloatKind.f64.format.order b b != some .eq then 1 else b
theorem bits_eqN {a b : Nat} (h : EqN a b) : bitsB a = bitsB b := by
  rcases h with rfl | ⟨h1, h2⟩
  · rfl
  · unfold bitsB
    rw [ord_nan (.inl h1), ord_nan (.inl h2)]; rfl
end Go.AD.Fp

set_option linter.unusedVariables false
set_option maxRecDepth 100000
namespace Go.AD
open Go.Proofs.Tryz
def an29:An:={ mu:=[],cut:=[],loop:=[] }
def S29 (env:Env) (x0_a:AV) (σ:AS) (K:AV->AS->Prop) (X:PV->AS->Prop):Prop :=
 (env 43 [x0_a] σ (fun t4 σ1 =>
 (retV (t4) σ1 K)) (panV X))
theorem S29_eq (env:Env) (x0_a:AV) (σ:AS) (K:AV->AS->Prop) (X:PV->AS->Prop):S29 env x0_a σ K X=bodyD prog env an29 f29 [x0_a] σ K X:=by
  unfold S29
  kernel_rfl
theorem S29_ok:(match f29.body with | some c=>okCode an29 prog f29.ntmps c | none=>false)=true:=by kernel_rfl
def an30:An:={ mu:=[],cut:=[],loop:=[] }
def S30 (env:Env) (x0_a:AV) (σ:AS) (K:AV->AS->Prop) (X:PV->AS->Prop):Prop :=
 (env 31 [x0_a] σ (fun t4 σ1 =>
 (lock binD prog .andNot 37 t4 (.pv (.int .u64 9223372036854775808)) fun t5 =>
 (env 12 [t5] σ1 (fun t6 σ2 =>
 (retV (t6) σ2 K)) (panV X)))) (panV X))
theorem S30_eq (env:Env) (x0_a:AV) (σ:AS) (K:AV->AS->Prop) (X:PV->AS->Prop):S30 env x0_a σ K X=bodyD prog env an30 f30 [x0_a] σ K X:=by
  unfold S30
  kernel_rfl
theorem S30_ok:(match f30.body with | some c=>okCode an30 prog f30.ntmps c | none=>false)=true:=by kernel_rfl
def an15:An:={ mu:=[],cut:=[],loop:=[] }
def S15 (env:Env) (x0_a:AV) (σ:AS) (K:AV->AS->Prop) (X:PV->AS->Prop):Prop :=
 (lock binD prog .neq 22 x0_a x0_a fun t5 =>
 (condD t5
 (retV ((.pv (.int .u64 1))) σ K)
 (env 31 [x0_a] σ (fun t7 σ1 =>
 (retV (t7) σ1 K)) (panV X))))
theorem S15_eq (env:Env) (x0_a:AV) (σ:AS) (K:AV->AS->Prop) (X:PV->AS->Prop):S15 env x0_a σ K X=bodyD prog env an15 f15 [x0_a] σ K X:=by
  unfold S15
  kernel_rfl
theorem S15_ok:(match f15.body with | some c=>okCode an15 prog f15.ntmps c | none=>false)=true:=by kernel_rfl
def an13:An:={ mu:=[],cut:=[(3,[0,1])],loop:=[(5,[0,1,6,18,19])] }
def L13_5 (env:Env) (I5:Nat->List AV->AS->Prop) (m5:Nat) (x0_l5 y1_l5 r6_l5 t18_l5 t19_l5:AV) (σ:AS) (K:AV->AS->Prop) (X:PV->AS->Prop):Prop :=
 (lock binD prog .lss 3 t19_l5 t18_l5 fun t20 =>
 (condD t20
 (lock fbinD σ .mul r6_l5 x0_l5 fun t23 σ5 =>
 (lock binD prog .add 3 t19_l5 (.pv (.int .i64 1)) fun t24 =>
 (∃ m',m' < m5/\I5 m' [x0_l5,y1_l5,t23,t18_l5,t24] σ5)))
 (lock binD prog .lss 22 y1_l5 (.pv (.float .f64 0)) fun t26 =>
 (condD t26
 (lock fbinD σ .quo (.pv (.float .f64 4607182418800017408)) r6_l5 fun t28 σ6 =>
 (retV (.tuple [t28,(.pv (.bool true))]) σ6 K))
 (retV (.tuple [r6_l5,(.pv (.bool true))]) σ K)))))
theorem L13_5_eq (env:Env) (I5:Nat->List AV->AS->Prop) (m5:Nat) (x0_l5 y1_l5 r6_l5 t18_l5 t19_l5:AV) (σ:AS) (K:AV->AS->Prop) (X:PV->AS->Prop):L13_5 env I5 m5 x0_l5 y1_l5 r6_l5 t18_l5 t19_l5 σ K X=wpD prog env an13 (subC (bodyC f13) [1,1,1,0,1,0,0]) (contQ prog env an13 (bodyC f13) [1,1,1,0,1,0,0] [(I5,m5)] (rootQ prog f13 K X)) [(0,x0_l5),(1,y1_l5),(6,r6_l5),(18,t18_l5),(19,t19_l5)] σ:=by
  unfold L13_5
  kernel_rfl
theorem lp13_5 {α:Type} {env:Env}  {x0_l5 y1_l5 t18_l5:AV} {σ:AS} {K:AV->AS->Prop} {X:PV->AS->Prop} (μ:α->AS->Nat) (I:α->AS->Prop) (er6_l5 et19_l5:α->AV) (a0:α) (h0:I a0 σ)
 (h:∀ a σ,I a σ->L13_5 env  (Inv (fun a=>[x0_l5,y1_l5,er6_l5 a,t18_l5,et19_l5 a]) μ I) (μ a σ) x0_l5 y1_l5 (er6_l5 a) t18_l5 (et19_l5 a) σ K X) :
 ∃ I5:Nat->List AV->AS->Prop,(∃ m,I5 m [x0_l5,y1_l5,er6_l5 a0,t18_l5,et19_l5 a0] σ)/\∀ (m:Nat) (x0 x1 x2 x3 x4:AV),∀ σ,I5 m [x0,x1,x2,x3,x4] σ ->
 L13_5 env  I5 m x0 x1 x2 x3 x4 σ K X:=by
  refine ⟨Inv (fun a=>[x0_l5,y1_l5,er6_l5 a,t18_l5,et19_l5 a]) μ I,⟨_,a0,rfl,rfl,h0⟩,?_⟩
  rintro m x0 x1 x2 x3 x4 σ' ⟨a,hv,rfl,hI⟩
  simp only [List.cons.injEq,and_true] at hv
  obtain ⟨rfl,rfl,rfl,rfl,rfl⟩:=hv
  exact h a σ' hI
def J13_3 (env:Env)  (x0_j3 y1_j3:AV) (σ:AS) (K:AV->AS->Prop) (X:PV->AS->Prop):Prop :=
 (env 30 [y1_j3] σ (fun t17 σ3 =>
 (lock convD prog σ3 22 3 t17 fun t18 =>
 (∃ I5:Nat->List AV->AS->Prop,(∃ m,I5 m [x0_j3,y1_j3,(.pv (.float .f64 4607182418800017408)),t18,(.pv (.int .i64 0))] σ3)/\∀ (m5:Nat) (x0_l5 y1_l5 r6_l5 t18_l5 t19_l5:AV),∀ σ4,I5 m5 [x0_l5,y1_l5,r6_l5,t18_l5,t19_l5] σ4 ->
 (L13_5 env I5 m5 x0_l5 y1_l5 r6_l5 t18_l5 t19_l5 σ4 K X)))) (panV X))
theorem J13_3_eq (env:Env)  (x0_j3 y1_j3:AV) (σ:AS) (K:AV->AS->Prop) (X:PV->AS->Prop):J13_3 env  x0_j3 y1_j3 σ K X=cutK (fun fr σ=>wpD prog env an13 (subC (bodyC f13) [1,1]) (contQ prog env an13 (bodyC f13) [1,1] [] (rootQ prog f13 K X)) fr σ) [(0,x0_j3),(1,y1_j3)] σ:=by
  unfold J13_3
  simp only [L13_5_eq]
  refine cutK_of ?_
  kernel_rfl
def S13 (env:Env) (x0_a y1_a:AV) (σ:AS) (K:AV->AS->Prop) (X:PV->AS->Prop):Prop :=
 (env 29 [y1_a] σ (fun t9 σ1 =>
 (lock binD prog .neq 22 y1_a t9 fun t10 =>
 (guardD t10 false
 (env 30 [y1_a] σ1 (fun t13 σ2 =>
 (lock binD prog .gtr 22 t13 (.pv (.float .f64 4652218415073722368)) fun t14 =>
 (condD t14
 (retV (.tuple [(.pv (.float .f64 0)),(.pv (.bool false))]) σ2 K)
 (J13_3 env  (x0_a) (y1_a) σ2 K X)))) (panV X))
 (retV (.tuple [(.pv (.float .f64 0)),(.pv (.bool false))]) σ1 K)))) (panV X))
theorem S13_eq (env:Env) (x0_a y1_a:AV) (σ:AS) (K:AV->AS->Prop) (X:PV->AS->Prop):S13 env x0_a y1_a σ K X=bodyD prog env an13 f13 [x0_a,y1_a] σ K X:=by
  unfold S13
  simp only [J13_3_eq]
  kernel_rfl
theorem S13_ok:(match f13.body with | some c=>okCode an13 prog f13.ntmps c | none=>false)=true:=by kernel_rfl
def an14:An:={ mu:=[],cut:=[(3,[0,1])],loop:=[(6,[0,6,7,8])] }
def L14_6 (env:Env) (I6:Nat->List AV->AS->Prop) (m6:Nat) (x0_l6 n6_l6 r7_l6 i8_l6:AV) (σ:AS) (K:AV->AS->Prop) (X:PV->AS->Prop):Prop :=
 (unD .neg n6_l6 fun t26 =>
 (lock (foldD max2D) n6_l6 [t26] fun t27 =>
 (lock binD prog .lss 3 i8_l6 t27 fun t28 =>
 (condD t28
 (lock fbinD σ .mul r7_l6 x0_l6 fun t33 σ3 =>
 (lock binD prog .add 3 i8_l6 (.pv (.int .i64 1)) fun t30 =>
 (∃ m',m' < m6/\I6 m' [x0_l6,n6_l6,t33,t30] σ3)))
 (lock binD prog .lss 3 n6_l6 (.pv (.int .i64 0)) fun t35 =>
 (condD t35
 (lock fbinD σ .quo (.pv (.float .f64 4607182418800017408)) r7_l6 fun t37 σ4 =>
 (retV (.tuple [t37,(.pv (.bool true))]) σ4 K))
 (retV (.tuple [r7_l6,(.pv (.bool true))]) σ K)))))))
theorem L14_6_eq (env:Env) (I6:Nat->List AV->AS->Prop) (m6:Nat) (x0_l6 n6_l6 r7_l6 i8_l6:AV) (σ:AS) (K:AV->AS->Prop) (X:PV->AS->Prop):L14_6 env I6 m6 x0_l6 n6_l6 r7_l6 i8_l6 σ K X=wpD prog env an14 (subC (bodyC f14) [1,1,1,1,0,1,0,0]) (contQ prog env an14 (bodyC f14) [1,1,1,1,0,1,0,0] [(I6,m6)] (rootQ prog f14 K X)) [(0,x0_l6),(6,n6_l6),(7,r7_l6),(8,i8_l6)] σ:=by
  unfold L14_6
  kernel_rfl
theorem lp14_6 {α:Type} {env:Env}  {x0_l6 n6_l6:AV} {σ:AS} {K:AV->AS->Prop} {X:PV->AS->Prop} (μ:α->AS->Nat) (I:α->AS->Prop) (er7_l6 ei8_l6:α->AV) (a0:α) (h0:I a0 σ)
 (h:∀ a σ,I a σ->L14_6 env  (Inv (fun a=>[x0_l6,n6_l6,er7_l6 a,ei8_l6 a]) μ I) (μ a σ) x0_l6 n6_l6 (er7_l6 a) (ei8_l6 a) σ K X) :
 ∃ I6:Nat->List AV->AS->Prop,(∃ m,I6 m [x0_l6,n6_l6,er7_l6 a0,ei8_l6 a0] σ)/\∀ (m:Nat) (x0 x1 x2 x3:AV),∀ σ,I6 m [x0,x1,x2,x3] σ ->
 L14_6 env  I6 m x0 x1 x2 x3 σ K X:=by
  refine ⟨Inv (fun a=>[x0_l6,n6_l6,er7_l6 a,ei8_l6 a]) μ I,⟨_,a0,rfl,rfl,h0⟩,?_⟩
  rintro m x0 x1 x2 x3 σ' ⟨a,hv,rfl,hI⟩
  simp only [List.cons.injEq,and_true] at hv
  obtain ⟨rfl,rfl,rfl,rfl⟩:=hv
  exact h a σ' hI
def J14_3 (env:Env)  (x0_j3 y1_j3:AV) (σ:AS) (K:AV->AS->Prop) (X:PV->AS->Prop):Prop :=
 (lock convD prog σ 22 3 y1_j3 fun t22 =>
 (∃ I6:Nat->List AV->AS->Prop,(∃ m,I6 m [x0_j3,t22,(.pv (.float .f64 4607182418800017408)),(.pv (.int .i64 0))] σ)/\∀ (m6:Nat) (x0_l6 n6_l6 r7_l6 i8_l6:AV),∀ σ2,I6 m6 [x0_l6,n6_l6,r7_l6,i8_l6] σ2 ->
 (L14_6 env I6 m6 x0_l6 n6_l6 r7_l6 i8_l6 σ2 K X)))
theorem J14_3_eq (env:Env)  (x0_j3 y1_j3:AV) (σ:AS) (K:AV->AS->Prop) (X:PV->AS->Prop):J14_3 env  x0_j3 y1_j3 σ K X=cutK (fun fr σ=>wpD prog env an14 (subC (bodyC f14) [1,1]) (contQ prog env an14 (bodyC f14) [1,1] [] (rootQ prog f14 K X)) fr σ) [(0,x0_j3),(1,y1_j3)] σ:=by
  unfold J14_3
  simp only [L14_6_eq]
  refine cutK_of ?_
  kernel_rfl
def S14 (env:Env) (x0_a y1_a:AV) (σ:AS) (K:AV->AS->Prop) (X:PV->AS->Prop):Prop :=
 (env 29 [y1_a] σ (fun t11 σ1 =>
 (lock binD prog .neq 22 y1_a t11 fun t12 =>
 (guardD t12 false
 (lock binD prog .gtr 22 y1_a (.pv (.float .f64 4652218415073722368)) fun t15 =>
 (guardD t15 false
 (lock binD prog .lss 22 y1_a (.pv (.float .f64 13875590451928498176)) fun t19 =>
 (condD t19
 (retV (.tuple [(.pv (.float .f64 0)),(.pv (.bool false))]) σ1 K)
 (J14_3 env  (x0_a) (y1_a) σ1 K X)))
 (retV (.tuple [(.pv (.float .f64 0)),(.pv (.bool false))]) σ1 K)))
 (retV (.tuple [(.pv (.float .f64 0)),(.pv (.bool false))]) σ1 K)))) (panV X))
theorem S14_eq (env:Env) (x0_a y1_a:AV) (σ:AS) (K:AV->AS->Prop) (X:PV->AS->Prop):S14 env x0_a y1_a σ K X=bodyD prog env an14 f14 [x0_a,y1_a] σ K X:=by
  unfold S14
  simp only [J14_3_eq]
  kernel_rfl
theorem S14_ok:(match f14.body with | some c=>okCode an14 prog f14.ntmps c | none=>false)=true:=by kernel_rfl
def an4:An:={ mu:=[],cut:=[(1,[0,1]),(3,[0,1]),(4,[5,6]),(5,[5,6,7,8]),(6,[7,8,9,10])],loop:=[] }
def J4_6 (env:Env)  (p7_j6 ok8_j6 q9_j6 yes10_j6:AV) (σ:AS) (K:AV->AS->Prop) (X:PV->AS->Prop):Prop :=
 (lock binD prog .eql 4 ok8_j6 yes10_j6 fun t31 =>
 (guardD t31 true
 (env 15 [p7_j6] σ (fun t34 σ6 =>
 (env 15 [q9_j6] σ6 (fun t36 σ7 =>
 (lock binD prog .eql 37 t34 t36 fun t37 =>
 (retV (t37) σ7 K))) (panV X))) (panV X))
 (retV ((.pv (.bool false))) σ K)))
theorem J4_6_eq (env:Env)  (p7_j6 ok8_j6 q9_j6 yes10_j6:AV) (σ:AS) (K:AV->AS->Prop) (X:PV->AS->Prop):J4_6 env  p7_j6 ok8_j6 q9_j6 yes10_j6 σ K X=cutK (fun fr σ=>wpD prog env an4 (subC (bodyC f4) [1,1,1,1,1]) (contQ prog env an4 (bodyC f4) [1,1,1,1,1] [] (rootQ prog f4 K X)) fr σ) [(7,p7_j6),(8,ok8_j6),(9,q9_j6),(10,yes10_j6)] σ:=by
  unfold J4_6
  refine cutK_of ?_
  kernel_rfl
def J4_5 (env:Env)  (a5_j5 b6_j5 p7_j5 ok8_j5:AV) (σ:AS) (K:AV->AS->Prop) (X:PV->AS->Prop):Prop :=
 (env 14 [a5_j5,b6_j5] σ (fun t26 σ5 =>
 (lock extractD t26 0 fun t27 =>
 (lock extractD t26 1 fun t28 =>
 (J4_6 env  (p7_j5) (ok8_j5) (t27) (t28) σ5 K X)))) (panV X))
theorem J4_5_eq (env:Env)  (a5_j5 b6_j5 p7_j5 ok8_j5:AV) (σ:AS) (K:AV->AS->Prop) (X:PV->AS->Prop):J4_5 env  a5_j5 b6_j5 p7_j5 ok8_j5 σ K X=cutK (fun fr σ=>wpD prog env an4 (subC (bodyC f4) [1,1,1,1]) (contQ prog env an4 (bodyC f4) [1,1,1,1] [] (rootQ prog f4 K X)) fr σ) [(5,a5_j5),(6,b6_j5),(7,p7_j5),(8,ok8_j5)] σ:=by
  unfold J4_5
  simp only [J4_6_eq]
  refine cutK_of ?_
  kernel_rfl
def J4_4 (env:Env)  (a5_j4 b6_j4:AV) (σ:AS) (K:AV->AS->Prop) (X:PV->AS->Prop):Prop :=
 (env 13 [a5_j4,b6_j4] σ (fun t20 σ4 =>
 (lock extractD t20 0 fun t21 =>
 (lock extractD t20 1 fun t22 =>
 (J4_5 env  (a5_j4) (b6_j4) (t21) (t22) σ4 K X)))) (panV X))
theorem J4_4_eq (env:Env)  (a5_j4 b6_j4:AV) (σ:AS) (K:AV->AS->Prop) (X:PV->AS->Prop):J4_4 env  a5_j4 b6_j4 σ K X=cutK (fun fr σ=>wpD prog env an4 (subC (bodyC f4) [1,1,1]) (contQ prog env an4 (bodyC f4) [1,1,1] [] (rootQ prog f4 K X)) fr σ) [(5,a5_j4),(6,b6_j4)] σ:=by
  unfold J4_4
  simp only [J4_5_eq]
  refine cutK_of ?_
  kernel_rfl
def J4_3 (env:Env)  (x0_j3 y1_j3:AV) (σ:AS) (K:AV->AS->Prop) (X:PV->AS->Prop):Prop :=
 (env 12 [x0_j3] σ (fun t14 σ2 =>
 (env 12 [y1_j3] σ2 (fun t16 σ3 =>
 (J4_4 env  (t14) (t16) σ3 K X)) (panV X))) (panV X))
theorem J4_3_eq (env:Env)  (x0_j3 y1_j3:AV) (σ:AS) (K:AV->AS->Prop) (X:PV->AS->Prop):J4_3 env  x0_j3 y1_j3 σ K X=cutK (fun fr σ=>wpD prog env an4 (subC (bodyC f4) [1,1]) (contQ prog env an4 (bodyC f4) [1,1] [] (rootQ prog f4 K X)) fr σ) [(0,x0_j3),(1,y1_j3)] σ:=by
  unfold J4_3
  simp only [J4_4_eq]
  refine cutK_of ?_
  kernel_rfl
def J4_1 (env:Env)  (x0_j1 y1_j1:AV) (σ:AS) (K:AV->AS->Prop) (X:PV->AS->Prop):Prop :=
 (env 7 [] σ (fun t11 σ1 =>
 (unD .not t11 fun t12 =>
 (condD t12
 (retV ((.pv (.bool false))) σ1 K)
 (J4_3 env  (x0_j1) (y1_j1) σ1 K X)))) (panV X))
theorem J4_1_eq (env:Env)  (x0_j1 y1_j1:AV) (σ:AS) (K:AV->AS->Prop) (X:PV->AS->Prop):J4_1 env  x0_j1 y1_j1 σ K X=cutK (fun fr σ=>wpD prog env an4 (subC (bodyC f4) [1]) (contQ prog env an4 (bodyC f4) [1] [] (rootQ prog f4 K X)) fr σ) [(0,x0_j1),(1,y1_j1)] σ:=by
  unfold J4_1
  simp only [J4_3_eq]
  refine cutK_of ?_
  kernel_rfl
def S4 (env:Env) (x0_a y1_a:AV) (σ:AS) (K:AV->AS->Prop) (X:PV->AS->Prop):Prop :=
 (J4_1 env  (x0_a) (y1_a) σ K X)
theorem S4_eq (env:Env) (x0_a y1_a:AV) (σ:AS) (K:AV->AS->Prop) (X:PV->AS->Prop):S4 env x0_a y1_a σ K X=bodyD prog env an4 f4 [x0_a,y1_a] σ K X:=by
  unfold S4
  simp only [J4_1_eq]
  kernel_rfl
theorem S4_ok:(match f4.body with | some c=>okCode an4 prog f4.ntmps c | none=>false)=true:=by kernel_rfl
end Go.AD

set_option linter.unusedVariables false
set_option linter.unusedSimpArgs false
set_option maxRecDepth 100000
namespace Go.AD.Fl
open Go.Proofs RowKit Go.AD.Fp Ieee
section
variable {env : Env} {args : List AV} {σ : AS} {K : AV -> AS -> Prop} {X : PV -> AS -> Prop}
theorem andNot63 {P : Program} {t : TypeId} {K : AV -> Prop} {a : Nat} (ha : a < 18446744073709551616) : binD P .andNot t (.pv (.int .u64 (a : Int))) (.pv (.int .u64 9223372036854775808)) K = K (.pv (.int .u64 ((absB a : Nat) : Int))) := by
  have e0 : binD P .andNot t (.pv (.int .u64 (a : Int))) (.pv (.int .u64 9223372036854775808)) K = K (.pv (.int .u64 (IntKind.wrap .u64 ((BitVec.ofInt 64 (a : Int) &&& ~~~BitVec.ofInt 64 9223372036854775808).toNat : Nat)))) := by simp [binD, intOp]; rfl
  rw [e0]
  have e : (BitVec.ofInt 64 (a : Int) &&& ~~~BitVec.ofInt 64 9223372036854775808).toNat = absB a := by
    rw [bv64, BitVec.toNat_and, show (~~~BitVec.ofInt 64 9223372036854775808).toNat = 2 ^ 63 - 1 from by decide, Nat.and_two_pow_sub_one_eq_mod, BitVec.toNat_ofNat]
    unfold absB
    omega
  rw [e, wU64n (by unfold absB; omega)]
theorem fbinFR {op : BinOp} {a b : Nat} {K : AV -> AS -> Prop} (h : ∀ r, FR op a b r -> K (f64 r) σ) : fbinD σ op (f64 a) (f64 b) K := by
  cases hb : floatBits op .f64 a b with
  | some r => exact fbin_some hb (h r (.inl hb))
  | none => exact fbin_nan hb (fun r hr => h r (.inr ⟨hb, hr⟩))
theorem cvFI {b : Nat} {n : Int} {K : AV -> Prop} (h : floatToIntVal .f64 b .i64 = some n) : convD PS σ 22 3 (f64 b) K = K (i64 n) := by
  unfold convD
  rw [T.un22, T.un3]
  show (match floatToIntVal .f64 b .i64 with | some n => K (.pv (.int .i64 n)) | none => False) = _
  rw [h]
def T_mTrunc : Tr := fun args σ K _ => ∃ b : Nat, args = [f64 b] /\ (nanB b = true -> ∀ r, nanB r = true -> K (f64 r) σ) /\ (nanB b = false -> K (f64 (truncB b)) σ)
theorem T_mTrunc_ok (hA : env 43 = T_mTrunc) (h : T_mTrunc args σ K X) : bodyD PS env an29 Tryz.f29 args σ K X := by
  obtain ⟨b, rfl, h1, h2⟩ := h
  rw [<- S29_eq env, S29]
  rw [hA]
  exact ⟨b, rfl, fun hn r hr => retV_self (h1 hn r hr), fun hn => retV_self (h2 hn)⟩
def T_mAbs : Tr := fun args σ K _ => ∃ b : Nat, args = [f64 b] /\ b < 18446744073709551616 /\ K (f64 (absB b)) σ
theorem T_mAbs_ok (hTo : env 31 = T_f64bits) (hFr : env 12 = T_f64from) (h : T_mAbs args σ K X) : bodyD PS env an30 Tryz.f30 args σ K X := by
  obtain ⟨b, rfl, hb, hK⟩ := h
  rw [<- S30_eq env, S30]
  simp only [lock_eq]
  rw [hTo]
  refine ⟨b, rfl, ?_⟩
  dsimp only
  rw [andNot63 hb, hFr]
  exact ⟨_, rfl, retV_self (by rw [Int.toNat_natCast]; exact hK)⟩
def T_l8bits : Tr := fun args σ K _ => ∃ b : Nat, args = [f64 b] /\ K (.pv (.int .u64 (bitsB b : Nat))) σ
theorem T_l8bits_ok (hTo : env 31 = T_f64bits) (h : T_l8bits args σ K X) : bodyD PS env an15 Tryz.f15 args σ K X := by
  obtain ⟨b, rfl, hK⟩ := h
  rw [<- S15_eq env, S15]
  simp only [lock_eq]
  unfold bitsB at hK
  rw [bin_fneq, cond_bool]
  split
  · rename_i g
    rw [if_pos g] at hK
    exact retV_self hK
  · rename_i g
    rw [if_neg g] at hK
    rw [hTo]
    exact ⟨b, rfl, retV_self hK⟩
def T_power : Tr := fun args σ K _ => ∃ x y : Nat, args = [f64 x, f64 y] /\ y < 18446744073709551616 /\ (powOk y = true -> ∀ r, PowR x y r -> K (.tuple [f64 r, bo true]) σ) /\ (powOk y = false -> K (.tuple [f64 0, bo false]) σ)
theorem pow_nan {y : Nat} (h : nanB y = true) : powOk y = false := by
  unfold powOk
  rw [ord_nan (.inl h)]; rfl
theorem T_vPower_ok (hT : env 29 = T_mTrunc) (hA : env 30 = T_mAbs) (h : T_power args σ K X) : bodyD PS env an13 Tryz.f13 args σ K X := by
  obtain ⟨x, y, rfl, hy, hK1, hK0⟩ := h
  rw [<- S13_eq env, S13]
  simp only [lock_eq]
  rw [hT]
  refine ⟨y, rfl, fun hn r hr => ?_, fun hn => ?_⟩
  · dsimp only
    rw [bin_fneq, ord_nan (.inl hn), guard_false, if_pos (by rfl)]
    exact retV_self (hK0 (pow_nan hn))
  · dsimp only
    rw [bin_fneq, guard_false]
    refine iteI (fun g => ?_) (fun g => ?_)
    · refine retV_self (hK0 ?_)
      unfold powOk
      have g : (FloatKind.f64.format.order y (truncB y) == some .eq) = false := by simpa [bne] using g
      rw [g]; rfl
    · have ht : FloatKind.f64.format.order y (truncB y) = some .eq := by simpa using g
      rw [hA]
      refine ⟨y, rfl, hy, ?_⟩
      dsimp only
      rw [bin_fgtr, cond_bool]
      refine iteI (fun g => ?_) (fun g => ?_)
      · have g := eq_of_beq g
        refine retV_self (hK0 ?_)
        unfold powOk
        rcases (ord_abs hn).1 g with g | g <;> rw [g] <;> simp
      · have g : FloatKind.f64.format.order (absB y) c1024 ≠ some .gt := fun e => g (by rw [show (4652218415073722368 : Nat) = c1024 from rfl, e]; rfl)
        have hok : powOk y = true := by
          have h1 : FloatKind.f64.format.order y c1024 ≠ some .gt := fun e => g ((ord_abs hn).2 (.inl e))
          have h2 : FloatKind.f64.format.order y m1024 ≠ some .lt := fun e => g ((ord_abs hn).2 (.inr e))
          unfold powOk
          simp [ht, h1, h2]
        have hK := hK1 hok
        obtain ⟨e1, e2, e3⟩ := to_int hn g
        unfold J13_3
        simp only [lock_eq]
        rw [hA]
        refine ⟨y, rfl, hy, ?_⟩
        dsimp only
        rw [cvFI e2]
        refine lp13_5 (α := Nat × Nat) (fun a _ => (powZ y).natAbs - a.1) (fun a τ => a.1 <= (powZ y).natAbs /\ Muls x a.1 a.2 /\ τ = σ) (fun a => f64 a.2) (fun a => i64 (a.1 : Int)) (0, one64) ⟨Nat.zero_le _, rfl, rfl⟩ ?_
        rintro ⟨i, r⟩ τ ⟨hi, hM, rfl⟩
        unfold L13_5
        dsimp only at hi hM ⊢
        simp only [lock_eq, bin_lss, cond_bool]
        refine iteI (fun g2 => ?_) (fun g2 => ?_)
        · have g2 : i < (powZ y).natAbs := by have := of_decide_eq_true g2; omega
          refine fbinFR fun r' hr' => ?_
          rw [bin_add, wrap64 (by omega) (by omega)]
          exact back (i + 1, r') rfl (by dsimp only; omega) ⟨g2, ⟨r, hM, hr'⟩, rfl⟩
        · have g2 : i = (powZ y).natAbs := by
            have : ¬ ((i : Int) < ((powZ y).natAbs : Int)) := fun e => g2 (decide_eq_true e)
            omega
          subst g2
          rw [bin_flss]
          have hneg := neg_iff hn g ht
          refine iteI (fun g3 => ?_) (fun g3 => ?_)
          · have g3 := hneg.1 (eq_of_beq g3)
            refine fbinFR fun r' hr' => ?_
            refine retV_self (hK r' ?_)
            unfold PowR
            rw [if_pos g3]
            exact ⟨r, hM, hr'⟩
          · have g3 : ¬ powZ y < 0 := fun e => g3 (by rw [hneg.2 e]; rfl)
            refine retV_self (hK r ?_)
            unfold PowR
            rw [if_neg g3]
            exact hM
theorem T_wPower_ok (hT : env 29 = T_mTrunc) (h : T_power args σ K X) : bodyD PS env an14 Tryz.f14 args σ K X := by
  obtain ⟨x, y, rfl, hy, hK1, hK0⟩ := h
  rw [<- S14_eq env, S14]
  simp only [lock_eq]
  rw [hT]
  refine ⟨y, rfl, fun hn r hr => ?_, fun hn => ?_⟩
  · dsimp only
    rw [bin_fneq, ord_nan (.inl hn), guard_false, if_pos (by rfl)]
    exact retV_self (hK0 (pow_nan hn))
  · dsimp only
    rw [bin_fneq, guard_false]
    refine iteI (fun g => ?_) (fun g => ?_)
    · refine retV_self (hK0 ?_)
      unfold powOk
      have g : (FloatKind.f64.format.order y (truncB y) == some .eq) = false := by simpa [bne] using g
      rw [g]; rfl
    · have ht : FloatKind.f64.format.order y (truncB y) = some .eq := by simpa using g
      rw [bin_fgtr, guard_false]
      refine iteI (fun g1 => ?_) (fun g1 => ?_)
      · have g1 : FloatKind.f64.format.order y c1024 = some .gt := eq_of_beq g1
        refine retV_self (hK0 ?_)
        unfold powOk
        rw [g1]; simp
      rw [bin_flss, cond_bool]
      refine iteI (fun g2 => ?_) (fun g2 => ?_)
      · have g2 : FloatKind.f64.format.order y m1024 = some .lt := eq_of_beq g2
        refine retV_self (hK0 ?_)
        unfold powOk
        rw [g2]; simp
      have h1 : FloatKind.f64.format.order y c1024 ≠ some .gt := fun e => g1 (by rw [show (4652218415073722368 : Nat) = c1024 from rfl, e]; rfl)
      have h2 : FloatKind.f64.format.order y m1024 ≠ some .lt := fun e => g2 (by rw [show (13875590451928498176 : Nat) = m1024 from rfl, e]; rfl)
      have g : FloatKind.f64.format.order (absB y) c1024 ≠ some .gt := fun e => by
        rcases (ord_abs hn).1 e with e | e
        · exact h1 e
        · exact h2 e
      have hok : powOk y = true := by
        unfold powOk
        simp [ht, h1, h2]
      have hK := hK1 hok
      obtain ⟨e1, e2, e3⟩ := to_int hn g
      unfold J14_3
      simp only [lock_eq]
      rw [cvFI e1]
      refine lp14_6 (α := Nat × Nat) (fun a _ => (powZ y).natAbs - a.1) (fun a τ => a.1 <= (powZ y).natAbs /\ Muls x a.1 a.2 /\ τ = σ) (fun a => f64 a.2) (fun a => i64 (a.1 : Int)) (0, one64) ⟨Nat.zero_le _, rfl, rfl⟩ ?_
      rintro ⟨i, r⟩ τ ⟨hi, hM, rfl⟩
      unfold L14_6
      dsimp only at hi hM ⊢
      simp only [lock_eq, un_neg, max_one]
      rw [wrap64 (by omega) (by omega), show max (powZ y) (0 - powZ y) = ((powZ y).natAbs : Int) by omega, bin_lss, cond_bool]
      refine iteI (fun g2 => ?_) (fun g2 => ?_)
      · have g2 : i < (powZ y).natAbs := by have := of_decide_eq_true g2; omega
        refine fbinFR fun r' hr' => ?_
        rw [bin_add, wrap64 (by omega) (by omega)]
        exact back (i + 1, r') rfl (by dsimp only; omega) ⟨g2, ⟨r, hM, hr'⟩, rfl⟩
      · have g2 : i = (powZ y).natAbs := by
          have : ¬ ((i : Int) < ((powZ y).natAbs : Int)) := fun e => g2 (decide_eq_true e)
          omega
        subst g2
        rw [bin_lss, cond_bool]
        refine iteI (fun g3 => ?_) (fun g3 => ?_)
        · have g3 := of_decide_eq_true g3
          refine fbinFR fun r' hr' => ?_
          refine retV_self (hK r' ?_)
          unfold PowR
          rw [if_pos g3]
          exact ⟨r, hM, hr'⟩
        · have g3 : ¬ powZ y < 0 := fun e => g3 (decide_eq_true e)
          refine retV_self (hK r ?_)
          unfold PowR
          rw [if_neg g3]
          exact hM
def T_ValuePowers : Tr := fun args σ K _ => ∃ x y : Int, args = [.pv (.int .u64 x), .pv (.int .u64 y)] /\ 0 <= y /\ y < 18446744073709551616 /\ K (bo true) σ
theorem T_ValuePowers_ok (hW : env 7 = T_l8awake) (hFr : env 12 = T_f64from) (hV : env 13 = T_power) (hR : env 14 = T_power) (hB : env 15 = T_l8bits) (h : T_ValuePowers args σ K X) : bodyD PS env an4 Tryz.f4 args σ K X := by
  obtain ⟨x, y, rfl, hy0, hy, hK⟩ := h
  rw [<- S4_eq env, S4, J4_1]
  try simp only [lock_eq]
  rw [hW]
  refine ⟨rfl, ?_⟩
  dsimp only
  rw [un_not, cond_bool, if_neg (by decide), J4_3]
  try simp only [lock_eq]
  rw [hFr]
  refine ⟨x, rfl, ?_⟩
  dsimp only
  refine ⟨y, rfl, ?_⟩
  dsimp only
  rw [J4_4]
  try simp only [lock_eq]
  rw [hV]
  refine ⟨x.toNat, y.toNat, rfl, by omega, fun hk r hr => ?_, fun hk => ?_⟩
  · simp only [ext0, ext1, J4_5, lock_eq]
    rw [hR]
    refine ⟨x.toNat, y.toNat, rfl, by omega, fun hk r' hr' => ?_, fun hk' => by rw [hk] at hk'; cases hk'⟩
    simp only [ext0, ext1, J4_6, lock_eq]
    rw [bin_beql unBool, guard_true, if_pos (by decide), hB]
    refine ⟨r, rfl, ?_⟩
    dsimp only
    refine ⟨r', rfl, ?_⟩
    dsimp only
    rw [bits_eqN (hr.eqN hr'), bin_eql, beq_self_eq_true]
    exact retV_self hK
  · simp only [ext0, ext1, J4_5, lock_eq]
    rw [hR]
    refine ⟨x.toNat, y.toNat, rfl, by omega, fun hk' => (by rw [hk] at hk'; cases hk'), fun _ => ?_⟩
    simp only [ext0, ext1, J4_6, lock_eq]
    rw [bin_beql unBool, guard_true, if_pos (by decide), hB]
    refine ⟨0, rfl, ?_⟩
    dsimp only
    refine ⟨0, rfl, ?_⟩
    dsimp only
    rw [bin_eql, beq_self_eq_true]
    exact retV_self hK
end
end Go.AD.Fl

set_option linter.unusedVariables false
set_option linter.unusedSimpArgs false
set_option maxRecDepth 100000
namespace Go.AD.Fl
open Go.Proofs RowKit Go.AD.Fp
theorem X_mFrom : SoundX PS 12 T_f64from := f64from_sound Tryz.func12 (by kernel_rfl) (by kernel_rfl) (by kernel_rfl) (by kernel_rfl)
theorem X_mTo : SoundX PS 31 T_f64bits := f64bits_sound Tryz.func31 (by kernel_rfl) (by kernel_rfl) (by kernel_rfl) (by kernel_rfl)
theorem nan_quiet (s : Bool) (t : Nat) : nanB (FloatKind.f64.encode (.nan s (FloatKind.f64.format.quiet t))) = true := by
  have hb : Ieee.double.binade = 4503599627370496 := by decide
  have hi : Ieee.double.infRung = 9218868437227405312 := by decide
  have hs : Ieee.double.signWeight = 9223372036854775808 := by decide
  have hq : FloatKind.f64.format.quiet t % 4503599627370496 ≠ 0 := by
    intro h
    have h1 : (FloatKind.f64.format.quiet t % 2 ^ 52).testBit 51 = false := by
      rw [show (2 : Nat) ^ 52 = 4503599627370496 by decide, h]; decide
    have h2 : FloatKind.f64.format.quiet t = t ||| 2 ^ 51 := rfl
    rw [h2, Nat.testBit_mod_two_pow, Nat.testBit_or, Nat.testBit_two_pow_self] at h1
    simp at h1
  have hl : FloatKind.f64.format.quiet t % 4503599627370496 < 4503599627370496 := Nat.mod_lt _ (by decide)
  have he : FloatKind.f64.encode (.nan s (FloatKind.f64.format.quiet t)) = if s then 9223372036854775808 + (9218868437227405312 + FloatKind.f64.format.quiet t % 4503599627370496) else 9218868437227405312 + FloatKind.f64.format.quiet t % 4503599627370496 := by
    show Ieee.double.word s (Ieee.double.infRung + _ % Ieee.double.binade) = _
    rw [hb, hi]
    unfold Ieee.Format.word
    rw [hs]
  show (Ieee.double.read _).isNaN = true
  rw [he]
  generalize FloatKind.f64.format.quiet t % 4503599627370496 = q at *
  have hm : (if s then 9223372036854775808 + (9218868437227405312 + q) else 9218868437227405312 + q) % 9223372036854775808 = 9218868437227405312 + q := by
    cases s <;> simp only [if_true, if_false, Bool.false_eq_true] <;> omega
  unfold Ieee.Format.read
  simp only [hb, hi, hs, hm]
  rw [if_neg (by omega), if_neg (by omega), if_neg (by omega)]
  rfl
theorem tI (name : String) (way : Ieee.Toward) (b : Nat) : Extern.MathFloor.toIntegral name way #[.float .f64 b] = (match FloatKind.f64.decode b with
    | .nan s t => (if FloatKind.f64.format.quiet t = t then pure (.float .f64 b) else do
      let kept <- choose (.extern "math.Floor,Ceil,Trunc,RoundToEven.signallingNaN kept" 2)
      pure (.float .f64 (if kept == 1 then b else FloatKind.f64.encode (.nan s (FloatKind.f64.format.quiet t)))))
    | d => pure (.float .f64 (FloatKind.f64.encode (d.integral way)))) := rfl
theorem trunc_sound {P : Program} {f : FuncId} {fn : Func} (hf : P.funcs[f]? = some fn) (hname : (fn.name == "runtime.NumGoroutine") = false) (hb : fn.body.isNone = true) (hn : Extern.findNext fn = none) (he : Extern.find fn = some (Extern.MathFloor.toIntegral "math.archTrunc" .zero)) : SoundX P f T_mTrunc := by
  rintro w0 hS ρ σ w args us K X H hr ⟨b, rfl, hK1, hK2⟩
  obtain ⟨v, vs, rfl, hv, hr⟩ := hr.uncons
  obtain rfl := hr.nil_inv
  rw [relFlt (x := .undef) hv]
  cases hd : FloatKind.f64.decode b with
  | nan s t =>
    have hnb : nanB b = true := by unfold nanB; rw [hd]; rfl
    by_cases hq : FloatKind.f64.format.quiet t = t
    · refine ⟨.float .f64 b, w, ρ, σ, f64 b, ?_, Gh.le_refl ρ, H, mkFlt .., hK1 hnb b hnb⟩
      rw [run_callFunc_extern hf hname hb hn he, show ([Value.float .f64 b]).toArray = #[Value.float .f64 b] from rfl, tI, hd]
      dsimp only
      rw [if_pos hq]
      rfl
    · have hc := run_choose_drew P w (.extern "math.Floor,Ceil,Trunc,RoundToEven.signallingNaN kept" 2)
      have hfo : (Question.extern "math.Floor,Ceil,Trunc,RoundToEven.signallingNaN kept" 2).forced = false := rfl
      rw [hfo, if_neg (by decide)] at hc
      refine ⟨_, w.drew, ρ, σ, f64 (if ((Question.extern "math.Floor,Ceil,Trunc,RoundToEven.signallingNaN kept" 2).cut (w.tape w.drawn (.extern "math.Floor,Ceil,Trunc,RoundToEven.signallingNaN kept" 2)) == 1) = true then b else FloatKind.f64.encode (.nan s (FloatKind.f64.format.quiet t))), ?_, Gh.le_refl ρ, H.drawn _, mkFlt .., ?_⟩
      · rw [run_callFunc_extern hf hname hb hn he, show ([Value.float .f64 b]).toArray = #[Value.float .f64 b] from rfl, tI, hd]
        dsimp only
        rw [if_neg hq, Sem.run_bind, hc]
        rfl
      · refine hK1 hnb _ ?_
        split
        · exact hnb
        · exact nan_quiet s t
  | infinity s =>
    have hnb : nanB b = false := by unfold nanB; rw [hd]; rfl
    refine ⟨_, w, ρ, σ, f64 (truncB b), ?_, Gh.le_refl ρ, H, mkFlt .., hK2 hnb⟩
    rw [run_callFunc_extern hf hname hb hn he, show ([Value.float .f64 b]).toArray = #[Value.float .f64 b] from rfl, tI, hd]
    unfold truncB
    rw [hd]
    rfl
  | number s m i =>
    have hnb : nanB b = false := by unfold nanB; rw [hd]; rfl
    refine ⟨_, w, ρ, σ, f64 (truncB b), ?_, Gh.le_refl ρ, H, mkFlt .., hK2 hnb⟩
    rw [run_callFunc_extern hf hname hb hn he, show ([Value.float .f64 b]).toArray = #[Value.float .f64 b] from rfl, tI, hd]
    unfold truncB
    rw [hd]
    rfl
theorem X_mArchTrunc : SoundX PS 43 T_mTrunc := trunc_sound Tryz.func43 (by kernel_rfl) (by kernel_rfl) (by kernel_rfl) (by kernel_rfl)
def envG0 : Env := ((envF12.add 12 T_f64from).add 31 T_f64bits).add 43 T_mTrunc
theorem envG0_ok (hm : HM) : EnvOk PS envG0 := EnvOk.addX (EnvOk.addX (EnvOk.addX (envF12_ok hm) X_mFrom) X_mTo) X_mArchTrunc
theorem F_mTrunc (hm : HM) : SoundF PS 29 T_mTrunc := body_sound hm (envG0_ok hm) an29 Tryz.func29 Tryz.call29 S29_ok (fun args σ K X h => (T_mTrunc_ok rfl h))
theorem F_mAbs (hm : HM) : SoundF PS 30 T_mAbs := body_sound hm (envG0_ok hm) an30 Tryz.func30 Tryz.call30 S30_ok (fun args σ K X h => (T_mAbs_ok rfl rfl h))
theorem F_l8bits (hm : HM) : SoundF PS 15 T_l8bits := body_sound hm (envG0_ok hm) an15 Tryz.func15 Tryz.call15 S15_ok (fun args σ K X h => (T_l8bits_ok rfl h))
def envG1 : Env := (((envG0.add 29 T_mTrunc).add 30 T_mAbs).add 15 T_l8bits)
theorem envG1_ok (hm : HM) : EnvOk PS envG1 := EnvOk.add (EnvOk.add (EnvOk.add (envG0_ok hm) (F_mTrunc hm)) (F_mAbs hm)) (F_l8bits hm)
theorem F_vPower (hm : HM) : SoundF PS 13 T_power := body_sound hm (envG1_ok hm) an13 Tryz.func13 Tryz.call13 S13_ok (fun args σ K X h => (T_vPower_ok rfl rfl h))
theorem F_wPower (hm : HM) : SoundF PS 14 T_power := body_sound hm (envG1_ok hm) an14 Tryz.func14 Tryz.call14 S14_ok (fun args σ K X h => (T_wPower_ok rfl h))
def envG2 : Env := ((envG1.add 13 T_power).add 14 T_power)
theorem envG2_ok (hm : HM) : EnvOk PS envG2 := EnvOk.add (EnvOk.add (envG1_ok hm) (F_vPower hm)) (F_wPower hm)
theorem F_ValuePowers (hm : HM) : SoundF PS 4 T_ValuePowers := body_sound hm (envG2_ok hm) an4 Tryz.func4 Tryz.call4 S4_ok (fun args σ K X h => (T_ValuePowers_ok rfl rfl rfl rfl rfl h))
end Go.AD.Fl
