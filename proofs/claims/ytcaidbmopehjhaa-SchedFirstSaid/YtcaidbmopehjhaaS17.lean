/- sched: the document's Plan, the list's loop. -/
import Derived.Test.YtcaidbmopehjhaaS16
set_option linter.unusedVariables false
set_option linter.unusedSimpArgs false
set_option maxRecDepth 100000
namespace Go.AD.Sc
open Go.Proofs
theorem loop24 {env : Env} {I21 : Nat → List AV → AS → Prop} {m21 : Nat} {σ0 τ : AS} {I : RIds} {cs : List Nat} {room : Nat} {st : St} {wv x2 x9 x10 x11 : AV} {ol : Objs} {K : AV → AS → Prop} {X : PV → AS → Prop}
    (V : Inv cs room st) (hn : st.next < cs.length) (hA : RefAt σ0 τ I cs st wv (ol ++ [])) (hk : cs.length ≤ 64) (hr : room ≤ 4096) (hc : ∀ c ∈ cs, c ≤ 1048576)
    (hK : ∀ τ' mv' ml', RefAt σ0 τ' I cs st wv (ol ++ ml') → RowV PS 42 mv' ml' (opts cs room st).length (flatS (opts cs room st)) → J25_34 env I21 m21 (.pv (.lst cs.length (i64s (ints cs)))) (.pv (.int .i64 room)) x2 (.pv (.int .i64 cs.length)) (.msl I.d 0 cs.length 1) (.msl I.s 0 cs.length 1) (.msl I.a 0 cs.length 1) wv (.pv (.int .i64 st.next)) x9 x10 x11 mv' τ' K X) :
    ∃ I24 : Nat → List AV → AS → Prop, (∃ m, I24 m [.pv (.lst cs.length (i64s (ints cs))), .pv (.int .i64 room), x2, .pv (.int .i64 cs.length), .msl I.d 0 cs.length 1, .msl I.s 0 cs.length 1, .msl I.a 0 cs.length 1, wv, .pv (.int .i64 st.next), x9, x10, x11, .nilS, .pv (.int .i64 (0 : Nat))] τ) ∧ ∀ (m : Nat) (y0 y1 y2 y3 y4 y5 y6 y7 y8 y9 y10 y11 y12 y13 : AV), ∀ σ, I24 m [y0, y1, y2, y3, y4, y5, y6, y7, y8, y9, y10, y11, y12, y13] σ →
      L25_24 env I21 m21 I24 m y0 y1 y2 y3 y4 y5 y6 y7 y8 y9 y10 y11 y12 y13 σ K X := by
  refine lp25_24 (fun (a : Nat × AV) _ => cs.length - a.1) (fun a τ => a.1 ≤ cs.length ∧ ∃ ml, RefAt σ0 τ I cs st wv (ol ++ ml) ∧ RowV PS 42 a.2 ml (optsTo cs room st a.1).length (flatS (optsTo cs room st a.1))) (fun a => a.2) (fun a => .pv (.int .i64 a.1)) (0, .nilS) ?_ ?_
  · exact ⟨Nat.zero_le _, [], hA, RowV.nil PS 42⟩
  · rintro ⟨i, mv⟩ σ ⟨hi, ml, h1, h2⟩
    simp only at hi h2 ⊢
    by_cases he : i < cs.length
    · refine round24 V h1 h2 he hk hr hc ?_
      intro τ' mv' ml' h3 h4
      exact back (i + 1, mv') rfl (by simp only; omega) ⟨by simp only; omega, ml', h3, h4⟩
    · have : i = cs.length := by omega
      subst this
      have hl := optsTo_len cs room st cs.length
      refine fin24 V hn h1 h2 (by omega) hk hr ?_
      intro τ' mv' ml' h3 h4
      exact hK τ' mv' ml' h3 h4
end Go.AD.Sc
