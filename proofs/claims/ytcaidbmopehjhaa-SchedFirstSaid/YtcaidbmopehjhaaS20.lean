/- sched: the document's Plan, the chosen step is done. -/
import Derived.Test.YtcaidbmopehjhaaS19
set_option linter.unusedVariables false
set_option linter.unusedSimpArgs false
set_option maxRecDepth 100000
namespace Go.AD
section
variable {P : Program} {σ0 σ : AS} {t e : TypeId} {v x : AV} {n m : Nat} {cs ys : List PV} {l l' L : Objs}
theorem Sep.sublist (h : Sep σ0 σ l) (hs : l'.Sublist l) : Sep σ0 σ l' :=
  ⟨h.sub, (hs.map _).nodup h.nodup, fun p hp => h.new p (hs.subset hp), fun p hp => h.here p (hs.subset hp)⟩
theorem RowV.takeOver {K : AV → AS → Prop} (G : RowV P e v L n cs) (h : Sep σ0 σ (l ++ L)) (he : elOf P t = some e) (hi : (inf P e).isSome = true) {z : Int} (k : Nat) (hz : z = (k : Nat)) (hk : k ≤ n) (hn : 0 < n)
    (hK : ∀ v' L' σ', RowV P e v' L' (n - k) (cs.drop (k * szOf P e)) → Sep σ0 σ' (l ++ L') → K v' σ') : takeOverD P σ t v (some (.pv (.int .i64 z))) none K := by
  subst hz
  rcases G.2 with ⟨_, _, h0, _⟩ | ⟨id, mk, rfl, rfl⟩
  · omega
  · simp only [takeOverD, he, Int.toNat_natCast]
    refine ⟨hi, ⟨mk, h.get (by simp)⟩, G.1, by omega, by omega, ?_⟩
    intro id2 hid2
    have hdel : (σ.del id) id2 = none := by
      by_cases e : id2 = id
      · subst e; exact del_same _ _
      · rw [del_ne _ e]; exact hid2
    have h1 := (Sep.front (l1 := l) (l2 := []) h).del.alloc hdel (.front (n - k) (szOf P e) none)
    refine hK _ [(id2, .front (n - k) (szOf P e) none)] _ ⟨?_, .inr ⟨id2, none, rfl, rfl⟩⟩ ?_
    · rw [List.length_drop, G.1, Nat.sub_mul]
    · exact h1.perm (by simpa using List.perm_append_comm (l₁ := [(id2, AObj.front (n - k) (szOf P e) none)]) (l₂ := l))
end
end Go.AD
namespace Go.AD.Sc
open Go.Proofs
theorem rowT22 : RowT PS 22 3 := ⟨T.el22, by rw [T.sz3]; decide, _, T.zo3, by rw [T.sz3]; rfl⟩
/-- One whole number behind a row. -/
theorem appInt {σ0 τ : AS} {v : AV} {l L : Objs} {xs : List Int} {z : Int} (G : RowV PS 3 v L xs.length (i64s xs)) (h : Sep σ0 τ (l ++ L)) (hl : xs.length ≤ 100000000) {K : AV → AS → Prop}
    (hK : ∀ v' L' τ', RowV PS 3 v' L' (xs ++ [z]).length (i64s (xs ++ [z])) → Sep σ0 τ' (l ++ L') → K v' τ') : buildSliceD PS false τ 22 1 1 [(0, .pv (.int .i64 z))] fun t σ => appendD PS false σ 22 v t K := by
  rw [build1 (ys := [.int .i64 z]) rowT22 T.hT3 (by rw [T.sz3]; rfl) rfl rfl (by rw [T.sz3]; decide)]
  refine G.append h rowT22 rfl (by rw [T.sz3]; rfl) (by omega) (by rw [T.by3]; omega) (by omega) ?_
  intro v' L' τ' h1 h2
  refine hK v' L' τ' ?_ h2
  rw [List.length_append]
  simpa [i64s] using h1
theorem map_same {β : Type} (l : List Nat) (g : Nat → β) (i v : Nat) (h : i < l.length) (hg : g v = g (l.getD i 0)) : (l.set i v).map g = l.map g := by
  rw [List.map_set, hg, List.getD_eq_getElem?_getD, List.getElem?_eq_getElem h, Option.getD_some]
  have : g l[i] = (l.map g)[i]'(by simpa using h) := by simp
  rw [this, List.set_getElem_self]
theorem permR (A B C D : Objs) : ((A ++ (B ++ C)) ++ D).Perm ((A ++ (C ++ D)) ++ B) := by
  simp only [List.append_assoc]
  refine List.Perm.append_left A ?_
  have := List.perm_append_comm (l₁ := B) (l₂ := C ++ D)
  simpa only [List.append_assoc] using this
set_option maxHeartbeats 1000000 in
theorem step37 {env : Env} {I21 : Nat → List AV → AS → Prop} {m21 : Nat} {σ0 τ : AS} {I : RIds} {cs : List Nat} {room : Nat} {st : St} {wv x2 out mv : AV} {ol ml : Objs} {acc : List Stp} {p most : Nat} {K : AV → AS → Prop} {X : PV → AS → Prop}
    (V : Inv cs room st) (hn : st.next < cs.length) (hA : RefAt σ0 τ I cs st wv (ol ++ ml)) (hO : RowV PS 42 out ol acc.length (flatS acc)) (hM : RowV PS 42 mv ml (opts cs room st).length (flatS (opts cs room st))) (hp : p < (opts cs room st).length) (hk : cs.length ≤ 64) (hr : room ≤ 4096) (hc : ∀ i, cs.getD i 0 ≤ 1048576) (hacc : acc.length ≤ 10000000)
    (hK : ∀ τ' wv' out' ol' s, s = (opts cs room st).getD p (0, 0, 0) → RefAt σ0 τ' I cs (app st s) wv' ol' → RowV PS 42 out' ol' (acc ++ [s]).length (flatS (acc ++ [s])) → ∃ m', m' < m21 ∧ I21 m' [.pv (.lst cs.length (i64s (ints cs))), .pv (.int .i64 room), x2, .pv (.int .i64 cs.length), .msl I.d 0 cs.length 1, .msl I.s 0 cs.length 1, .msl I.a 0 cs.length 1, wv', .pv (.int .i64 (app st s).next), .pv (.int .i64 (app st s).held), .pv (.int .i64 (max most (app st s).held : Nat)), out'] τ') :
    J25_37 env I21 m21 (.pv (.lst cs.length (i64s (ints cs)))) (.pv (.int .i64 room)) x2 (.pv (.int .i64 cs.length)) (.msl I.d 0 cs.length 1) (.msl I.s 0 cs.length 1) (.msl I.a 0 cs.length 1) wv (.pv (.int .i64 st.next)) (.pv (.int .i64 st.held)) (.pv (.int .i64 most)) out mv (.pv (.int .i64 p)) τ K X := by
  obtain ⟨wl, hR, hS⟩ := hA.row
  unfold J25_37
  simp only [lock_eq]
  refine own42 hS hM hp ?_
  intro t σ1 hS1
  have hK := hK
  rw [List.getD_eq_getElem?_getD, List.getElem?_eq_getElem hp] at hK
  simp only [Option.getD_some] at hK
  have hs : (opts cs room st)[p] ∈ opts cs room st := List.getElem_mem hp
  generalize hse : (opts cs room st)[p] = s at hs hS1 hK
  have hg : σ1 t = some (.cells ((stepPV s).map .pv) (some 42)) := hS1.get (by simp)
  have l1 := V.ld
  have l2 := V.ls
  have hb := held_bd V
  have hw := V.wr
  have hS1' : Sep σ0 σ1 (([(t, AObj.cells ((stepPV s).map .pv) (some 42)), (I.d, .cells (intsA (ints st.done)) none), (I.s, .cells (boolsA (st.stg.map fun x => decide (1 ≤ x))) none), (I.a, .cells (boolsA (st.stg.map fun x => decide (x = 2))) none)] ++ (wl ++ ml)) ++ ol) := by
    refine hS1.perm ?_
    simp only [List.append_assoc, List.cons_append, List.nil_append]
    refine ((((List.Perm.refl _).append_left wl).cons _).cons _).cons _ |>.cons _ |>.trans ?_
    exact List.Perm.cons _ (List.Perm.cons _ (List.Perm.cons _ (List.Perm.cons _ (List.Perm.append_left wl List.perm_append_comm))))
  have fin : ∀ (σ2 : AS) (d : List Nat) (sl al : List Bool) (wv' : AV) (wl' : Objs) (next held : Nat), app st s = { app st s with done := d, next := next, held := held } → (app st s).stg.map (fun x => decide (1 ≤ x)) = sl → (app st s).stg.map (fun x => decide (x = 2)) = al → RowV PS 3 wv' wl' (app st s).way.length (i64s (ints (app st s).way)) →
      Sep σ0 σ2 (([(t, AObj.cells ((stepPV s).map .pv) (some 42)), (I.d, .cells (intsA (ints d)) none), (I.s, .cells (boolsA sl) none), (I.a, .cells (boolsA al) none)] ++ (wl' ++ ml)) ++ ol) →
      J25_52 env I21 m21 (.pv (.lst cs.length (i64s (ints cs)))) (.pv (.int .i64 room)) x2 (.pv (.int .i64 cs.length)) (.msl I.d 0 cs.length 1) (.msl I.s 0 cs.length 1) (.msl I.a 0 cs.length 1) wv' (.pv (.int .i64 next)) (.pv (.int .i64 held)) (.pv (.int .i64 most)) out (.addr t 0) σ2 K X := by
    intro σ2 d sl al wv' wl' next held e1 e2 e3 hR2 hS2
    have hgt : σ2 t = some (.cells ((stepPV s).map .pv) (some 42)) := hS2.get (by simp)
    refine fin52 hO hS2 hgt (by omega) ?_
    intro σ3 out' ol' hS3 hO3
    have hd : (app st s).done = d := by rw [e1]
    have hnx : (app st s).next = next := by rw [e1]
    have hhe : (app st s).held = held := by rw [e1]
    have := hK σ3 wv' out' ol' s rfl ⟨wl', hR2, ?_⟩ hO3
    · rw [hnx, hhe] at this; exact this
    · rw [hd, e2, e3]
      refine hS3.sublist ?_
      simp only [List.append_assoc, List.cons_append, List.nil_append]
      refine List.Sublist.cons _ (List.Sublist.cons_cons _ (List.Sublist.cons_cons _ (List.Sublist.cons_cons _ ?_)))
      exact (List.Sublist.refl wl').append (List.sublist_append_right ml ol')
  have hgd : σ1 I.d = some (.cells (intsA (ints st.done)) none) := hS1'.get (by simp)
  have hgs : σ1 I.s = some (.cells (boolsA (st.stg.map fun x => decide (1 ≤ x))) none) := hS1'.get (by simp)
  have hga : σ1 I.a = some (.cells (boolsA (st.stg.map fun x => decide (x = 2))) none) := hS1'.get (by simp)
  have e2 : (ints st.done).length = cs.length := by rw [ints_len, l1]
  rcases opts_mem hs with ⟨i, hi, rfl, h1⟩ | ⟨i, hi, rfl, h1, h2, h3⟩ | ⟨i, w, hw', rfl⟩ | ⟨rfl, h1⟩
  · have hci := hc i
    simp (disch := omega) only [go_sem, T.fa42_0, T.fa42_1, hg, ldM_cells, stepPV, List.map_cons, List.map_nil, Nat.reduceAdd, List.getElem?_cons_zero, List.getElem?_cons_succ, someEx, show (names 0 == [119, 111, 114, 107]) = true from rfl, if_true, T.ixm22, hgd, intsA_get, ints_getD, stM_cells, intsA_len, intsA_set, ints_set]
    refine ⟨by omega, ?_⟩
    refine fin _ _ _ _ wv wl _ _ rfl rfl rfl hR ?_
    exact Sep.set (l1 := [_]) (l2 := [_, _] ++ (wl ++ ml) ++ ol) hS1' _
  · have hl : i < st.stg.length := by rw [l2]; exact hi
    have e5 : (boolsA (st.stg.map fun x => decide (1 ≤ x))).length = cs.length := by rw [boolsA_len, List.length_map, l2]
    have hS2 := Sep.set (l1 := [_, _]) (l2 := [_] ++ (wl ++ ml) ++ ol) hS1' (.cells (boolsA ((st.stg.map fun x => decide (1 ≤ x)).set i true)) none)
    have hg2 : (σ1.set I.s (.cells (boolsA ((st.stg.map fun x => decide (1 ≤ x)).set i true)) none)) t = some (.cells ((stepPV (1, i, 0)).map .pv) (some 42)) := hS2.get (by simp)
    simp (disch := omega) only [go_sem, T.fa42_0, T.fa42_1, hg, ldM_cells, stepPV, List.map_cons, List.map_nil, Nat.reduceAdd, List.getElem?_cons_zero, List.getElem?_cons_succ, someEx, show (names 1 == [119, 111, 114, 107]) = false from rfl, show (names 1 == [115, 101, 110, 100]) = true from rfl, if_true, Bool.false_eq_true, if_false, T.ixm66, hgs, stM_cells, boolsA_set]
    refine ⟨by omega, ?_⟩
    simp only [stepPV, List.map_cons, List.map_nil] at hg2
    simp (disch := omega) only [go_sem, hg2, ldM_cells, List.getElem?_cons_zero, List.getElem?_cons_succ, someEx]
    have hR' : RowV PS 3 wv wl (ints st.way).length (i64s (ints st.way)) := by rw [ints_len]; exact hR
    refine appInt hR' (hS2.perm (permR [_, _, _, _] wl ml ol)) (by rw [ints_len]; omega) ?_
    intro wv' wl' σ3 hR3 hS3
    have e6 : ints st.way ++ [((i : Nat) : Int)] = ints (st.way ++ [i]) := by simp [ints]
    rw [e6, ints_len] at hR3
    refine fin σ3 _ _ _ wv' wl' _ _ rfl ?_ ?_ hR3 ((hS3.perm (permR [_, _, _, _] ml ol wl')).perm (permR [_, _, _, _] ol wl' ml))
    · simp [app, List.map_set]
    · exact map_same _ _ _ _ hl (by rw [h2]; rfl)
  · have hiw : i ∈ st.way := by rw [hw']; simp
    have hi1 := (V.wy i).1 hiw
    have hi := hi1.1
    have hl : i < st.stg.length := by rw [l2]; exact hi
    have e5 : (boolsA (st.stg.map fun x => decide (x = 2))).length = cs.length := by rw [boolsA_len, List.length_map, l2]
    have hwl : 1 ≤ st.way.length := by rw [hw']; simp
    simp (disch := omega) only [go_sem, T.fa42_0, T.fa42_1, hg, ldM_cells, stepPV, List.map_cons, List.map_nil, Nat.reduceAdd, List.getElem?_cons_zero, List.getElem?_cons_succ, someEx, show (names 2 == [119, 111, 114, 107]) = false from rfl, show (names 2 == [115, 101, 110, 100]) = false from rfl, show (names 2 == [116, 97, 107, 101]) = true from rfl, if_true, Bool.false_eq_true, if_false]
    refine hR.takeOver (hS1'.perm (permR [_, _, _, _] wl ml ol)) T.el22 T.iS3 1 rfl hwl (by omega) ?_
    intro wv' wl' σ2 hR2 hS2
    have hS2 := (hS2.perm (permR [_, _, _, _] ml ol wl')).perm (permR [_, _, _, _] ol wl' ml)
    have hg2 : σ2 t = some (.cells ((stepPV (2, i, 0)).map .pv) (some 42)) := hS2.get (by simp)
    have hga2 : σ2 I.a = some (.cells (boolsA (st.stg.map fun x => decide (x = 2))) none) := hS2.get (by simp)
    simp only [stepPV, List.map_cons, List.map_nil] at hg2
    simp (disch := omega) only [go_sem, hg2, hga2, ldM_cells, List.getElem?_cons_zero, List.getElem?_cons_succ, someEx, T.ixm66, stM_cells, boolsA_set]
    refine ⟨by omega, ?_⟩
    refine fin _ _ _ _ wv' wl' _ _ rfl ?_ ?_ ?_ (Sep.set (l1 := [_, _, _]) (l2 := (wl' ++ ml) ++ ol) hS2 _)
    · exact map_same _ _ _ _ hl (by rw [hi1.2]; rfl)
    · simp [app, List.map_set]
    · have : (app st (2, i, 0)).way = st.way.drop 1 := rfl
      rw [this]
      have e7 : (i64s (ints st.way)).drop (1 * szOf PS 3) = i64s (ints (st.way.drop 1)) := by rw [T.sz3]; simp [i64s, ints, List.map_drop]
      rw [e7] at hR2
      rw [List.length_drop]
      exact hR2
  · have hl : st.next < st.stg.length := by rw [l2]; exact hn
    have e5 : (boolsA (st.stg.map fun x => decide (x = 2))).length = cs.length := by rw [boolsA_len, List.length_map, l2]
    have hhp := held_pos V hn h1
    simp (disch := omega) only [go_sem, T.fa42_0, T.fa42_1, hg, ldM_cells, stepPV, List.map_cons, List.map_nil, Nat.reduceAdd, List.getElem?_cons_zero, List.getElem?_cons_succ, someEx, show (names 3 == [119, 111, 114, 107]) = false from rfl, show (names 3 == [115, 101, 110, 100]) = false from rfl, show (names 3 == [116, 97, 107, 101]) = false from rfl, show (names 3 == [102, 108, 117, 115, 104]) = true from rfl, if_true, Bool.false_eq_true, if_false, T.ixm66, hga, stM_cells, boolsA_set]
    refine ⟨by omega, ?_⟩
    refine fin _ _ _ _ wv wl _ _ rfl ?_ ?_ hR (Sep.set (l1 := [_, _, _]) (l2 := (wl ++ ml) ++ ol) hS1' _)
    · exact map_same _ _ _ _ hl (by rw [h1]; rfl)
    · simp [app, List.map_set]
end Go.AD.Sc
