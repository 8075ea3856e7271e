/- A store, parted: what stays, and a list of objects of one's own. -/
import Derived.Test.YtjgjmpophpifgaaDoorAd17
set_option linter.unusedVariables false
namespace Go.AD
abbrev Objs := List (Nat × AObj)
structure Sep (σ0 σ : AS) (l : Objs) : Prop where
  sub : σ0.sub σ
  nodup : (l.map (·.1)).Nodup
  new : ∀ p ∈ l, σ0 p.1 = none
  here : ∀ p ∈ l, σ p.1 = some p.2
section
variable {σ0 σ : AS} {i : Nat} {o o' : AObj} {l l' : Objs}
theorem Sep.start (σ : AS) : Sep σ σ [] := ⟨sub_refl σ, by simp, by simp, by simp⟩
theorem Sep.get (h : Sep σ0 σ l) (hi : (i, o) ∈ l) : σ i = some o := h.here _ hi
theorem Sep.free (h : Sep σ0 σ l) (hi : σ i = none) : σ0 i = none ∧ i ∉ l.map (·.1) := by
  constructor
  · cases e : σ0 i with
    | none => rfl
    | some o => rw [h.sub _ _ e] at hi; cases hi
  · intro hm
    obtain ⟨p, hp, rfl⟩ := List.mem_map.1 hm
    rw [h.here p hp] at hi; cases hi
theorem Sep.alloc (h : Sep σ0 σ l) (hi : σ i = none) (o : AObj) : Sep σ0 (σ.set i o) ((i, o) :: l) := by
  obtain ⟨h0, hm⟩ := h.free hi
  refine ⟨h.sub.trans (sub_set _ hi), by simp only [List.map_cons, List.nodup_cons]; exact ⟨hm, h.nodup⟩, ?_, ?_⟩
  · intro p hp
    rcases List.mem_cons.1 hp with rfl | hp
    · exact h0
    · exact h.new p hp
  · intro p hp
    rcases List.mem_cons.1 hp with rfl | hp
    · exact set_same _ _ _
    · have : p.1 ≠ i := fun e => hm (List.mem_map.2 ⟨p, hp, e⟩)
      rw [set_ne _ _ this]; exact h.here p hp
theorem Sep.perm (h : Sep σ0 σ l) (hp : l.Perm l') : Sep σ0 σ l' :=
  ⟨h.sub, (hp.map _).nodup_iff.1 h.nodup, fun p hm => h.new p (hp.mem_iff.2 hm), fun p hm => h.here p (hp.mem_iff.2 hm)⟩
theorem Sep.front {l1 l2 : Objs} {p : Nat × AObj} (h : Sep σ0 σ (l1 ++ p :: l2)) : Sep σ0 σ (p :: (l1 ++ l2)) := h.perm List.perm_middle
theorem Sep.back {l1 l2 : Objs} {p : Nat × AObj} (h : Sep σ0 σ (p :: (l1 ++ l2))) : Sep σ0 σ (l1 ++ p :: l2) := h.perm List.perm_middle.symm
theorem Sep.set1 (h : Sep σ0 σ ((i, o) :: l)) (o' : AObj) : Sep σ0 (σ.set i o') ((i, o') :: l) := by
  have hn := h.nodup
  simp only [List.map_cons, List.nodup_cons] at hn
  have h0 := h.new (i, o) (by simp)
  refine ⟨?_, by simp only [List.map_cons, List.nodup_cons]; exact hn, ?_, ?_⟩
  · intro j x hj
    have : j ≠ i := by intro e; subst e; rw [h0] at hj; cases hj
    rw [set_ne _ _ this]; exact h.sub _ _ hj
  · intro p hp
    rcases List.mem_cons.1 hp with rfl | hp
    · exact h0
    · exact h.new p (by simp [hp])
  · intro p hp
    rcases List.mem_cons.1 hp with rfl | hp
    · exact set_same _ _ _
    · have : p.1 ≠ i := fun e => hn.1 (List.mem_map.2 ⟨p, hp, e⟩)
      rw [set_ne _ _ this]; exact h.here p (by simp [hp])
theorem Sep.set {l1 l2 : Objs} (h : Sep σ0 σ (l1 ++ (i, o) :: l2)) (o' : AObj) : Sep σ0 (σ.set i o') (l1 ++ (i, o') :: l2) := (h.front.set1 o').back
theorem Sep.drop {p : Nat × AObj} (h : Sep σ0 σ (p :: l)) : Sep σ0 σ l := by
  have hn := h.nodup
  simp only [List.map_cons, List.nodup_cons] at hn
  exact ⟨h.sub, hn.2, fun q hq => h.new q (by simp [hq]), fun q hq => h.here q (by simp [hq])⟩
theorem Sep.del (h : Sep σ0 σ ((i, o) :: l)) : Sep σ0 (σ.del i) l := by
  have hn := h.nodup
  simp only [List.map_cons, List.nodup_cons] at hn
  have h0 := h.new (i, o) (by simp)
  refine ⟨?_, hn.2, fun q hq => h.new q (by simp [hq]), fun q hq => ?_⟩
  · intro j x hj
    have : j ≠ i := by intro e; subst e; rw [h0] at hj; cases hj
    rw [del_ne _ this]; exact h.sub _ _ hj
  · have : q.1 ≠ i := fun e => hn.1 (List.mem_map.2 ⟨q, hq, e⟩)
    rw [del_ne _ this]; exact h.here q (by simp [hq])
/-- An object may be counted to what stays, and back. -/
theorem Sep.hide (h : Sep σ0 σ ((i, o) :: l)) : Sep (σ0.set i o) σ l := by
  have hn := h.nodup
  simp only [List.map_cons, List.nodup_cons] at hn
  refine ⟨?_, hn.2, ?_, fun q hq => h.here q (by simp [hq])⟩
  · intro j x hj
    by_cases e : j = i
    · subst e; rw [set_same] at hj; rw [h.here (j, o) (by simp)]; exact hj
    · rw [set_ne _ _ e] at hj; exact h.sub _ _ hj
  · intro q hq
    have : q.1 ≠ i := fun e => hn.1 (List.mem_map.2 ⟨q, hq, e⟩)
    rw [set_ne _ _ this]; exact h.new q (by simp [hq])
theorem Sep.unhide (h : Sep (σ0.set i o) σ l) (h0 : σ0 i = none) : Sep σ0 σ ((i, o) :: l) := by
  have hni : ∀ q ∈ l, q.1 ≠ i := by
    intro q hq e
    have := h.new q hq
    rw [e, set_same] at this; cases this
  refine ⟨?_, ?_, ?_, ?_⟩
  · intro j x hj
    have : j ≠ i := by intro e; subst e; rw [h0] at hj; cases hj
    exact h.sub _ _ (by rw [set_ne _ _ this]; exact hj)
  · simp only [List.map_cons, List.nodup_cons]
    refine ⟨?_, h.nodup⟩
    intro hm
    obtain ⟨q, hq, e⟩ := List.mem_map.1 hm
    exact hni q hq e
  · intro q hq
    rcases List.mem_cons.1 hq with rfl | hq
    · exact h0
    · have := h.new q hq
      rwa [set_ne _ _ (hni q hq)] at this
  · intro q hq
    rcases List.mem_cons.1 hq with rfl | hq
    · exact h.sub _ _ (set_same _ _ _)
    · exact h.here q hq
def AS.adds (σ : AS) : Objs → AS
  | [] => σ
  | p :: l => (AS.adds σ l).set p.1 p.2
theorem Sep.push {r : Objs} (h : Sep σ0 σ (r ++ l)) : Sep (σ0.adds r) σ l := by
  induction r generalizing l with
  | nil => exact h
  | cons p r ih =>
    have h1 : Sep σ0 σ (r ++ p :: l) := h.perm (List.perm_middle (a := p) (l₁ := r) (l₂ := l)).symm
    exact (ih h1).hide
theorem Sep.pop {r : Objs} (h : Sep (σ0.adds r) σ l) (hn : (r.map (·.1)).Nodup) (h0 : ∀ p ∈ r, σ0 p.1 = none) : Sep σ0 σ (r ++ l) := by
  induction r generalizing l with
  | nil => exact h
  | cons p r ih =>
    simp only [List.map_cons, List.nodup_cons] at hn
    have hp : (σ0.adds r) p.1 = none := by
      have : ∀ r : Objs, p.1 ∉ r.map (·.1) → σ0 p.1 = none → (σ0.adds r) p.1 = none := by
        intro r
        induction r with
        | nil => intro _ h; exact h
        | cons q r ih =>
          intro h1 h2
          simp only [List.map_cons, List.mem_cons, not_or] at h1
          show (AS.adds σ0 r).set q.1 q.2 p.1 = none
          rw [set_ne _ _ h1.1]; exact ih h1.2 h2
      exact this r hn.1 (h0 p (by simp))
    have h1 : Sep (σ0.adds r) σ (p :: l) := Sep.unhide h hp
    have h2 := ih h1 hn.2 (fun q hq => h0 q (by simp [hq]))
    exact h2.perm (List.perm_middle (a := p) (l₁ := r) (l₂ := l))
/-- A part of the list turns; the others stay. -/
theorem Sep.part {r : Objs} (h : Sep σ0 σ (r ++ l)) {Q : Prop} (hQ : Sep (σ0.adds r) σ l → (∀ σ' l', Sep (σ0.adds r) σ' l' → Sep σ0 σ' (r ++ l')) → Q) : Q := by
  refine hQ h.push fun σ' l' h' => h'.pop ?_ fun p hp => h.new p (by simp [hp])
  have := h.nodup
  rw [List.map_append, List.nodup_append] at this
  exact this.1
theorem Sep.weak {σ1 : AS} (h : Sep σ1 σ l) (hs : σ0.sub σ1) : Sep σ0 σ l :=
  ⟨hs.trans h.sub, h.nodup, (fun p hp => by
    cases e : σ0 p.1 with
    | none => rfl
    | some o => have := hs _ _ e; rw [h.new p hp] at this; exact absurd this (by simp)), h.here⟩
end
/-! ### rows that grow -/
/-- A row's value, with its object if there is one. -/
def RowV (P : Program) (e : TypeId) (v : AV) (L : Objs) (n : Nat) (cs : List PV) : Prop :=
  cs.length = n * szOf P e ∧ ((v = .nilS ∧ L = [] ∧ n = 0 ∧ cs = []) ∨ ∃ id mk, v = .grow id n cs ∧ L = [(id, .front n (szOf P e) mk)])
section
variable {P : Program} {σ0 σ : AS} {t e : TypeId} {v x : AV} {n m : Nat} {cs ys : List PV} {l L : Objs}
theorem RowV.nil (P : Program) (e : TypeId) : RowV P e .nilS [] 0 [] := ⟨by simp, .inl ⟨rfl, rfl, rfl, rfl⟩⟩
theorem RowV.toPV (G : RowV P e v L n cs) : Go.AD.toPV v = some (.lst n cs) := by
  rcases G.2 with ⟨rfl, rfl, rfl, rfl⟩ | ⟨id, mk, rfl, rfl⟩ <;> rfl
theorem RowV.cells (G : RowV P e v L n cs) : v.cells = [v] := by
  rcases G.2 with ⟨rfl, rfl, rfl, rfl⟩ | ⟨id, mk, rfl, rfl⟩ <;> rfl
theorem RowV.cellOk (G : RowV P e v L n cs) : v.cellOk = true := by
  rcases G.2 with ⟨rfl, rfl, rfl, rfl⟩ | ⟨id, mk, rfl, rfl⟩ <;> rfl
theorem RowV.append {K : AV → AS → Prop} (G : RowV P e v L n cs) (h : Sep σ0 σ (l ++ L)) (hT : RowT P t e) (hx : shown P σ e x = some (m, ys)) (hl : ys.length = m * szOf P e) (hm : 0 < m) (hb : (n + m) * byOf P e ≤ 140737488355328) (hn : n + m ≤ 9223372036854775807)
    (hK : ∀ v' L' σ', RowV P e v' L' (n + m) (cs ++ ys) → Sep σ0 σ' (l ++ L') → K v' σ') : appendD P false σ t v x K := by
  have hlen : (cs ++ ys).length = (n + m) * szOf P e := by rw [List.length_append, G.1, hl, Nat.add_mul]
  rcases G.2 with ⟨rfl, rfl, rfl, rfl⟩ | ⟨id, mk, rfl, rfl⟩
  · refine app_nil hT hx hl (by omega) (by simpa using hb) (by omega) ?_
    intro id hid
    refine hK _ [(id, .front (0 + m) (szOf P e) (some e))] _ ⟨hlen, .inr ⟨id, some e, by simp, rfl⟩⟩ ?_
    have := (h.alloc hid (.front m (szOf P e) (some e)))
    simp only [List.append_nil] at this
    exact (this.perm (by simpa using (List.perm_append_comm (l₁ := [(id, AObj.front m (szOf P e) (some e))]) (l₂ := l))))
  · refine app_grow hT hx hl (h.get (o := .front n (szOf P e) mk) (by simp)) (by omega) G.1 hb hn ?_
    exact hK _ _ _ ⟨hlen, .inr ⟨id, _, rfl, rfl⟩⟩ (h.set _)
end
end Go.AD
