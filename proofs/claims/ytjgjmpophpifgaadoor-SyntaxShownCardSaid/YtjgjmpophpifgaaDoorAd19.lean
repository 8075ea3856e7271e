/- More of parted stores and rows. -/
import Derived.Test.YtjgjmpophpifgaaDoorAd18
set_option linter.unusedVariables false
namespace Go.AD
section
variable {P : Program} {σ0 σ : AS} {t e : TypeId} {v x : AV} {n m : Nat} {cs ys : List PV} {l l' L : Objs}
theorem Sep.sublist (h : Sep σ0 σ l) (hs : l'.Sublist l) : Sep σ0 σ l' :=
  ⟨h.sub, (hs.map _).nodup h.nodup, fun p hp => h.new p (hs.subset hp), fun p hp => h.here p (hs.subset hp)⟩
theorem RowV.ix {k : IntKind} {i : Nat} {K : AV → Prop} (G : RowV P e v L n cs) (ht : elOf P t = some e) (h1 : (inf P e).isSome = true) (h3 : 0 < szOf P e) (hi : i < n) : indexAddrD P t v (.pv (.int k i)) K = K (.elemP cs (i * szOf P e)) := by
  have hl := G.1
  have hu := isSlice ht
  rcases G.2 with ⟨_, _, h0, _⟩ | ⟨id, mk, rfl, rfl⟩
  · omega
  · simp [indexAddrD, hu, h1, h3, hl, hi]
theorem RowV.takeOver {K : AV → AS → Prop} (G : RowV P e v L n cs) (h : Sep σ0 σ (l ++ L)) (he : elOf P t = some e) (hi : (inf P e).isSome = true) {z : Int} (k : Nat) (hz : z = (k : Nat)) (hk : k ≤ n) (hn : 0 < n)
    (hK : ∀ v' L' σ', RowV P e v' L' (n - k) (cs.drop (k * szOf P e)) → Sep σ0 σ' (l ++ L') → K v' σ') : takeOverD P σ t v (some (.pv (.int .i64 z))) none K := by
  subst hz
  rcases G.2 with ⟨_, _, h0, _⟩ | ⟨id, mk, rfl, rfl⟩
  · omega
  · simp only [takeOverD, he, Int.toNat_natCast]
    refine ⟨hi, ⟨mk, h.get (by simp)⟩, G.1, by omega, by omega, ?_⟩
    intro id2 hid2
    have hdel : (σ.del id) id2 = none := by
      by_cases e : id2 = id
      · subst e; exact del_same _ _
      · rw [del_ne _ e]; exact hid2
    have h1 := (Sep.front (l1 := l) (l2 := []) h).del.alloc hdel (.front (n - k) (szOf P e) none)
    refine hK _ [(id2, .front (n - k) (szOf P e) none)] _ ⟨?_, .inr ⟨id2, none, rfl, rfl⟩⟩ ?_
    · rw [List.length_drop, G.1, Nat.sub_mul]
    · exact h1.perm (by simpa using List.perm_append_comm (l₁ := [(id2, AObj.front (n - k) (szOf P e) none)]) (l₂ := l))
end
end Go.AD
