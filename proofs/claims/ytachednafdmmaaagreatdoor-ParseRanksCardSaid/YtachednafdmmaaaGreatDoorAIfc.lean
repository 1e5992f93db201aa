/- The abstract interpreter, fast runs: what its small steps come to. -/
import Derived.Test.YtachednafdmmaaaGreatDoorAIfb
namespace Go.Proofs.YtachednafdmmaaaGreatDoor.AI
open Go
set_option linter.unusedVariables false
set_option linter.unusedSimpArgs false

theorem d16_inj {s t : Nat} (hs : s < 256) (ht : t < 256) (h1 : d16 (s / 16) = d16 (t / 16)) (h2 : d16 (s % 16) = d16 (t % 16)) : s = t := by
  have a1 := d16_num (s / 16) (by omega)
  have a2 := d16_num (t / 16) (by omega)
  have a3 := d16_num (s % 16) (by omega)
  have a4 := d16_num (t % 16) (by omega)
  rw [h1] at a1
  rw [h2] at a3
  omega

/-- A state's temporaries: what the fast form knows the other knows too. -/
def SimT (T : TT) (S : Tr Value) : Prop := ∀ (t : Nat) (v : Value), t < 256 → T.get (d16 (t / 16)) (d16 (t % 16)) = some v → S.get t = some v

theorem SimT.nil {S : Tr Value} : SimT TT.nil S := fun t v _ h => by
  unfold TT.nil TT.get at h
  rw [Hex.nth_all, Hex.nth_all] at h
  cases h

theorem getT_some {d e : D16} {T : TT} {k : Value → O1} {r : Value} (h : getT d e T k = some r) : ∃ v, T.get d e = some v ∧ k v = some r := by
  unfold getT at h
  rw [selX_eq, selO_eq] at h
  unfold TT.get
  cases hv : (T.nth d).nth e with
  | none => rw [hv] at h; cases h
  | some v => rw [hv] at h; exact ⟨v, rfl, h⟩

theorem setT_some {d e : D16} {x : Option Value} {T : TT} {k : TT → O1} {r : Value} (h : setT d e x T k = some r) : ∃ T', k T' = some r ∧ T'.get d e = x ∧ ∀ d' e', (d' ≠ d ∨ e' ≠ e) → T'.get d' e' = T.get d' e' := by
  unfold setT at h
  rw [selX_eq] at h
  obtain ⟨X, h1, h2, h3⟩ := updO_ok e (T.nth d) x fun X' => updX d T X' k
  rw [h1] at h
  obtain ⟨T', h4, h5, h6⟩ := updX_ok d T X k
  rw [h4] at h
  refine ⟨T', h, ?_, fun d' e' hne => ?_⟩
  · unfold TT.get; rw [h5, h2]
  · unfold TT.get
    by_cases hd : d' = d
    · subst hd
      rw [h5]
      exact h3 e' (hne.resolve_left fun h => h rfl)
    · rw [h6 d' hd]

theorem slot_some {t : Tmp} {d e : D16} (h : slot t = some (d, e)) : t < 256 ∧ d = d16 (t / 16) ∧ e = d16 (t % 16) := by
  unfold slot at h
  cases hb : Nat.blt t 256 with
  | false => rw [hb] at h; cases h
  | true => rw [hb] at h; cases h; exact ⟨Nat.le_of_ble_eq_true hb, rfl, rfl⟩

theorem setT_sim {d e : D16} {x : Option Value} {T : TT} {S : Tr Value} {t : Tmp} {k : TT → O1} {r : Value} (hs : slot t = some (d, e)) (hT : SimT T S) (h : setT d e x T k = some r) : ∃ T', k T' = some r ∧ SimT T' (S.set t x) := by
  obtain ⟨ht, rfl, rfl⟩ := slot_some hs
  obtain ⟨T', h1, h2, h3⟩ := setT_some h
  refine ⟨T', h1, fun s v hs' hv => ?_⟩
  rw [Tr.get_set]
  by_cases e : s = t
  · subst e
    rw [if_pos rfl, ← h2, hv]
  · rw [if_neg e]
    refine hT s v hs' ?_
    rw [← h3, hv]
    by_cases h4 : d16 (s / 16) = d16 (t / 16)
    · exact .inr fun h5 => e (d16_inj hs' ht h4 h5)
    · exact .inl h4

-- THE HEAP

end Go.Proofs.YtachednafdmmaaaGreatDoor.AI
