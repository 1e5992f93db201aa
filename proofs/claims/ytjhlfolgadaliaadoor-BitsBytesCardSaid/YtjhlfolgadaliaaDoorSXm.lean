/- Functions of whole numbers, run with numbers that are not known. -/
import Derived.Test.YtjhlfolgadaliaaDoorSXl
import Derived.Test.YtjhlfolgadaliaaDoorAIli
import Derived.Laws.BitsLemmas
import Derived.KernelRfl
namespace Go.Proofs.YtjhlfolgadaliaaDoor.AI
open Go Go.RowKit 
set_option linter.unusedVariables false
set_option linter.unusedSimpArgs false
theorem or_add (a b k : Nat) (h : a < 2 ^ k) : a ||| b * 2 ^ k = a + b * 2 ^ k := by
  have := Nat.two_pow_add_eq_or_of_lt (i := k) (b := a) h b
  rw [Nat.or_comm, Nat.mul_comm b, Nat.add_comm a]
  exact this.symm
theorem updB_add (a x i : Nat) (ha : a < 2 ^ (7 * i)) (hx : x % 128 * 2 ^ (7 * i) < 2 ^ 64) : updB a x i = a + x % 128 * 2 ^ (7 * i) := by
  unfold updB
  rw [Nat.mod_eq_of_lt hx, or_add a _ _ ha]
/-- What was put is read again, whatever stands behind it. -/
theorem take_put (r : List Nat) (u : Nat) : ∀ (i a : Nat), u * 2 ^ (7 * i) < 2 ^ 64 → a < 2 ^ (7 * i) → i ≤ 9 → (i = 0 ∨ 1 ≤ u) → ∃ c d, takeF (putN u ++ r) i a = (true, a + u * 2 ^ (7 * i), i + (putN u).length, c, d) := by
  induction u using Nat.strongRecOn with
  | ind u ih =>
    intro i a hu ha hi h0
    have hp : 0 < 2 ^ (7 * i) := Nat.two_pow_pos _
    have h9 : i = 9 → u < 2 := by
      intro e
      subst e
      have : (2 : Nat) ^ (7 * 9) = 9223372036854775808 := by decide
      rw [this] at hu
      omega
    by_cases h : u ≤ 127
    · rw [putN_lo h, List.cons_append, takeF, if_neg (by omega), if_pos (by omega), if_neg (by omega)]
      have e : u % 128 = u := Nat.mod_eq_of_lt (by omega)
      have e2 : updB a u i = a + u * 2 ^ (7 * i) := by rw [updB_add a u i ha (by rw [e]; exact hu), e]
      exact ⟨updB a u i, i, by rw [e2]; rfl⟩
    · have hi8 : i < 9 := by
        rcases Nat.lt_or_ge i 9 with h1 | h1
        · exact h1
        · have := h9 (by omega); omega
      have hx : u % 128 * 2 ^ (7 * i) < 2 ^ 64 := Nat.lt_of_le_of_lt (Nat.mul_le_mul_right _ (Nat.mod_le _ _)) hu
      have e : (u % 128 + 128) % 128 = u % 128 := by omega
      have hs : 2 ^ (7 * (i + 1)) = 128 * 2 ^ (7 * i) := by rw [Nat.mul_add, Nat.pow_add, Nat.mul_comm]
      have hsum : u % 128 * 2 ^ (7 * i) + u / 128 * (128 * 2 ^ (7 * i)) = u * 2 ^ (7 * i) := by
        rw [← Nat.mul_assoc, ← Nat.add_mul]
        congr 1
        omega
      rw [putN_hi h, List.cons_append, takeF, if_neg (by omega), if_neg (by omega)]
      have hupd : updB a (u % 128 + 128) i = a + u % 128 * 2 ^ (7 * i) := by rw [updB_add a _ i ha (by rw [e]; exact hx), e]
      rw [hupd]
      have hm : u % 128 * 2 ^ (7 * i) + 2 ^ (7 * i) ≤ 128 * 2 ^ (7 * i) := by
        rw [← Nat.succ_mul]; exact Nat.mul_le_mul_right _ (by omega)
      obtain ⟨c, d, hcd⟩ := ih (u / 128) (by omega) (i + 1) (a + u % 128 * 2 ^ (7 * i)) (by rw [hs]; omega) (by rw [hs]; omega) (by omega) (.inr (by omega))
      refine ⟨c, d, ?_⟩
      rw [hcd, hs, Nat.add_assoc a, hsum, List.length_cons]
      congr 3
      omega
def rowN (l off : Nat) (cs : List Value) : List Nat := (List.range l).map fun i => (intAt cs (off + i)).toNat
def TkOk (l off : Nat) (cs : List Value) : Prop := BytesAt (rowN l off cs) off cs
def tkU (l off : Nat) (cs : List Value) : Nat := (takeF (rowN l off cs) 0 0).2.1
def tkN (l off : Nat) (cs : List Value) : Nat := (takeF (rowN l off cs) 0 0).2.2.1
theorem rowN_len (l off : Nat) (cs : List Value) : (rowN l off cs).length = l := by simp [rowN]
noncomputable def takeE (ar : List Value) : Option (Bool × Value) := match ar with
  | [.iface t (.tuple ⟨.slice none l off :: .bool ex :: cs⟩)] => bif Nat.beq t 4294967296 then some (tst (TkOk l off cs), .tuple ⟨[.int .u64 ((tkU l off cs : Nat) : Int), .int .i64 ((tkN l off cs : Nat) : Int)]⟩) else none
  | _ => none
theorem takeE_ok {k : Nat} {ar : List Value} {v : Value} (hk : ∀ (bs : List Nat) (off : Nat) (ex : Bool) (cs : List Value), BytesAt bs off cs → ConG Tryd.prog k [gslV bs.length off ex cs] (.tuple ⟨[.int .u64 (((takeF bs 0 0).2.1 : Nat) : Int), .int .i64 (((takeF bs 0 0).2.2.1 : Nat) : Int)]⟩)) (h : takeE ar = some (true, v)) : ConG Tryd.prog k ar v := by
  unfold takeE at h
  split at h
  · rename_i t l off ex cs
    cases hb : Nat.beq t 4294967296 with
    | false => rw [hb] at h; cases h
    | true =>
      rw [hb] at h
      simp only [cond_true, Option.some.injEq, Prod.mk.injEq] at h
      obtain ⟨ht, rfl⟩ := h
      have e := Nat.eq_of_beq_eq_true hb
      subst e
      have := hk (rowN l off cs) off ex cs (of_tst ht)
      rw [rowN_len] at this
      exact this
  · cases h
end Go.Proofs.YtjhlfolgadaliaaDoor.AI
