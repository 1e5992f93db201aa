/- The abstract interpreter: arithmetic, comparing, parts, slicing. -/
import Derived.Test.YtachednafdmmaaaDoorAIc
namespace Go.Proofs.YtachednafdmmaaaDoor.AI
open Go
set_option linter.unusedVariables false
set_option linter.unusedSimpArgs false

variable {P : Program} {gl : Nat → Option Nat} {μ : Mu} {n : Nat} {w : World}

theorem strA_run {op : BinOp} {a b : ByteArray} {v : Value} (h : strA op a b = some v) : (Op.stringOp op a b).run P w = .ok v w ∧ VRel μ n v v := by
  have e1 : a.toList = a.data.toList := ByteArray.toList_eq a
  have e2 : b.toList = b.data.toList := ByteArray.toList_eq b
  unfold Op.stringOp
  cases op <;> simp only [strA] at h
  case add =>
    split at h
    · cases h
    · rename_i hs
      have e3 : a.size = a.data.toList.length := rfl
      have e4 : b.size = b.data.toList.length := rfl
      dsimp only
      rw [if_neg (by rw [e3, e4]; exact hs)]
      cases h
      refine ⟨?_, .plain _ rfl⟩
      show Result.ok (Value.string (a ++ b)) w = _
      congr 2
  all_goals first
    | (cases h; done)
    | (cases h; rw [e1, e2]; exact ⟨rfl, .plain _ rfl⟩)

theorem pure_plain_arith {op : BinOp} {k : IntKind} {a b : Int} {v : Value} (h : pureOf (Op.intArith op k a b) = some v) : plain1 v = true := by
  cases op <;> first | (cases h; done) | (cases h; rfl)
theorem pure_plain_bits {op : BinOp} {k : IntKind} {a b : Int} {v : Value} (h : pureOf (Op.intBits op k a b) = some v) : plain1 v = true := by
  cases op <;> first | (cases h; done) | (cases h; rfl)
theorem pure_plain_cmp {op : BinOp} {a b : Int} {v : Value} (h : pureOf (Op.intCmp op a b) = some v) : plain1 v = true := by
  cases op <;> first | (cases h; done) | (cases h; rfl)
theorem pure_plain_div {op : BinOp} {k : IntKind} {a b : Int} {v : Value} (h : pureOf (Op.intDiv op k a b) = some v) : plain1 v = true := by
  unfold Op.intDiv at h
  split at h
  · cases h
  · cases op <;> first | (cases h; done) | (cases h; rfl)
theorem pure_plain_shift {op : BinOp} {k k' : IntKind} {a b : Int} {v : Value} (h : pureOf (Op.shift op k a k' b) = some v) : plain1 v = true := by
  unfold Op.shift at h
  split at h
  · cases h
  · cases op <;> first | (cases h; done) | (cases h; rfl)

theorem binA_run {op : BinOp} {t : TypeId} {X Y : Operand} {x y x' y' v : Value} (h : binA P op t (isConst X || isConst Y) x y = some v) (hx : VRel μ n x x') (hy : VRel μ n y y') :
    (do eqGuard op t X Y x' y'; binOp op t x' y').run P w = .ok v w ∧ VRel μ n v v := by
  unfold binA at h
  split at h
  · rename_i k a k' b
    rw [hx.int, hy.int]
    have hg : (eqGuard op t X Y (.int k a) (.int k' b)).run P w = .ok () w := by cases op <;> rfl
    simp only [Sem.run_bind, hg, Result.andThen_ok]
    have key : ∀ op, op ≠ .shl → op ≠ .shr → (if k = k' then intA op k a b else none) = some v → (binOp op t (.int k a) (.int k' b)).run P w = .ok v w ∧ VRel μ n v v := by
      intro op h1 h2 h
      split at h
      · rename_i hk
        subst hk
        cases op
        case shl => exact absurd rfl h1
        case shr => exact absurd rfl h2
        all_goals (simp only [intA] at h; simp only [binOp, ne_eq, not_true_eq_false, if_false])
        case add => exact ⟨pureOf_run h, .plain _ (pure_plain_arith h)⟩
        case sub => exact ⟨pureOf_run h, .plain _ (pure_plain_arith h)⟩
        case mul => exact ⟨pureOf_run h, .plain _ (pure_plain_arith h)⟩
        case quo => exact ⟨pureOf_run h, .plain _ (pure_plain_div h)⟩
        case rem => exact ⟨pureOf_run h, .plain _ (pure_plain_div h)⟩
        case and => exact ⟨pureOf_run h, .plain _ (pure_plain_bits h)⟩
        case or => exact ⟨pureOf_run h, .plain _ (pure_plain_bits h)⟩
        case xor => exact ⟨pureOf_run h, .plain _ (pure_plain_bits h)⟩
        case andNot => exact ⟨pureOf_run h, .plain _ (pure_plain_bits h)⟩
        all_goals exact ⟨pureOf_run h, .plain _ (pure_plain_cmp h)⟩
      · cases h
    split at h
    · exact ⟨pureOf_run h, .plain _ (pure_plain_shift h)⟩
    · exact ⟨pureOf_run h, .plain _ (pure_plain_shift h)⟩
    · rename_i h1 h2
      exact key _ (fun e => h1 e) (fun e => h2 e) h
  · rename_i a b
    rw [hx.string, hy.string]
    have hg : (eqGuard op t X Y (.string a) (.string b)).run P w = .ok () w := by cases op <;> rfl
    simp only [Sem.run_bind, hg, Result.andThen_ok]
    obtain ⟨hr, hv⟩ := strA_run (P := P) (μ := μ) (n := n) (w := w) h
    refine ⟨?_, hv⟩
    cases op <;> exact hr
  · rename_i hni hns
    cases hok : eqOk P t (isConst X || isConst Y) x y with
    | false => rw [hok] at h; cases h
    | true =>
      rw [hok] at h
      simp only [cond_true] at h
      -- the guard
      have hg : op = .eql ∨ op = .neq → (eqGuard op t X Y x' y').run P w = .ok () w := by
        intro hop
        have hq : (!(op matches .eql | .neq)) = false := by rcases hop with rfl | rfl <;> rfl
        unfold eqGuard
        cases hx with
        | plain x hx =>
          cases x <;> first
            | (simp [plain1] at hx; done)
            | (rcases hop with rfl | rfl <;> rfl)
            | (cases hy with
               | plain y hy =>
                 cases y <;> first
                   | (simp [plain1] at hy; done)
                   | (rcases hop with rfl | rfl <;> rfl)
                   | (simp only [eqOk, Bool.or_eq_true] at hok
                      cases X <;> cases Y <;> simp [isConst] at hok <;> (rcases hop with rfl | rfl <;> rfl))
               | _ => rcases hop with rfl | rfl <;> rfl)
        | agg c c' l hh =>
          cases hy with
          | agg d d' l2 hh2 =>
            simp only [eqOk, Bool.not_eq_true'] at hok
            rcases hop with rfl | rfl <;> simp [hok]
          | plain y hy =>
            cases y <;> first | (simp [plain1] at hy; done) | (rcases hop with rfl | rfl <;> rfl)
          | _ => rcases hop with rfl | rfl <;> rfl
        | _ => rcases hop with rfl | rfl <;> rfl
      -- the values: not both numbers, not both texts
      have hii : ∀ k a k' b, x' = .int k a → y' = .int k' b → False := by
        intro k a k' b e1 e2
        subst e1 e2
        cases hx with
        | plain x hx => cases hy with
          | plain y hy => exact hni _ _ _ _ rfl rfl
      have hss : ∀ a b, x' = .string a → y' = .string b → False := by
        intro a b e1 e2
        subst e1 e2
        cases hx with
        | plain x hx => cases hy with
          | plain y hy => exact hns _ _ rfl rfl
      split at h
      · split at h
        · rename_i r hr
          cases h
          have he := aeqD_run (P := P) (w := w) _ _ _ _ _ hr hx hy
          simp only [Sem.run_bind, hg (.inl rfl), Result.andThen_ok]
          refine ⟨?_, .plain _ rfl⟩
          have hb : binOp .eql t x' y' = (do pure (.bool (← Op.equal t x' y'))) := by
            cases x' <;> cases y' <;> first
              | rfl
              | exact absurd rfl (fun e => hii _ _ _ _ e rfl)
              | exact absurd rfl (fun e => hss _ _ e rfl)
              | (exfalso; cases hx; simp [plain1] at *; done)
          rw [hb]
          simp only [Sem.run_bind, Op.equal, Op.maxDepth, he, Result.andThen_ok]; rfl
        · cases h
      · split at h
        · rename_i r hr
          cases h
          have he := aeqD_run (P := P) (w := w) _ _ _ _ _ hr hx hy
          simp only [Sem.run_bind, hg (.inr rfl), Result.andThen_ok]
          refine ⟨?_, .plain _ rfl⟩
          have hb : binOp .neq t x' y' = (do pure (.bool (!(← Op.equal t x' y')))) := by
            cases x' <;> cases y' <;> first
              | rfl
              | exact absurd rfl (fun e => hii _ _ _ _ e rfl)
              | exact absurd rfl (fun e => hss _ _ e rfl)
              | (exfalso; cases hx; simp [plain1] at *; done)
          rw [hb]
          simp only [Sem.run_bind, Op.equal, Op.maxDepth, he, Result.andThen_ok]; rfl
        · cases h
      · cases h

theorem unA_run {op : UnOp} {x x' v : Value} (h : unA op x = some v) (hx : VRel μ n x x') : (Op.unary op x').run P w = .ok v w ∧ VRel μ n v v := by
  unfold unA at h
  split at h
  · rw [hx.int]; exact ⟨pureOf_run h, .plain _ (pure_plain_arith h)⟩
  · rw [hx.int]; exact ⟨pureOf_run h, .plain _ (pure_plain_bits h)⟩
  · rw [hx.bool]; cases h; exact ⟨rfl, .plain _ rfl⟩
  · cases h

end Go.Proofs.YtachednafdmmaaaDoor.AI
