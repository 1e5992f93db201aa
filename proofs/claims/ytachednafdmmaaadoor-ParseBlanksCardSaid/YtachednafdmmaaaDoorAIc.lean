/- The abstract interpreter: operations that ask nothing of the world, or only read it. -/
import Derived.Test.YtachednafdmmaaaDoorAIb
import Derived.Laws.StructEq
import Derived.Laws.Entries
import Derived.Laws.Slices
import Derived.Laws.Cells
import Derived.ChangeKeysEq
namespace Go.Proofs.YtachednafdmmaaaDoor.AI
open Go
set_option linter.unusedVariables false
set_option linter.unusedSimpArgs false

variable {P : Program} {gl : Nat → Option Nat} {μ : Mu} {n : Nat} {w : World}

theorem pureOf_run {s : Sem Value} {v : Value} (h : pureOf s = some v) : s.run P w = .ok v w := by
  cases s <;> first | (simp [pureOf] at h; done) | (simp only [pureOf, Option.some.injEq] at h; subst h; rfl)

theorem aggT_run {t : TypeId} {b : Bool} (h : aggT P t = some b) : (isAgg t).run P w = .ok b w := by
  unfold aggT at h
  unfold isAgg
  split at h
  · rename_i hu
    cases h
    simp only [Sem.run_bind, run_underlying hu, Result.andThen_ok]; rfl
  · rename_i hu
    cases h
    simp only [Sem.run_bind, run_underlying hu, Result.andThen_ok]; rfl
  · rename_i d h1 h2 hu
    cases h
    simp only [Sem.run_bind, run_underlying hu, Result.andThen_ok]
    cases d <;> first | rfl | (exfalso; first | exact h1 _ rfl | exact h2 _ _ rfl)
  · cases h

theorem szT_run {t : TypeId} {k : Nat} (h : szT P t = some k) : (sizeOf t).run P w = .ok k w := by
  unfold szT at h
  split at h
  · rename_i i hi
    cases h
    unfold sizeOf
    simp only [Sem.run_bind, run_typeInfo _ hi, Result.andThen_ok]; rfl
  · cases h

theorem zeroA_run {t : TypeId} {z : Value} (h : zeroA P t = some z) : (zeroValue t).run P w = .ok z w ∧ VRel μ n z z := by
  unfold zeroA at h
  split at h
  · rename_i i hi
    split at h
    · rename_i z' hz
      cases hp : plainV z' with
      | false => rw [hp] at h; cases h
      | true =>
        rw [hp] at h
        cases h
        refine ⟨?_, .plainV hp⟩
        unfold zeroValue
        simp only [Sem.run_bind, run_typeInfo _ hi, Result.andThen_ok, hz]; rfl
    · cases h
  · cases h

theorem partA_run {t : TypeId} {cs : List Value} {off : Nat} {v : Value} (h : partA P t cs off = some v) {ds : Array Value} (hr : LRel μ n cs ds.toList) :
    ∃ c, (part t ds off).run P w = .ok c w ∧ VRel μ n v c := by
  unfold partA at h
  unfold part
  split at h
  · rename_i ha
    split at h
    · rename_i k hk
      cases h
      simp only [Sem.run_bind, aggT_run ha, Result.andThen_ok, if_true, szT_run hk]
      refine ⟨_, rfl, .agg _ _ ?_ ?_⟩
      · have := (hr.drop off).take k
        simp only [Array.toList_extract, List.extract_eq_take_drop, Nat.add_sub_cancel_left]
        exact this.1
      · have := (hr.drop off).take k
        simp only [Array.toList_extract, List.extract_eq_take_drop, Nat.add_sub_cancel_left]
        exact this.2
    · cases h
  · rename_i ha
    simp only [Sem.run_bind, aggT_run ha, Result.andThen_ok, Bool.false_eq_true, if_false]
    obtain ⟨y, hy, hv⟩ := hr.get h
    rw [Array.getElem?_toList] at hy
    rw [hy]
    exact ⟨y, rfl, hv⟩
  · cases h

theorem beq_bytes (a b : ByteArray) : (a == b) = (a.data.toList == b.data.toList) := by
  rw [beq_toListBytes, ByteArray.toList_eq, ByteArray.toList_eq]

theorem aeqF_run {f : TypeId → Value → Value → Option Bool} {d : Nat}
    (hf : ∀ (t : TypeId) (x y : Value) (b : Bool), f t x y = some b → ∀ {x' y' : Value}, VRel μ n x x' → VRel μ n y y' → (Op.equalIn d t x' y').run P w = .ok b w)
    {xs ys : List Value} {xs' ys' : Array Value} (hx : LRel μ n xs xs'.toList) (hy : LRel μ n ys ys'.toList) :
    ∀ (fs : List Field) (b : Bool), aeqF P f xs ys fs = some b → (Op.eqFields d xs' ys' fs).run P w = .ok b w := by
  intro fs
  induction fs with
  | nil => intro b h; cases h; rfl
  | cons fd fs ih =>
    intro b h
    unfold aeqF at h
    unfold Op.eqFields
    split at h
    · rename_i hn
      rw [if_neg (by simpa using hn)]
      exact ih b h
    · rename_i hn
      rw [if_pos hn]
      split at h
      · rename_i a ha
        split at h
        · rename_i c hc
          obtain ⟨a', ra, va⟩ := partA_run (P := P) (w := w) ha hx
          obtain ⟨c', rc, vc⟩ := partA_run (P := P) (w := w) hc hy
          split at h
          · rename_i he
            simp only [Sem.run_bind, ra, rc, Result.andThen_ok, hf _ _ _ _ he va vc]
            exact ih b h
          · rename_i he
            cases h
            simp only [Sem.run_bind, ra, rc, Result.andThen_ok, hf _ _ _ _ he va vc]
            rfl
          · cases h
        · cases h
      · cases h

theorem fieldsOf_eq {t : TypeId} {fs : Array Field} (h : P.underlying t = some (.struct fs)) : P.fieldsOf t = fs := by
  simp [Program.fieldsOf, h]

set_option maxHeartbeats 1600000 in
theorem aeqD_run : ∀ (d : Nat) (t : TypeId) (x y : Value) (b : Bool), aeqD P d t x y = some b → ∀ {x' y' : Value}, VRel μ n x x' → VRel μ n y y' → (Op.equalIn d t x' y').run P w = .ok b w := by
  intro d
  induction d with
  | zero => intro t x y b h; cases h
  | succ d ih =>
    intro t x y b h x' y' hx hy
    unfold aeqD at h
    split at h
    case h_1 hu =>
      split at h
      · cases h; rw [hx.bool, hy.bool]; simp [Op.equalIn, run_underlying hu]
      · cases h
    case h_2 hu =>
      split at h
      · split at h
        · rename_i hk
          subst hk
          cases h; rw [hx.int, hy.int]; simp [Op.equalIn, run_underlying hu]
        · cases h
      · cases h
    case h_3 hu =>
      split at h
      · cases h; rw [hx.string, hy.string]; simp [Op.equalIn, run_underlying hu, beq_bytes]
      · cases h
    case h_4 hu =>
      split at h
      · rename_i b'
        cases h
        rw [hx.nilPointer]
        cases b' with
        | none => rw [hy.nilPointer]; simp [Op.equalIn, run_underlying hu]
        | some a =>
          cases hy with
          | plain v hv => simp [plain1] at hv
          | ptr b o hb => simp [Op.equalIn, run_underlying hu]
      · cases h
        rw [hy.nilPointer]
        cases hx with
        | plain v hv => simp [plain1] at hv
        | ptr b o hb => simp [Op.equalIn, run_underlying hu]
      · cases h
    case h_5 hu =>
      split at h
      · rename_i b' _ _
        cases h
        rw [hx.nilSlice.1]
        cases b' with
        | none => rw [hy.nilSlice.1]; simp [Op.equalIn, run_underlying hu]
        | some a =>
          cases hy with
          | plain v hv => simp [plain1] at hv
          | slc b o l c hb => simp [Op.equalIn, run_underlying hu]
          | slc0 b o o' hb => simp [Op.equalIn, run_underlying hu]
      · cases h
        rw [hy.nilSlice.1]
        cases hx with
        | plain v hv => simp [plain1] at hv
        | slc b o l c hb => simp [Op.equalIn, run_underlying hu]
        | slc0 b o o' hb => simp [Op.equalIn, run_underlying hu]
      · rename_i s l off ex cs _ _
        cases hs : Nat.beq s 4294967296 with
        | false => rw [hs] at h; cases h
        | true =>
          rw [hs] at h
          cases hl : Nat.beq l 0 with
          | true => rw [hl] at h; cases h
          | false =>
            rw [hl] at h
            cases h
            have e := Nat.eq_of_beq_eq_true hs
            subst e
            have hl0 : l ≠ 0 := fun e => by subst e; cases hl
            obtain ⟨a, cap, B, o, C, rfl, _, _, _, _, h5, _⟩ := VRel.gslI (show VRel μ n (gslV l off ex cs) x' from hx)
            rw [hy.nilSlice.1, (h5 hl0).1]
            simp [Op.equalIn, run_underlying hu]
      · cases h
    case h_6 hu =>
      split at h
      · rename_i b'
        cases h
        rw [hx.nilMap]
        cases b' with
        | none => rw [hy.nilMap]; simp [Op.equalIn, run_underlying hu]
        | some a => rw [hy.mapI.2]; simp [Op.equalIn, run_underlying hu]
      · cases h
        rw [hy.nilMap, hx.mapI.2]
        simp [Op.equalIn, run_underlying hu]
      · cases h
    case h_7 hu =>
      split at h
      · cases h; rw [hx.nilFunc, hy.nilFunc]; simp [Op.equalIn, run_underlying hu]
      · cases h
        obtain ⟨f', a', e, _⟩ := hy.funcI
        rw [hx.nilFunc, e]; simp [Op.equalIn, run_underlying hu]
      · cases h
        obtain ⟨f', a', e, _⟩ := hx.funcI
        rw [hy.nilFunc, e]; simp [Op.equalIn, run_underlying hu]
      · cases h
    case h_8 hu =>
      split at h
      · cases h; rw [hx.nilIface, hy.nilIface]; simp [Op.equalIn, run_underlying hu]
      · rename_i t' _
        cases ht : Nat.ble gT t' with
        | true => rw [ht] at h; cases h
        | false =>
        rw [ht] at h
        cases h
        obtain ⟨v', e, _⟩ := hy.ifaceI ht
        rw [hx.nilIface, e]; simp [Op.equalIn, run_underlying hu]
      · rename_i t' _
        cases ht : Nat.ble gT t' with
        | true => rw [ht] at h; cases h
        | false =>
        rw [ht] at h
        cases h
        obtain ⟨v', e, _⟩ := hx.ifaceI ht
        rw [hy.nilIface, e]; simp [Op.equalIn, run_underlying hu]
      · cases h
    case h_9 fs hu =>
      split at h
      · rename_i xs ys
        obtain ⟨xs', e1, r1⟩ := hx.aggI
        obtain ⟨ys', e2, r2⟩ := hy.aggI
        subst e1 e2
        cases hs : P.stoodInHeld t with
        | true => rw [hs] at h; cases h
        | false =>
          rw [hs] at h
          have hfs := fieldsOf_eq hu
          rw [run_equalIn_struct w d t xs' ys' (by rw [hfs]; exact hu) hs, hfs]
          exact aeqF_run (fun t x y b hb x' y' hx hy => ih t x y b hb hx hy) r1 r2 fs.toList b h
      · cases h
    case h_10 => cases h

end Go.Proofs.YtachednafdmmaaaDoor.AI
