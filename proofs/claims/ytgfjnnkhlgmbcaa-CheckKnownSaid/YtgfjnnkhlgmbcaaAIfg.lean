/- The abstract interpreter, fast runs: every operation. -/
import Derived.Test.YtgfjnnkhlgmbcaaAIff
namespace Go.Proofs.Ytgfjnnkhlgmbcaa.AI
open Go
set_option linter.unusedVariables false
set_option linter.unusedSimpArgs false

variable {P : Program} {gl : Nat → Option Nat}

theorem intA_add (kd : IntKind) (m n : Int) : intA .add kd m n = some (.int kd (kd.wrap (m + n))) := rfl
theorem intA_sub (kd : IntKind) (m n : Int) : intA .sub kd m n = some (.int kd (kd.wrap (m - n))) := rfl
theorem intA_eql (kd : IntKind) (m n : Int) : intA .eql kd m n = some (.bool (m == n)) := rfl
theorem intA_neq (kd : IntKind) (m n : Int) : intA .neq kd m n = some (.bool (m != n)) := rfl
theorem intA_lss (kd : IntKind) (m n : Int) : intA .lss kd m n = some (.bool (decide (m < n))) := rfl
theorem intA_leq (kd : IntKind) (m n : Int) : intA .leq kd m n = some (.bool (decide (m ≤ n))) := rfl
theorem intA_gtr (kd : IntKind) (m n : Int) : intA .gtr kd m n = some (.bool (decide (m > n))) := rfl
theorem intA_geq (kd : IntKind) (m n : Int) : intA .geq kd m n = some (.bool (decide (m ≥ n))) := rfl

theorem tf_val {b c : Bool} {k : KV} {f : FH} {r : Value} (h : tfK b (k (.bool c) f) (k (.bool (!c)) f) = some r) : k (.bool (b == c)) f = some r := by
  cases b <;> cases c <;> exact h

theorem comp_bin {b : BinOp} {t ty : TypeId} {x y : Operand} {kd : IntKind} {fo : FOp} (hu : P.underlying t = some (.int kd)) (hc : compOp P gl (.binOp b t x y ty) = some fo) : OpSim P gl (.binOp b t x y ty) fo := by
  unfold compOp at hc; dsimp only at hc; rw [hu] at hc; dsimp only at hc
  cases b
  case add =>
    obtain ⟨a, c, ha, hb, rfl⟩ := un2_some hc
    exact sim_bin (g := fun k f kd a b => forceI (kd.wrap (a + b)) fun i => k (.int kd i) f) ha hb ⟨(fun e => by cases e), (fun e => by cases e)⟩ (fun _ _ _ _ => rfl) fun k f kd m n r h => ⟨_, intA_add _ _ _, by rw [forceI_eq] at h; exact h⟩
  case sub =>
    obtain ⟨a, c, ha, hb, rfl⟩ := un2_some hc
    exact sim_bin (g := fun k f kd a b => forceI (kd.wrap (a - b)) fun i => k (.int kd i) f) ha hb ⟨(fun e => by cases e), (fun e => by cases e)⟩ (fun _ _ _ _ => rfl) fun k f kd m n r h => ⟨_, intA_sub _ _ _, by rw [forceI_eq] at h; exact h⟩
  case eql =>
    obtain ⟨a, c, ha, hb, rfl⟩ := un2_some hc
    exact sim_bin (g := fun k f _ a b => tfK (eqI a b) (k (.bool true) f) (k (.bool false) f)) ha hb ⟨(fun e => by cases e), (fun e => by cases e)⟩ (fun _ _ _ _ => rfl) fun k f kd m n r h => ⟨_, intA_eql _ _ _, by
      have := tf_val (c := true) h; rw [eqI_eq] at this; simpa using this⟩
  case neq =>
    obtain ⟨a, c, ha, hb, rfl⟩ := un2_some hc
    exact sim_bin (g := fun k f _ a b => tfK (eqI a b) (k (.bool false) f) (k (.bool true) f)) ha hb ⟨(fun e => by cases e), (fun e => by cases e)⟩ (fun _ _ _ _ => rfl) fun k f kd m n r h => ⟨_, intA_neq _ _ _, by
      have := tf_val (c := false) h; rw [eqI_eq] at this; simpa [bne] using this⟩
  case lss =>
    obtain ⟨a, c, ha, hb, rfl⟩ := un2_some hc
    exact sim_bin (g := fun k f _ a b => tfK (leI b a) (k (.bool false) f) (k (.bool true) f)) ha hb ⟨(fun e => by cases e), (fun e => by cases e)⟩ (fun _ _ _ _ => rfl) fun k f kd m n r h => ⟨_, intA_lss _ _ _, by
      have := tf_val (c := false) h; rw [leI_eq] at this
      have e : (decide (n ≤ m) == false) = decide (m < n) := by
        by_cases h : n ≤ m
        · rw [decide_eq_true h, decide_eq_false (by omega)]; rfl
        · rw [decide_eq_false h, decide_eq_true (by omega)]; rfl
      rw [e] at this; exact this⟩
  case leq =>
    obtain ⟨a, c, ha, hb, rfl⟩ := un2_some hc
    exact sim_bin (g := fun k f _ a b => tfK (leI a b) (k (.bool true) f) (k (.bool false) f)) ha hb ⟨(fun e => by cases e), (fun e => by cases e)⟩ (fun _ _ _ _ => rfl) fun k f kd m n r h => ⟨_, intA_leq _ _ _, by
      have := tf_val (c := true) h; rw [leI_eq] at this
      have e : (decide (m ≤ n) == true) = decide (m ≤ n) := by cases decide (m ≤ n) <;> rfl
      rw [e] at this; exact this⟩
  case gtr =>
    obtain ⟨a, c, ha, hb, rfl⟩ := un2_some hc
    exact sim_binR (g := fun k f _ a b => tfK (leI b a) (k (.bool false) f) (k (.bool true) f)) ha hb ⟨(fun e => by cases e), (fun e => by cases e)⟩ (fun _ _ _ _ => rfl) fun k f kd m n r h => ⟨_, intA_gtr _ _ _, by
      have := tf_val (c := false) h; rw [leI_eq] at this
      have e : (decide (n ≤ m) == false) = decide (n > m) := by
        by_cases h : n ≤ m
        · rw [decide_eq_true h, decide_eq_false (by omega)]; rfl
        · rw [decide_eq_false h, decide_eq_true (by omega)]; rfl
      rw [e] at this; exact this⟩
  case geq =>
    obtain ⟨a, c, ha, hb, rfl⟩ := un2_some hc
    exact sim_binR (g := fun k f _ a b => tfK (leI a b) (k (.bool true) f) (k (.bool false) f)) ha hb ⟨(fun e => by cases e), (fun e => by cases e)⟩ (fun _ _ _ _ => rfl) fun k f kd m n r h => ⟨_, intA_geq _ _ _, by
      have := tf_val (c := true) h; rw [leI_eq] at this
      have e : (decide (m ≤ n) == true) = decide (n ≥ m) := by
        show (decide (m ≤ n) == true) = decide (m ≤ n)
        cases decide (m ≤ n) <;> rfl
      rw [e] at this; exact this⟩
  all_goals exact sim_slow hc

theorem comp_str {b : BinOp} {t ty : TypeId} {x y : Operand} {fo : FOp} (hu : P.underlying t = some .string) (hc : compOp P gl (.binOp b t x y ty) = some fo) : OpSim P gl (.binOp b t x y ty) fo := by
  unfold compOp at hc; dsimp only at hc; rw [hu] at hc; dsimp only at hc
  cases b
  case eql =>
    obtain ⟨a, c, ha, hb, rfl⟩ := un2_some hc
    exact sim_str (g := fun k f a b => tfK (eqU a b) (k (.bool true) f) (k (.bool false) f)) ha hb (fun _ _ _ _ => rfl) fun k f l m r h => ⟨_, rfl, by
      have := tf_val (c := true) h; rw [eqU_eq] at this
      have e : ((l == m) == true) = (l == m) := by cases l == m <;> rfl
      rw [e] at this; exact this⟩
  case neq =>
    obtain ⟨a, c, ha, hb, rfl⟩ := un2_some hc
    exact sim_str (g := fun k f a b => tfK (eqU a b) (k (.bool false) f) (k (.bool true) f)) ha hb (fun _ _ _ _ => rfl) fun k f l m r h => ⟨_, rfl, by
      have := tf_val (c := false) h; rw [eqU_eq] at this
      have e : ((l == m) == false) = !(l == m) := by cases l == m <;> rfl
      rw [e] at this; exact this⟩
  all_goals exact sim_slow hc

theorem comp_call {c : Call} {fo : FOp} (hc : compOp P gl (.call c) = some fo) : OpSim P gl (.call c) fo := by
  obtain ⟨callee, args, ts⟩ := c
  cases callee with
  | value fx =>
    have hv : (match compArg gl fx with
        | some a => match compArgs gl args.toList with
          | some l => some (FOp.callV a l)
          | none => none
        | none => none) = some fo → OpSim P gl (.call ⟨.value fx, args, ts⟩) fo := by
      intro hc
      split at hc
      · rename_i a ha
        split at hc
        · rename_i l hl; cases hc; exact sim_callV ha hl
        · cases hc
      · cases hc
    cases fx with
    | func g =>
      unfold compOp at hc; dsimp only at hc
      split at hc
      · rename_i l hl; cases hc; exact sim_callF hl
      · cases hc
    | tmp t => exact hv hc
    | const v => exact hv hc
    | global g => exact hv hc
  | invoke r m => exact sim_slow hc
  | builtin b =>
    cases b
    case len =>
      unfold compOp at hc; dsimp only at hc
      split at hc
      · rename_i x hx
        split at hc
        · rename_i t ts' ht
          split at hc
          · rename_i hu; exact sim_lenS hx ht hu hc
          · rename_i e hu; exact sim_lenL hx ht hu hc
          · exact sim_slow hc
        · cases hc
      · cases hc
    case append =>
      unfold compOp at hc; dsimp only at hc
      split at hc
      · rename_i s x hx
        split at hc
        · rename_i tS tX ts' ht
          split at hc
          · rename_i e hu
            split at hc
            · rename_i i hi
              split at hc
              · rename_i eX hX
                split at hc
                · rename_i zv hz
                  cases hok : Nat.ble i.bytes 32768 && Nat.beq zv.cells.toList.length i.size && !Nat.beq i.size 0 with
                  | false => rw [hok] at hc; cases hc
                  | true => rw [hok] at hc; exact sim_apd hx ht hu hi hX hz hok hc
                · cases hc
              · cases hc
            · cases hc
          · cases hc
        · cases hc
      · cases hc
    all_goals exact sim_slow hc

theorem comp_sim {op : Op} {fo : FOp} (hc : compOp P gl op = some fo) : OpSim P gl op fo := by
  cases op
  case move x => exact sim_mv (.inl rfl) hc
  case assign x => exact sim_mv (.inr rfl) hc
  case nilCheck x => exact sim_nilc hc
  case load t a =>
    unfold compOp at hc; dsimp only at hc
    split at hc
    · rename_i ha
      split at hc
      · rename_i n hn; exact sim_loadN ha hn hc
      · cases hc
    · rename_i ha; exact sim_load1 ha hc
    · cases hc
  case store t a x =>
    unfold compOp at hc; dsimp only at hc
    split at hc
    · split at hc
      · rename_i n hn; exact sim_storeN hn hc
      · cases hc
    · split at hc
      · rename_i n hn
        cases hb : Nat.beq n 1 with
        | false => rw [hb] at hc; cases hc
        | true => rw [hb] at hc; rw [Nat.eq_of_beq_eq_true hb] at hn; exact sim_store1 hn hc
      · cases hc
    · cases hc
  case fieldAddr t x i =>
    unfold compOp at hc; dsimp only at hc
    split at hc
    · rename_i fs hfs
      split at hc
      · rename_i fd hf
        split at hc
        · rename_i n hn
          cases hb : Nat.beq n 0 with
          | true => rw [hb] at hc; cases hc
          | false => rw [hb] at hc; exact sim_faddr hfs hf hn hb hc
        · cases hc
      · cases hc
    · cases hc
  case field t x i =>
    have h0 := hc
    unfold compOp at hc; dsimp only at hc
    split at hc
    · rename_i fs hfs
      split at hc
      · rename_i fd hf
        split at hc
        · rename_i ha; exact sim_fld1 hfs hf ha hc
        · exact sim_slow hc
        · cases hc
      · cases hc
    · cases hc
  case indexAddr t x i =>
    unfold compOp at hc; dsimp only at hc
    split at hc
    · rename_i e hu
      split at hc
      · rename_i z hz; exact sim_iaS hu hz hc
      · cases hc
    · exact sim_slow hc
  case index t x i =>
    unfold compOp at hc; dsimp only at hc
    split at hc
    · rename_i hu; exact sim_ixS hu hc
    · exact sim_slow hc
  case binOp b t x y ty =>
    cases hu : P.underlying t with
    | none => unfold compOp at hc; dsimp only at hc; rw [hu] at hc; dsimp only at hc; exact sim_slow hc
    | some d =>
      cases d
      case int kd => exact comp_bin hu hc
      case string => exact comp_str hu hc
      all_goals (unfold compOp at hc; dsimp only at hc; rw [hu] at hc; dsimp only at hc; exact sim_slow hc)
  case unOp u t x =>
    cases u
    case not => exact sim_not hc
    all_goals exact sim_slow hc
  case extract x i => exact sim_extr hc
  case makeFunc fn first cap =>
    unfold compOp at hc; dsimp only at hc
    split at hc
    · rename_i a ha
      split at hc
      · rename_i b hb; cases hc; exact sim_mkF ha hb
      · cases hc
    · cases hc
  case alloc t =>
    unfold compOp at hc; dsimp only at hc
    split at hc
    · rename_i z hz; cases hc; exact sim_alloc hz
    · cases hc
  case box t x =>
    unfold compOp at hc; dsimp only at hc
    split at hc
    · exact sim_box hc
    · cases hc
  case build t ps =>
    unfold compOp at hc; dsimp only at hc
    split at hc
    · rename_i fs hu
      split at hc
      · rename_i z hz
        cases hall : allSz P fs.toList with
        | false => rw [hall] at hc; cases hc
        | true =>
          rw [hall] at hc
          simp only [cond_true] at hc
          split at hc
          · rename_i l hl; cases hc; exact sim_build hu hz hall hl
          · cases hc
      · cases hc
    · exact sim_slow hc
  case buildSlice t len ps =>
    unfold compOp at hc; dsimp only at hc
    split at hc
    · rename_i e hu
      split at hc
      · rename_i z hz
        split at hc
        · rename_i zv hzv
          cases hok : Nat.ble (len * z) 16777216 && Nat.beq ps.toList.length len && Nat.beq zv.cells.toList.length z with
          | false => rw [hok] at hc; exact sim_slow hc
          | true =>
            rw [hok] at hc
            simp only [cond_true] at hc
            split at hc
            · rename_i l hl; cases hc; exact sim_bsl hu hz hzv hok hl
            · cases hc
        · cases hc
      · cases hc
    · cases hc
  case slice t x lo hi mx =>
    unfold compOp at hc; dsimp only at hc
    split at hc
    · exact sim_slow hc
    · split at hc
      · rename_i hu
        split at hc
        · rename_i a ha
          split at hc
          · rename_i l hl
            split at hc
            · rename_i u hu'; cases hc; exact sim_ssl hu ha hl hu'
            · cases hc
          · cases hc
        · cases hc
      · exact sim_slow hc
  case convert s d x =>
    unfold compOp at hc; dsimp only at hc
    split at hc
    · rename_i hs
      split at hc
      · rename_i hd; exact sim_s2s hs hd hc
      · rename_i e hd
        cases h8 : isU8 P e with
        | false => rw [h8] at hc; cases hc
        | true => rw [h8] at hc; exact sim_s2b hs hd h8 hc
      · exact sim_slow hc
    · exact sim_slow hc
  case call c => exact comp_call hc
  case makeSlice t l c =>
    unfold compOp at hc; dsimp only at hc
    split at hc
    · rename_i e hu
      split at hc
      · rename_i i hi
        split at hc
        · rename_i zv hz
          cases hok : Nat.ble i.bytes 65536 && Nat.beq zv.cells.toList.length i.size with
          | false => rw [hok] at hc; cases hc
          | true => rw [hok] at hc; exact sim_mks hu hi hz hok hc
        · cases hc
      · cases hc
    · cases hc
  case makeMap t n =>
    cases n with
    | none => cases hc; exact sim_mkM
    | some x => exact sim_slow hc
  case lookup t x i ok =>
    unfold compOp at hc; dsimp only at hc
    split at hc
    · rename_i kt e hu
      split at hc
      · rename_i hk
        split at hc
        · rename_i z hz; exact sim_look hu hk hz hc
        · cases hc
      · cases hc
    · cases hc
  case mapUpdate t x i y =>
    unfold compOp at hc; dsimp only at hc
    split at hc
    · rename_i kt e hu
      split at hc
      · rename_i hk
        split at hc
        · rename_i c hy; exact sim_mput hu hk hy hc
        · cases hc
      · cases hc
    · cases hc
  case defer c => cases hc
  all_goals exact sim_slow hc

end Go.Proofs.Ytgfjnnkhlgmbcaa.AI
