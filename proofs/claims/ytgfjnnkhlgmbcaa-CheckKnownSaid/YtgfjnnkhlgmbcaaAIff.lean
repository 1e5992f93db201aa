/- The abstract interpreter, fast runs: operations that make rows, and calls. -/
import Derived.Test.YtgfjnnkhlgmbcaaAIfe
namespace Go.Proofs.Ytgfjnnkhlgmbcaa.AI
open Go
set_option linter.unusedVariables false
set_option linter.unusedSimpArgs false

variable {P : Program} {gl : Nat → Option Nat} {T : TT} {S : Tr Value} {f : FH} {h : AH} {ck : CallK} {ca : CallA} {r : Value}

theorem fillK_some (hT : SimT T S) {place : Nat → Option (Nat × Nat)} : ∀ {ps : List (Nat × Operand)} {as : List (Nat × Nat × FArg)} {cs : List Value} {k : List Value → O1}, compParts gl place ps = some as → fillK as T cs k = some r →
    ∃ l cs', evP (evA gl S) ps = some l ∧ fillA place cs l = some cs' ∧ k cs' = some r := by
  intro ps
  induction ps with
  | nil => intro as cs k hc hr; cases hc; exact ⟨[], cs, rfl, rfl, hr⟩
  | cons p ps ih =>
    intro as cs k hc hr
    obtain ⟨i, x⟩ := p
    simp only [compParts] at hc
    split at hc
    · rename_i off n hp
      split at hc
      · rename_i a ha
        split at hc
        · rename_i l hl
          cases hc
          have hr : evF a T (fun v => cellsK v n fun vs => spliceK off vs cs fun cs' => fillK l T cs' k) = some r := hr
          have q := evF_some ha hT hr
          clear hr
          obtain ⟨v, h1, hr⟩ := q
          have q := cellsK_some hr
          clear hr
          obtain ⟨h2, hr⟩ := q
          have q := spliceK_some hr
          clear hr
          obtain ⟨h3, hr⟩ := q
          have q := ih hl hr
          clear hr
          obtain ⟨l', cs', h4, h5, hr⟩ := q
          refine ⟨(i, v) :: l', cs', by simp only [evP, h1, h4], ?_, hr⟩
          rw [h2] at h3
          simp only [fillA, hp, h2, Nat.beq_refl, Nat.ble_eq_true_of_le h3, Bool.and_self, cond_true, h5]
        · cases hc
      · cases hc
    · cases hc

theorem sim_build {t : TypeId} {ps : Array (Nat × Operand)} {fs : Array Field} {z : Value} {as : List (Nat × Nat × FArg)} (hu : P.underlying t = some (.struct fs)) (hz : zeroA P t = some z) (hall : allSz P fs.toList = true)
    (hc : compParts gl (placeF P fs.toList) ps.toList = some as) : OpSim P gl (.build t ps) (.build z.cells.toList as) := by
  intro T S f h ck ca k r hT hh hcs hr
  have hr : fillK as T z.cells.toList (fun cs => k (.agg ⟨cs⟩) f) = some r := hr
  have q := fillK_some hT hc hr
  clear hr
  obtain ⟨l, cs, h1, h2, hr⟩ := q
  refine ⟨_, h, f, ?_, hh, hr⟩
  rw [stepV_no rfl]
  simp only [stepO, opA, h1, buildA, hz, hu, hall, cond_true, h2]

theorem sim_box {t : TypeId} {x : Operand} {n : Nat} {fo : FOp} (hc : un1 (fun a => .box a n) (compArg gl x) = some fo) : OpSim P gl (.box t x) fo := by
  intro T S f h ck ca k r hT hh hcs hr
  obtain ⟨a, ha, rfl⟩ := un1_some hc
  have hr : evF a T (fun v => cellsK v n fun cs => addK f (.row false 1 cs) fun b h' => k (.pointer (some ⟨b, 0, none⟩)) h') = some r := hr
  have q := evF_some ha hT hr
  clear hr
  obtain ⟨v, hv, hr⟩ := q
  have q := cellsK_some hr
  clear hr
  obtain ⟨h2, hr⟩ := q
  have q := addK_some hh hr
  clear hr
  obtain ⟨f', hh', hr⟩ := q
  exact ⟨_, _, f', by rw [stepV_no rfl]; simp only [stepO, opA, hv], hh', hr⟩

theorem rowsK_some (hT : SimT T S) {z : Nat} : ∀ {ps : List (Nat × Operand)} {as : List FArg} {k0 : Nat} {k : List Value → O1}, compRow gl k0 ps = some as → rowsK z as T k = some r →
    ∃ l, evP (evA gl S) ps = some l ∧ l.map (·.1) = List.range' k0 ps.length ∧ (∀ p ∈ l, p.2.cells.toList.length = z) ∧ k (l.flatMap fun p => p.2.cells.toList) = some r := by
  intro ps
  induction ps with
  | nil => intro as k0 k hc hr; cases hc; exact ⟨[], rfl, rfl, (fun p hp => by cases hp), hr⟩
  | cons p ps ih =>
    intro as k0 k hc hr
    obtain ⟨i, x⟩ := p
    simp only [compRow] at hc
    cases hb : Nat.beq i k0 with
    | false => rw [hb] at hc; cases hc
    | true =>
      rw [hb] at hc
      simp only [cond_true] at hc
      have hi := Nat.eq_of_beq_eq_true hb
      subst hi
      split at hc
      · rename_i a ha
        split at hc
        · rename_i l hl
          cases hc
          have hr : evF a T (fun v => cellsK v z fun vs => rowsK z l T fun r => catK vs r k) = some r := hr
          have q := evF_some ha hT hr
          clear hr
          obtain ⟨v, h1, hr⟩ := q
          have q := cellsK_some hr
          clear hr
          obtain ⟨h2, hr⟩ := q
          have q := ih hl hr
          clear hr
          obtain ⟨l', h3, h4, h5, hr⟩ := q
          rw [catK_eq] at hr
          refine ⟨(i, v) :: l', by simp only [evP, h1, h3], ?_, ?_, hr⟩
          · simp only [List.map_cons, h4, List.length_cons, List.range'_succ]
          · intro p hp
            rcases List.mem_cons.1 hp with rfl | hp
            · exact h2
            · exact h5 p hp
        · cases hc
      · cases hc

theorem fill_row {n : Nat} : ∀ (l : List (Nat × Value)) (k : Nat) (pre rest : List Value), l.map (·.1) = List.range' k l.length → (∀ p ∈ l, p.2.cells.toList.length = n) → pre.length = k * n → rest.length = l.length * n →
    fillA (fun i => some (i * n, n)) (pre ++ rest) l = some (pre ++ l.flatMap fun p => p.2.cells.toList) := by
  intro l
  induction l with
  | nil =>
    intro k pre rest _ _ _ hr
    simp only [List.length_nil, Nat.zero_mul] at hr
    rw [List.eq_nil_of_length_eq_zero hr]
    rfl
  | cons p l ih =>
    intro k pre rest hm hc hp hr
    obtain ⟨i, v⟩ := p
    simp only [List.map_cons, List.length_cons, List.range'_succ, List.cons.injEq] at hm
    obtain ⟨rfl, hm⟩ := hm
    have hv := hc (i, v) (by simp)
    dsimp only at hv
    rw [List.length_cons, Nat.succ_mul] at hr
    simp only [fillA, hv, Nat.beq_refl, Bool.true_and]
    rw [Nat.ble_eq_true_of_le (by rw [List.length_append]; omega)]
    simp only [cond_true]
    have e : splice (pre ++ rest) (i * n) v.cells.toList = (pre ++ v.cells.toList) ++ rest.drop n := by
      unfold splice
      rw [← hp, List.take_left, hv, List.append_assoc]
      congr 2
      rw [List.drop_append, List.drop_eq_nil_of_le (by omega), List.nil_append]
      congr 1
      omega
    rw [e, ih (i + 1) _ _ hm (fun p hp => hc p (by simp [hp])) (by rw [List.length_append, hp, hv, Nat.succ_mul]) (by rw [List.length_drop]; omega)]
    simp only [List.flatMap_cons, List.append_assoc]

theorem repA_len (n : Nat) (z : List Value) : (repA n z).length = n * z.length := by
  unfold repA
  induction n with
  | zero => simp
  | succ n ih => rw [List.replicate_succ, List.flatten_cons, List.length_append, ih, Nat.succ_mul, Nat.add_comm]

theorem evP_len {ev : Operand → Option Value} : ∀ {ps : List (Nat × Operand)} {l : List (Nat × Value)}, evP ev ps = some l → l.length = ps.length := by
  intro ps
  induction ps with
  | nil => intro l h; cases h; rfl
  | cons p ps ih =>
    intro l h
    simp only [evP] at h
    split at h
    · split at h
      · rename_i vs hvs; cases h; rw [List.length_cons, List.length_cons, ih hvs]
      · cases h
    · cases h

theorem sim_bsl {t e : TypeId} {len z : Nat} {ps : Array (Nat × Operand)} {zv : Value} {as : List FArg} (hu : P.underlying t = some (.slice e)) (hz : szT P e = some z) (hzv : zeroA P e = some zv)
    (hle : (Nat.ble (len * z) 16777216 && Nat.beq ps.toList.length len && Nat.beq zv.cells.toList.length z) = true) (hc : compRow gl 0 ps.toList = some as) : OpSim P gl (.buildSlice t len ps) (.bsl len z as) := by
  intro T S f h ck ca k r hT hh hcs hr
  simp only [Bool.and_eq_true] at hle
  obtain ⟨⟨hle1, hle2⟩, hle3⟩ := hle
  have hl2 := Nat.eq_of_beq_eq_true hle2
  have hl3 := Nat.eq_of_beq_eq_true hle3
  have hr : rowsK z as T (fun cs => addK f (.row false z cs) fun b h' => k (.slice (some ⟨b, 0, none⟩) len 0) h') = some r := hr
  have q := rowsK_some hT hc hr
  clear hr
  obtain ⟨l, h1, h2, h3, hr⟩ := q
  have q := addK_some hh hr
  clear hr
  obtain ⟨f', hh', hr⟩ := q
  refine ⟨_, _, f', ?_, hh', hr⟩
  rw [stepV_no rfl]
  have hl := evP_len h1
  have e := fill_row (n := z) l 0 [] (repA len zv.cells.toList) (by rw [h2, hl]) h3 (by simp) (by rw [repA_len, hl, hl2, hl3])
  rw [List.nil_append] at e
  simp only [stepO, opA, h1, buildSliceA, hu, hz, hle1, cond_true, hzv, hle3, e]
  rfl

theorem bnd_nat (kd : IntKind) (n d : Nat) : bnd (some (.int kd (.ofNat n))) d = some n := by
  show (if (0 : Int) ≤ Int.ofNat n then some (Int.ofNat n).toNat else none) = some n
  rw [if_pos (by show (0 : Int) ≤ (n : Int); omega)]
  rfl

theorem bndF_some {x : Option Operand} {o : Option FArg} {d : Nat} {k : Nat → O1} (hc : optArg (compArg gl) x = some o) (hT : SimT T S) (hr : bndF o d T k = some r) : ∃ u n, evO (evA gl S) x = some u ∧ bnd u d = some n ∧ k n = some r := by
  cases x with
  | none => cases hc; exact ⟨none, d, rfl, rfl, hr⟩
  | some x =>
    simp only [optArg] at hc
    split at hc
    · rename_i a ha
      cases hc
      have hr : evF a T (fun v => natK v k) = some r := hr
      have q := evF_some ha hT hr
      clear hr
      obtain ⟨v, hv, hr⟩ := q
      have q := natK_some hr
      clear hr
      obtain ⟨kd, n, rfl, hr⟩ := q
      refine ⟨some (.int kd (.ofNat n)), n, by simp only [evO, hv], ?_, hr⟩
      exact bnd_nat kd n d
    · cases hc

theorem sim_ssl {t : TypeId} {x : Operand} {lo hi : Option Operand} {a : FArg} {l u : Option FArg} (hu : P.underlying t = some .string) (ha : compArg gl x = some a) (hl : optArg (compArg gl) lo = some l) (hhi : optArg (compArg gl) hi = some u) :
    OpSim P gl (.slice t x lo hi none) (.ssl a l u) := by
  intro T S f h ck ca k r hT hh hcs hr
  have hr : pSsl a l u T f ck k = some r := hr
  unfold pSsl at hr
  have q := evF_some ha hT hr
  clear hr
  obtain ⟨v, hv, hr⟩ := q
  have q := strK_some hr
  clear hr
  obtain ⟨s, rfl, hr⟩ := q
  have q := bndF_some hl hT hr
  clear hr
  obtain ⟨lv, n, h1, h2, hr⟩ := q
  have key : ∃ hv' m, evO (evA gl S) hi = some hv' ∧ bnd hv' s.length = some m ∧ n ≤ m ∧ m ≤ s.length ∧ k (.string ⟨⟨(s.drop n).take (m - n)⟩⟩) f = some r := by
    cases hi with
    | none =>
      cases hhi
      have hr : dropK n s (fun l' => k (.string ⟨⟨l'⟩⟩) f) = some r := hr
      have q := dropK_some hr
      clear hr
      obtain ⟨h3, hr⟩ := q
      refine ⟨none, s.length, rfl, rfl, h3, Nat.le_refl _, ?_⟩
      rw [List.take_of_length_le (by rw [List.length_drop]; omega)]
      exact hr
    | some y =>
      have hb := hhi
      simp only [optArg] at hhi
      split at hhi
      · rename_i b hb'
        cases hhi
        have hr : evF b T (fun u => natK u fun b => condK (Nat.ble n b) (dropK n s fun l1 => takeK (Nat.sub b n) l1 fun l' => k (.string ⟨⟨l'⟩⟩) f)) = some r := hr
        have q := evF_some hb' hT hr
        clear hr
        obtain ⟨w, hw, hr⟩ := q
        have q := natK_some hr
        clear hr
        obtain ⟨kd, m, rfl, hr⟩ := q
        have q := condK_some hr
        clear hr
        obtain ⟨h3, hr⟩ := q
        have q := dropK_some hr
        clear hr
        obtain ⟨h4, hr⟩ := q
        have q := takeK_some hr
        clear hr
        obtain ⟨h5, hr⟩ := q
        have h3 := Nat.le_of_ble_eq_true h3
        have h5 : m - n ≤ (s.drop n).length := h5
        rw [List.length_drop] at h5
        refine ⟨some (.int kd (.ofNat m)), m, by simp only [evO, hw], ?_, h3, by omega, hr⟩
        exact bnd_nat kd m _
      · cases hhi
  clear hr
  obtain ⟨hv', m, h3, h4, h5, h6, hr⟩ := key
  refine ⟨_, h, f, ?_, hh, hr⟩
  have hg : opG P (evA gl S) (.slice t x lo hi none) = .no := by simp only [opG, hv, asS_of (v := .string ⟨⟨s⟩⟩) (fun _ _ e => by cases e)]
  rw [stepV_no hg]
  have h0 : evO (evA gl S) none = some none := rfl
  simp only [stepO, opA, hv, h1, h3, h0, sliceA, hu, h2, h4, Option.isSome_none, cond_false, Nat.ble_eq_true_of_le h5, Nat.ble_eq_true_of_le h6, Bool.and_self, cond_true]

theorem srcF_some (hh : SimH f h) {z : Nat} {v : Value} {k : Nat → List Value → O1} (hr : srcF f z v k = some r) : ∃ n new, srcA h z v = some (n, new) ∧ k n new = some r := by
  unfold srcF at hr
  have q := slcK_some hr
  clear hr
  rcases q with ⟨n, c, rfl, hr⟩ | ⟨b, off, n, c, rfl, hr⟩
  · have q := condK_some hr
    clear hr
    obtain ⟨e, hr⟩ := q
    exact ⟨0, [], by simp only [srcA, e, cond_true], hr⟩
  · have q := gH_some hr
    clear hr
    obtain ⟨x, e1, hr⟩ := q
    have q := rowK_some hr
    clear hr
    obtain ⟨ro, z', cs, rfl, hr⟩ := q
    have q := dropK_some hr
    clear hr
    obtain ⟨e2, hr⟩ := q
    have q := takeK_some hr
    clear hr
    obtain ⟨e3, hr⟩ := q
    have e3 : n * z ≤ (cs.drop off).length := e3
    rw [List.length_drop] at e3
    refine ⟨n, _, ?_, hr⟩
    simp only [srcA, hh.2 b _ e1, readA_def, Nat.ble_eq_true_of_le (show off + n * z ≤ cs.length by omega), cond_true]
    rfl

theorem kill_sim (hh : SimH f h) {b : Nat} {m : QH} (e : ∀ c, QH.get m c = if c = b then none else QH.get f.m c) : SimH ⟨m, f.n⟩ (h.kill b) := by
  refine ⟨hh.1, fun c y hy => ?_⟩
  rw [e] at hy
  show (h.m.set b none).get c = some y
  rw [Tr.get_set]
  by_cases e : c = b
  · rw [if_pos e] at hy; cases hy
  · rw [if_neg e] at hy ⊢; exact hh.2 c y hy

theorem sim_apd {args : Array Operand} {aT : Array TypeId} {s x : Operand} {tS tX e eX : TypeId} {ts : List TypeId} {i : TypeInfo} {zv : Value} {fo : FOp} (hargs : args.toList = [s, x]) (hts : aT.toList = tS :: tX :: ts)
    (hu : P.underlying tS = some (.slice e)) (hi : P.info? e = some i) (hX : P.underlying tX = some (.slice eX)) (hz : zeroA P e = some zv) (hok : (Nat.ble i.bytes 32768 && Nat.beq zv.cells.toList.length i.size && !Nat.beq i.size 0) = true)
    (hc : un2 (fun a b => .apd a b i.size) (compArg gl s) (compArg gl x) = some fo) : OpSim P gl (.call ⟨.builtin .append, args, aT⟩) fo := by
  intro T S f h ck ca k r hT hh hcs hr
  obtain ⟨a, b, ha, hb, rfl⟩ := un2_some hc
  simp only [Bool.and_eq_true] at hok
  obtain ⟨⟨hok1, hok2⟩, hok3⟩ := hok
  have hr : pApd a b i.size T f ck k = some r := hr
  unfold pApd at hr
  have q := evF_some hb hT hr
  clear hr
  obtain ⟨xv, hxv, hr⟩ := q
  have q := srcF_some hh hr
  clear hr
  obtain ⟨n, new, hsrc, hr⟩ := q
  have q := evF_some ha hT hr
  clear hr
  obtain ⟨sv, hsv, hr⟩ := q
  have main : ∃ v h' f', appendA P h aT.toList sv xv = some (v, h') ∧ SimH f' h' ∧ k v f' = some r := by
    have hXi : ∀ kd, TypeDesc.slice eX ≠ .int kd := fun kd e => by cases e
    have q := slcK_some hr
    clear hr
    rcases q with ⟨l, c, rfl, hr⟩ | ⟨b', off, l, c, rfl, hr⟩
    · have q := condK_some hr
      clear hr
      obtain ⟨h1, hr⟩ := q
      have q := condK_some hr
      clear hr
      obtain ⟨h2, hr⟩ := q
      obtain rfl := Nat.eq_of_beq_eq_true h1
      obtain rfl := Nat.eq_of_beq_eq_true h2
      have q := tf_some hr
      clear hr
      rcases q with ⟨h3, hr⟩ | ⟨h3, hr⟩
      · exact ⟨_, h, f, by simp only [appendA, hts, hu, hi, hX, hsrc, hz, h3, cond_true], hh, hr⟩
      · have q := condK_some hr
        clear hr
        obtain ⟨h4, hr⟩ := q
        have q := addK_some hh hr
        clear hr
        obtain ⟨f', hh', hr⟩ := q
        exact ⟨_, _, f', by simp only [appendA, hts, hu, hi, hX, hsrc, hz, h3, h4, hok1, hok2, cond_true, cond_false, Bool.and_self], hh', hr⟩
    · have q := condK_some hr
      clear hr
      obtain ⟨h1, hr⟩ := q
      have q := tf_some hr
      clear hr
      rcases q with ⟨h2, hr⟩ | ⟨h2, hr⟩
      · have q := condK_some hr
        clear hr
        obtain ⟨h3, hr⟩ := q
        rw [forceN_eq, forceN_eq] at hr
        rw [allF_eq] at h3
        have q := wrK_some hh hr h3
        clear hr
        obtain ⟨h', f', e1, hh', hr⟩ := q
        have h1 : Nat.beq n 0 = false := by simpa using h1
        have e1 : writeA h b' (off + l * i.size) new = some h' := e1
        have h2 : Nat.ble n (c / 2) = true := h2
        exact ⟨_, h', f', by simp only [appendA, hts, hu, hi, hX, hsrc, hz, h2, h1, cond_true, cond_false, e1]; rfl, hh', hr⟩
      · have q := condK_some hr
        clear hr
        obtain ⟨h3, hr⟩ := q
        have q := gH_some hr
        clear hr
        obtain ⟨y, e1, hr⟩ := q
        have q := rowK_some hr
        clear hr
        obtain ⟨ro, z', cs, rfl, hr⟩ := q
        have q := dropK_some hr
        clear hr
        obtain ⟨e2, hr⟩ := q
        have q := takeK_some hr
        clear hr
        obtain ⟨e3, hr⟩ := q
        have e3 : l * i.size ≤ (cs.drop off).length := e3
        rw [List.length_drop] at e3
        rw [catK_eq, forceN_eq] at hr
        have h2 : Nat.ble n (c / 2) = false := h2
        have h3 : Nat.ble (l + n) 4294967296 = true := h3
        have hold : readA h b' off (l * i.size) = some ((cs.drop off).take (l * i.size)) := by
          simp only [readA_def, hh.2 b' _ e1, Nat.ble_eq_true_of_le (show off + l * i.size ≤ cs.length by omega), cond_true]
        have q := tf_some hr
        clear hr
        rcases q with ⟨h4, hr⟩ | ⟨h4, hr⟩
        · have q := addK_some hh hr
          clear hr
          obtain ⟨f', hh', hr⟩ := q
          have h4 : Nat.beq (c % 2) 0 = true := h4
          exact ⟨_, _, f', by simp only [appendA, hts, hu, hi, hX, hsrc, hz, h2, h3, h4, hok1, hok2, cond_true, cond_false, Bool.and_self, hold, forceL_eq]; rfl, hh', hr⟩
        · have q := condK_some hr
          clear hr
          obtain ⟨g1, hr⟩ := q
          have q := condK_some hr
          clear hr
          obtain ⟨g2, hr⟩ := q
          have q := condK_some hr
          clear hr
          obtain ⟨g3, hr⟩ := q
          have q := condK_some hr
          clear hr
          obtain ⟨g4, hr⟩ := q
          have q := sH_some hr
          clear hr
          obtain ⟨m, hr, e4⟩ := q
          have hk := kill_sim hh e4
          have q := addK_some hk hr
          clear hr
          obtain ⟨f', hh', hr⟩ := q
          have h4 : Nat.beq (c % 2) 0 = false := h4
          rw [lenF_eq] at g3
          rw [allF_eq] at g4
          have g3 : Nat.beq (off + (l + c / 2) * z') cs.length = true := g3
          have hz' := Nat.eq_of_beq_eq_true g2
          cases ro with
          | true => cases g1
          | false =>
            subst hz'
            exact ⟨_, _, f', by simp only [appendA, hts, hu, hi, hX, hsrc, hz, h2, h3, h4, hok1, hok2, hok3, cond_true, cond_false, Bool.and_self, hold, hh.2 b' _ e1, Nat.beq_refl, g3, g4, forceL_eq]; rfl, hh', hr⟩
  clear hr
  obtain ⟨v, h', f', e1, hh', hr⟩ := main
  refine ⟨v, h', f', ?_, hh', hr⟩
  rw [stepV_no rfl]
  simp only [stepO, opA, hargs, evL, hsv, hxv, builtinA, e1]

theorem bytesF_eq : ∀ (l : List UInt8) (k : List Value → O1), bytesF l k = k (byteCells l) := by
  intro l
  induction l with
  | nil => intro k; rfl
  | cons b l ih =>
    intro k
    show bytesF l (fun r => k (.int .u8 (.ofNat (u8N b)) :: r)) = _
    rw [ih]; rfl

theorem sim_s2b {s d e : TypeId} {x : Operand} {fo : FOp} (hs : P.underlying s = some .string) (hd : P.underlying d = some (.slice e)) (h8 : isU8 P e = true) (hc : un1 .s2b (compArg gl x) = some fo) : OpSim P gl (.convert s d x) fo := by
  intro T S f h ck ca k r hT hh hcs hr
  obtain ⟨a, ha, rfl⟩ := un1_some hc
  have hr : evF a T (fun v => strK v fun l => bytesF l fun cs => forceN (lenF l) fun n => addK f (.row false 1 cs) fun b h' => k (.slice (some ⟨b, 0, none⟩) n 1) h') = some r := hr
  have q := evF_some ha hT hr
  clear hr
  obtain ⟨v, hv, hr⟩ := q
  have q := strK_some hr
  clear hr
  obtain ⟨l, rfl, hr⟩ := q
  rw [bytesF_eq, forceN_eq, lenF_eq] at hr
  have q := addK_some hh hr
  clear hr
  obtain ⟨f', hh', hr⟩ := q
  refine ⟨_, _, f', ?_, hh', hr⟩
  rw [stepV_no (by simp only [opG, hv, asS_of (v := .string ⟨⟨l⟩⟩) (fun _ _ e => by cases e)])]
  simp only [stepO, opA, hv, convA, hs, hd, h8, cond_true]

theorem sim_s2s {s d : TypeId} {x : Operand} {fo : FOp} (hs : P.underlying s = some .string) (hd : P.underlying d = some .string) (hc : un1 .sid (compArg gl x) = some fo) : OpSim P gl (.convert s d x) fo := by
  intro T S f h ck ca k r hT hh hcs hr
  obtain ⟨a, ha, rfl⟩ := un1_some hc
  have hr : evF a T (fun v => strK v fun l => k (.string ⟨⟨l⟩⟩) f) = some r := hr
  have q := evF_some ha hT hr
  clear hr
  obtain ⟨v, hv, hr⟩ := q
  have q := strK_some hr
  clear hr
  obtain ⟨l, rfl, hr⟩ := q
  refine ⟨_, h, f, ?_, hh, hr⟩
  rw [stepV_no (by simp only [opG, hv, asS_of (v := .string ⟨⟨l⟩⟩) (fun _ _ e => by cases e)])]
  simp only [stepO, opA, hv, convA, hs, hd]

theorem sim_callF {g : FuncId} {args : Array Operand} {aT : Array TypeId} {as : List FArg} (hc : compArgs gl args.toList = some as) : OpSim P gl (.call ⟨.value (.func g), args, aT⟩) (.callF g as) := by
  intro T S f h ck ca k r hT hh hcs hr
  have hr : evFL as T (fun l => ck g l f k) = some r := hr
  have q := evFL_some hc hT hr
  clear hr
  obtain ⟨l, h1, hr⟩ := q
  have q := hcs g l f h k r hh hr
  clear hr
  obtain ⟨v, h', f', h2, hh', hr⟩ := q
  refine ⟨v, h', f', ?_, hh', hr⟩
  rw [stepV_no rfl]
  have e : calleeA P (.func (.func g) #[] #[]) l = some (g, l) := by simp [calleeA]
  simp only [stepO, evA, h1, e, h2]

theorem sim_callV {fx : Operand} {args : Array Operand} {aT : Array TypeId} {a : FArg} {as : List FArg} (ha : compArg gl fx = some a) (hc : compArgs gl args.toList = some as) : OpSim P gl (.call ⟨.value fx, args, aT⟩) (.callV a as) := by
  intro T S f h ck ca k r hT hh hcs hr
  have hr : evF a T (fun fv => funK fv fun g first cap => evFL as T fun l => catK l cap fun l1 => catK first l1 fun l2 => ck g l2 f k) = some r := hr
  have q := evF_some ha hT hr
  clear hr
  obtain ⟨fv, hfv, hr⟩ := q
  have q := funK_some hr
  clear hr
  obtain ⟨g, first, cap, rfl, hr⟩ := q
  have q := evFL_some hc hT hr
  clear hr
  obtain ⟨l, h1, hr⟩ := q
  rw [catK_eq, catK_eq] at hr
  have q := hcs g _ f h k r hh hr
  clear hr
  obtain ⟨v, h', f', h2, hh', hr⟩ := q
  refine ⟨v, h', f', ?_, hh', hr⟩
  rw [stepV_no rfl]
  simp only [stepO, hfv, h1, calleeA, h2]

theorem evT_some (hT : SimT T S) {x : Operand} {v : Value} (h : evT gl T x = some v) : evA gl S x = some v := by
  cases x with
  | tmp t =>
    simp only [evT] at h
    cases hb : Nat.blt t 256 with
    | false => rw [hb] at h; cases h
    | true => rw [hb] at h; exact hT t v (Nat.le_of_ble_eq_true hb) h
  | const v => exact h
  | global g => exact h
  | func g => exact h

theorem stepV_nocall {ev : Operand → Option Value} {op : Op} (hc : clsA P op = 0) (c1 c2 : CallA) : stepV P c1 ev h op = stepV P c2 ev h op := by
  unfold stepV
  cases opG P ev op with
  | ok b v => rfl
  | bad => rfl
  | no =>
    cases op <;> first
      | rfl
      | (rename_i c
         obtain ⟨callee, args, ts⟩ := c
         cases callee <;> first
           | rfl
           | (simp [clsA] at hc))

theorem sim_slow {op : Op} {fo : FOp} (hc : slowO P gl op = some fo) : OpSim P gl op fo := by
  intro T S f h ck ca k r hT hh hcs hr
  unfold slowO at hc
  cases hb : Nat.beq (clsA P op) 0 with
  | false => rw [hb] at hc; cases hc
  | true =>
    rw [hb] at hc
    cases hc
    have hcl := Nat.eq_of_beq_eq_true hb
    have hr : Option.rec (motive := fun _ => O1) none (fun v => splitB v fun v => k v f) (slowF P gl op T) = some r := hr
    cases hs : slowF P gl op T with
    | none => rw [hs] at hr; cases hr
    | some v =>
      rw [hs] at hr
      have hr : splitB v (fun v => k v f) = some r := hr
      rw [splitB_eq] at hr
      refine ⟨v, h, f, ?_, hh, hr⟩
      unfold slowF at hs
      cases hops : opsThere (evT gl T) op with
      | false => rw [hops] at hs; cases hs
      | true =>
        rw [hops] at hs
        simp only [cond_true] at hs
        split at hs
        · rename_i v' h' d hst
          cases hs
          obtain ⟨_, _, h3⟩ := pur_ok hcl hst
          have e := h3 h
          unfold opsThere at hops
          rw [List.all_eq_true] at hops
          rw [← e, stepV_nocall hcl ca noCall]
          refine stepV_congr h op fun x hx => ?_
          obtain ⟨v, hv⟩ := Option.isSome_iff_exists.1 (hops x (by simpa using hx))
          rw [hv, evT_some hT hv]
        · cases hs

-- MAPS
theorem mapK_some {v : Value} {k : Nat → O1} {r : Value} (h : mapK v k = some r) : ∃ b, v = .map (some b) ∧ k b = some r := by
  cases v with
  | map a =>
    cases a with
    | none => cases h
    | some b => exact ⟨b, rfl, h⟩
  | _ => cases h
theorem mpB_some {b : Blk} {k : Bool → List (Value × Value) → O1} {r : Value} (h : mpB b k = some r) : ∃ ro es, b = .mp ro es ∧ k ro es = some r := by
  cases b with
  | row ro z cs => cases h
  | mp ro es => exact ⟨ro, es, rfl, h⟩
theorem aeqD_str {P : Program} {kt : TypeId} (hk : P.underlying kt = some .string) (a b : ByteArray) : aeqD P 10000 kt (.string a) (.string b) = some (a.data.toList == b.data.toList) := by
  show aeqD P (9999 + 1) kt _ _ = _
  unfold aeqD
  rw [hk]
theorem keyA_str {P : Program} {kt : TypeId} (hk : P.underlying kt = some .string) (v : Value) : keyA P 10000 kt v = true := by
  show keyA P (9999 + 1) kt v = _
  unfold keyA
  rw [hk]
theorem findS_some {P : Program} {kt : TypeId} (hk : P.underlying kt = some .string) (s : List UInt8) : ∀ {es : List (Value × Value)} {i : Nat} {no : O1} {yes : Value → O1} {r : Value}, findS s es no yes = some r →
    (findA P kt (.string ⟨⟨s⟩⟩) es i = some none ∧ no = some r) ∨ ∃ j v, findA P kt (.string ⟨⟨s⟩⟩) es i = some (some (j, v)) ∧ yes v = some r := by
  intro es
  induction es with
  | nil => intro i no yes r h; exact .inl ⟨rfl, h⟩
  | cons e es ih =>
    intro i no yes r h
    obtain ⟨ke, ve⟩ := e
    have h : strK ke (fun t => Bool.rec (motive := fun _ => O1) (findS s es no yes) (yes ve) (eqU s t)) = some r := h
    have q := strK_some h
    clear h
    clear h
    obtain ⟨t, rfl, h⟩ := q
    simp only [findA, aeqD_str hk]
    rw [eqU_eq] at h
    cases hb : (s == t) with
    | true => rw [hb] at h; exact .inr ⟨i, ve, by simp [hb], h⟩
    | false =>
      rw [hb] at h
      have h : findS s es no yes = some r := h
      simp only [hb]
      exact ih h
theorem putS_some {P : Program} {kt : TypeId} (hk : P.underlying kt = some .string) (s : List UInt8) (v : Value) : ∀ {es : List (Value × Value)} {i : Nat} {k : List (Value × Value) → O1} {r : Value}, putS s (.string ⟨⟨s⟩⟩, v) es k = some r →
    (findA P kt (.string ⟨⟨s⟩⟩) es i = some none ∧ k (es ++ [(.string ⟨⟨s⟩⟩, v)]) = some r) ∨ ∃ j u e, findA P kt (.string ⟨⟨s⟩⟩) es i = some (some (i + j, u)) ∧ es[j]? = some e ∧ sameA e.1 (.string ⟨⟨s⟩⟩) = true ∧ k (es.set j (.string ⟨⟨s⟩⟩, v)) = some r := by
  intro es
  induction es with
  | nil => intro i k r h; exact .inl ⟨rfl, h⟩
  | cons e es ih =>
    intro i k r h
    obtain ⟨ke, ve⟩ := e
    have h : strK ke (fun t => Bool.rec (motive := fun _ => O1) (putS s (.string ⟨⟨s⟩⟩, v) es fun r' => k ((ke, ve) :: r')) (k ((.string ⟨⟨s⟩⟩, v) :: es)) (eqU s t)) = some r := h
    have q := strK_some h
    clear h
    clear h
    obtain ⟨t, rfl, h⟩ := q
    simp only [findA, aeqD_str hk]
    rw [eqU_eq] at h
    cases hb : (s == t) with
    | true =>
      rw [hb] at h
      refine .inr ⟨0, ve, (.string ⟨⟨t⟩⟩, ve), by simp [hb], rfl, ?_, h⟩
      show (t == s) = true
      rw [beq_iff_eq] at hb ⊢
      exact hb.symm
    | false =>
      rw [hb] at h
      have h : putS s (.string ⟨⟨s⟩⟩, v) es (fun r' => k ((.string ⟨⟨t⟩⟩, ve) :: r')) = some r := h
      simp only [hb]
      rcases ih (i := i + 1) h with ⟨h1, h2⟩ | ⟨j, u, e, h1, h2, h3, h4⟩
      · exact .inl ⟨h1, h2⟩
      · exact .inr ⟨j + 1, u, e, by rw [h1, show i + 1 + j = i + (j + 1) by omega], by simpa using h2, h3, h4⟩
theorem sim_mkM {t : TypeId} : OpSim P gl (.makeMap t none) .mkM := by
  intro T S f h ck ca k r hT hh hcs hr
  have hr : addK f (.mp false []) (fun b h' => k (.map (some b)) h') = some r := hr
  obtain ⟨f', hh', hr⟩ := addK_some hh hr
  refine ⟨_, _, f', ?_, hh', hr⟩
  rw [stepV_no rfl]
  rfl
theorem sim_look {t kt e : TypeId} {x i : Operand} {ok : Bool} {z : Value} {fo : FOp} (hu : P.underlying t = some (.map kt e)) (hk : P.underlying kt = some .string) (hz : zeroA P e = some z)
    (hc : un2 (fun a b => .look a b z ok) (compArg gl x) (compArg gl i) = some fo) : OpSim P gl (.lookup t x i ok) fo := by
  intro T S f h ck ca k r hT hh hcs hr
  obtain ⟨a, b, ha, hb, rfl⟩ := un2_some hc
  have hr : evF a T (fun m => mapK m fun r => gH r f.1 fun bl => mpB bl fun _ es => evF b T fun kv => strK kv fun s =>
    findS s es (Bool.rec (motive := fun _ => O1) (k z f) (k (.tuple ⟨[z, .bool false]⟩) f) ok) (fun v => Bool.rec (motive := fun _ => O1) (k v f) (k (.tuple ⟨[v, .bool true]⟩) f) ok)) = some r := hr
  obtain ⟨m, hm, hr⟩ := evF_some ha hT hr
  obtain ⟨rb, rfl, hr⟩ := mapK_some hr
  obtain ⟨bl, hbl, hr⟩ := gH_some hr
  obtain ⟨ro, es, rfl, hr⟩ := mpB_some hr
  obtain ⟨kv, hkv, hr⟩ := evF_some hb hT hr
  obtain ⟨s, rfl, hr⟩ := strK_some hr
  have hget := hh.2 rb _ hbl
  have key : ∃ v, lookupA P h t (.map (some rb)) (.string ⟨⟨s⟩⟩) ok = some v ∧ k v f = some r := by
    unfold lookupA
    simp only [hu, mapEs, hget, keyA_str hk, cond_true, hz]
    rcases findS_some hk s (i := 0) hr with ⟨h1, h2⟩ | ⟨j, v, h1, h2⟩
    · rw [h1]
      cases ok with
      | true => exact ⟨_, rfl, h2⟩
      | false => exact ⟨_, rfl, h2⟩
    · rw [h1]
      cases ok with
      | true => exact ⟨_, rfl, h2⟩
      | false => exact ⟨_, rfl, h2⟩
  obtain ⟨v, h1, h2⟩ := key
  refine ⟨v, h, f, ?_, hh, h2⟩
  rw [stepV_no rfl]
  simp only [stepO, opA, hm, hkv, h1]
theorem sim_mput {t kt e : TypeId} {x i y : Operand} {c : FArg} {fo : FOp} (hu : P.underlying t = some (.map kt e)) (hk : P.underlying kt = some .string) (hy : compArg gl y = some c)
    (hc : un2 (fun a b => .mput a b c) (compArg gl x) (compArg gl i) = some fo) : OpSim P gl (.mapUpdate t x i y) fo := by
  intro T S f h ck ca k r hT hh hcs hr
  obtain ⟨a, b, ha, hb, rfl⟩ := un2_some hc
  have hr : evF a T (fun m => mapK m fun r => gH r f.1 fun bl => mpB bl fun ro es => evF b T fun kv => strK kv fun s => evF c T fun v =>
    Bool.rec (motive := fun _ => O1) (putS s (kv, v) es fun es' => sH r (some (.mp false es')) f.1 fun m' => k undef ⟨m', f.2⟩) none ro) = some r := hr
  obtain ⟨m, hm, hr⟩ := evF_some ha hT hr
  obtain ⟨rb, rfl, hr⟩ := mapK_some hr
  obtain ⟨bl, hbl, hr⟩ := gH_some hr
  obtain ⟨ro, es, rfl, hr⟩ := mpB_some hr
  obtain ⟨kv, hkv, hr⟩ := evF_some hb hT hr
  obtain ⟨s, rfl, hr⟩ := strK_some hr
  obtain ⟨v, hv, hr⟩ := evF_some hy hT hr
  have hget := hh.2 rb _ hbl
  cases ro with
  | true => cases hr
  | false =>
    have hr : putS s (.string ⟨⟨s⟩⟩, v) es (fun es' => sH rb (some (.mp false es')) f.1 fun m' => k undef ⟨m', f.2⟩) = some r := hr
    have key : ∃ es', mapPutA P h t (.map (some rb)) (.string ⟨⟨s⟩⟩) v = some (h.put rb (.mp false es')) ∧ sH rb (some (.mp false es')) f.1 (fun m' => k undef ⟨m', f.2⟩) = some r := by
      unfold mapPutA
      simp only [hu, hget, keyA_str hk, cond_true]
      rcases putS_some hk s v (i := 0) hr with ⟨h1, h2⟩ | ⟨j, u, e, h1, h2, h3, h4⟩
      · rw [h1]; exact ⟨_, rfl, h2⟩
      · rw [h1]
        rw [Nat.zero_add]
        simp only [h2, h3, cond_true]
        exact ⟨_, rfl, h4⟩
    obtain ⟨es', h1, h2⟩ := key
    obtain ⟨m', h2, h3⟩ := sH_some h2
    refine ⟨undef, h.put rb (.mp false es'), ⟨m', f.2⟩, ?_, ⟨hh.1, fun c y hy => ?_⟩, h2⟩
    · rw [stepV_no rfl]
      simp only [stepO, opA, hm, hkv, hv, h1]
    · have hy : QH.get m' c = some y := hy
      rw [h3] at hy
      show (h.m.set rb _).get c = some y
      rw [Tr.get_set]
      by_cases e : c = rb
      · rw [if_pos e] at hy ⊢; exact hy
      · rw [if_neg e] at hy ⊢; exact hh.2 c y hy

theorem repK_eq (z : List Value) : ∀ (n : Nat) (k : List Value → O1), repK z n k = k (repA n z) := by
  intro n
  induction n with
  | zero => intro k; rfl
  | succ n ih =>
    intro k
    show repK z n (fun r => catK z r k) = _
    rw [ih, catK_eq]
    rfl
theorem sim_mks {t e : TypeId} {x y : Operand} {i : TypeInfo} {zv : Value} {fo : FOp} (hu : P.underlying t = some (.slice e)) (hi : P.info? e = some i) (hz : zeroA P e = some zv)
    (hok : (Nat.ble i.bytes 65536 && Nat.beq zv.cells.toList.length i.size) = true) (hc : un2 (fun a b => .mks a b i.size zv.cells.toList) (compArg gl x) (compArg gl y) = some fo) : OpSim P gl (.makeSlice t x y) fo := by
  intro T S f h ck ca k r hT hh hcs hr
  obtain ⟨a, b, ha, hb, rfl⟩ := un2_some hc
  have hr : evF a T (fun lv => natK lv fun l => evF b T fun cv => natK cv fun c => condK (Nat.ble l c) (condK (Nat.ble c 65536) (repK zv.cells.toList c fun r =>
    addK f (.row false i.size r) fun b h' => forceN (Nat.mul 2 (Nat.sub c l)) fun c' => k (.slice (some ⟨b, 0, none⟩) l c') h'))) = some r := hr
  obtain ⟨lv, hlv, hr⟩ := evF_some ha hT hr
  obtain ⟨k1, l, rfl, hr⟩ := natK_some hr
  obtain ⟨cv, hcv, hr⟩ := evF_some hb hT hr
  obtain ⟨k2, c, rfl, hr⟩ := natK_some hr
  obtain ⟨q1, hr⟩ := condK_some hr
  obtain ⟨q2, hr⟩ := condK_some hr
  rw [repK_eq] at hr
  obtain ⟨f', hh', hr⟩ := addK_some hh hr
  rw [forceN_eq] at hr
  rw [Bool.and_eq_true] at hok
  have h1 := Nat.le_of_ble_eq_true q1
  have h2 := Nat.le_of_ble_eq_true q2
  have h3 := Nat.le_of_ble_eq_true hok.1
  refine ⟨_, _, f', ?_, hh', hr⟩
  rw [stepV_no rfl]
  have hcond : (0 : Int) ≤ Int.ofNat l ∧ Int.ofNat l ≤ Int.ofNat c ∧ Int.ofNat c ≤ 4294967296 ∧ i.bytes ≤ 65536 := by
    refine ⟨?_, ?_, ?_, h3⟩
    · show (0 : Int) ≤ (l : Int); omega
    · show (l : Int) ≤ (c : Int); omega
    · show (c : Int) ≤ 4294967296; omega
  simp only [stepO, opA, hlv, hcv, makeSliceA, hu, hi, hz, hok.2, cond_true, if_pos hcond]
  rfl

end Go.Proofs.Ytgfjnnkhlgmbcaa.AI
