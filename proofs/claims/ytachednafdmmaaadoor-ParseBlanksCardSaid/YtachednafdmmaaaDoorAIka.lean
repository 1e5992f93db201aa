/- The abstract interpreter: operations on values that stand for rows that are never written any more. -/
import Derived.Test.YtachednafdmmaaaDoorAIk
namespace Go.Proofs.YtachednafdmmaaaDoor.AI
open Go Go.RowKit
set_option linter.unusedVariables false
set_option linter.unusedSimpArgs false

variable {P : Program} {gl : Nat → Option Nat} {μ : Mu} {n : Nat} {w : World}

theorem asP_some {x : Option Value} {off : Nat} {cs : List Value} (h : asP x = some (off, cs)) : x = some (gptrV off cs) := by
  unfold asP at h
  split at h
  · rename_i t o r
    cases hb : Nat.beq t 4294967297 with
    | false => rw [hb] at h; cases h
    | true =>
      rw [hb] at h
      cases h
      rw [Nat.eq_of_beq_eq_true hb]; rfl
  · cases h
theorem asS_some {x : Option Value} {l off : Nat} {ex : Bool} {cs : List Value} (h : asS x = some (l, off, ex, cs)) : x = some (gslV l off ex cs) := by
  unfold asS at h
  split at h
  · rename_i t l' o b r
    cases hb : Nat.beq t 4294967296 with
    | false => rw [hb] at h; cases h
    | true =>
      rw [hb] at h
      cases h
      rw [Nat.eq_of_beq_eq_true hb]; rfl
  · cases h

theorem cellOk_get {k : CKind} {cs : List Value} {off : Nat} (h : cellOk k cs off = true) : cs[off]? = some (cellV k cs off) := by
  cases k with
  | int kd =>
    simp only [cellOk, isInt] at h
    split at h
    · rename_i kd' x hc
      have e := of_decide_eq_true h
      subst e
      simp only [cellV, intAt, hc]
    · cases h
  | bool =>
    simp only [cellOk, isBool] at h
    split at h
    · rename_i b hc; simp only [cellV, boolAt, hc]
    · cases h
  | str =>
    simp only [cellOk, isStr] at h
    split at h
    · rename_i b hc; simp only [cellV, strAt, hc]
    · cases h
  | slc =>
    simp only [cellOk, isGsl] at h
    split at h
    · rename_i t l o b r hc
      have e := Nat.eq_of_beq_eq_true h
      subst e
      simp only [cellV, gslV, gL, gO, gX, gC, hc]
    · cases h
theorem cellsOk_get : ∀ (ks : List CKind) (cs : List Value) (off : Nat), cellsOk ks cs off = true → (cellsV ks cs off).length = ks.length ∧ ∀ (j : Nat) (v : Value), (cellsV ks cs off)[j]? = some v → cs[off + j]? = some v := by
  intro ks
  induction ks with
  | nil => intro cs off _; exact ⟨rfl, fun j v h => by simp [cellsV] at h⟩
  | cons k r ih =>
    intro cs off h
    simp only [cellsOk, Bool.and_eq_true] at h
    obtain ⟨h1, h2⟩ := ih cs (off + 1) h.2
    refine ⟨by simp [cellsV, h1], fun j v hv => ?_⟩
    cases j with
    | zero =>
      simp only [cellsV, List.getElem?_cons_zero, Option.some.injEq] at hv
      rw [← hv]
      exact cellOk_get h.1
    | succ j =>
      simp only [cellsV, List.getElem?_cons_succ] at hv
      have := h2 j v hv
      rw [← this]; congr 1; omega

theorem gload_run {h : AH} (hh : HRel gl μ h w) {t : TypeId} {cs : List Value} {off : Nat} {v : Value} (hr : gload P t cs off = .ok true v) {B o : Nat} {C : Array Value} (hB : μ.fr B = some C) (hl : o + cs.length ≤ C.size)
    (hc : ∀ (j : Nat) (x y : Value), cs[j]? = some x → C[o + j]? = some y → VRel μ h.next x y) :
    ∃ c, (loadVar t ⟨B, o + off, none⟩).run P w = .ok c w ∧ VRel μ h.next v c := by
  obtain ⟨⟨e, fz, hw⟩, _⟩ := hh.fz B C hB
  unfold gload at hr
  split at hr
  · rename_i ks hks
    split at hr
    · rename_i ha
      split at hr
      · rename_i k hk
        cases hn : Nat.beq k ks.length with
        | false => rw [hn] at hr; cases hr
        | true =>
          rw [hn] at hr
          simp only [cond_true, GR.ok.injEq] at hr
          obtain ⟨hok, rfl⟩ := hr
          obtain ⟨g1, g2⟩ := cellsOk_get ks cs off hok
          have hkl := Nat.eq_of_beq_eq_true hn
          subst hkl
          have hin : ∀ j, j < ks.length → off + j < cs.length := fun j hj => by
            have hj' : j < (cellsV ks cs off).length := by omega
            exact (List.getElem?_eq_some_iff.1 (g2 j _ (List.getElem?_eq_getElem hj'))).1
          have hfit : ks.length = 0 ∨ o + off + ks.length ≤ C.size := by
            rcases Nat.eq_zero_or_pos ks.length with h0 | h0
            · exact .inl h0
            · have := hin (ks.length - 1) (by omega); right; omega
          have hds : ((C.toList.drop (o + off)).take ks.length).length = ks.length := by
            have e : C.toList.length = C.size := Array.length_toList
            rw [List.length_take, List.length_drop, e]; omega
          have hload := run_loadCells_list (P := P) w ⟨B, o + off, none⟩ ((C.toList.drop (o + off)).take ks.length) (fun j u hu => by
            rw [List.getElem?_take] at hu
            split at hu
            · rw [List.getElem?_drop, Array.getElem?_toList] at hu
              rw [addr_add, cell_row hw]
              exact hu
            · cases hu)
          rw [hds] at hload
          unfold loadVar
          simp only [Sem.run_bind, aggT_run ha, Result.andThen_ok, if_true, szT_run hk, hload]
          refine ⟨_, rfl, .agg _ _ (by rw [g1, List.toList_toArray, hds]) fun i x y hx hy => ?_⟩
          simp only [List.toList_toArray] at hy
          rw [List.getElem?_take] at hy
          split at hy
          · rw [List.getElem?_drop, Array.getElem?_toList, Nat.add_assoc] at hy
            exact hc _ x y (g2 i x hx) hy
          · cases hy
      · cases hr
    · rename_i ha
      split at hr
      · rename_i k
        simp only [GR.ok.injEq] at hr
        obtain ⟨hok, rfl⟩ := hr
        have hg := cellOk_get hok
        obtain ⟨c, h1, h2⟩ := ghost_cell (B := B) hl hc hg
        unfold loadVar
        simp only [Sem.run_bind, aggT_run ha, Result.andThen_ok, Bool.false_eq_true, if_false]
        refine ⟨c, ?_, h2⟩
        rw [run_load, cell_row hw, h1]
      · cases hr
    · cases hr
  · cases hr

theorem bndG_bnd {ev : Operand → Option Value} {d : Nat} {x : Option Operand} {b : Bool} {k : Nat} (h : bndG ev d x = some (b, k)) (hb : b = true) : ∃ x', evO ev x = some x' ∧ bnd x' d = some k := by
  unfold bndG at h
  split at h
  · cases h; exact ⟨none, rfl, rfl⟩
  · rename_i y
    split at h
    · rename_i kd i hi
      cases h
      refine ⟨some (.int kd i), by unfold evO; simp only [hi], ?_⟩
      show (if 0 ≤ i then some i.toNat else none) = _
      rw [if_pos (of_decide_eq_true hb)]
    · cases h

theorem gslice_run {t e : TypeId} {z l cap a r m : Nat} {p : Option Addr} {lo' hi' mx' lo hi mx : Option Value} (hu : P.underlying t = some (.slice e)) (hz : szT P e = some z)
    (hl : ORel μ n lo lo') (hh : ORel μ n hi hi') (hm : ORel μ n mx mx') (e1 : bnd lo 0 = some a) (e2 : bnd hi l = some r) (e3 : bnd mx cap = some m) (h1 : a ≤ r) (h2 : r ≤ m) (h3 : m ≤ cap) (h4 : hi.isSome = true ∨ mx = none) :
    (Instr.sliceAt t (.slice p l cap) lo' hi' mx').run P w = .ok (.slice (if m = a then p else p.map (·.add (a * z))) (r - a) (m - a)) w := by
  rw [sliceAt_not_array hu (fun _ _ h => by cases h)]
  have hbd := bounds_run (P := P) (w := w) (isS := true) hl hh hm e1 e2 e3 h1 h2 h3 h4
  unfold Instr.slice
  simp only [Sem.run_bind, run_underlying hu, Result.andThen_ok, hbd, szT_run hz, Sem.run_pure]

/-- A part of such a slice. -/
theorem gslice_rel {l off z a r m cap : Nat} {ex' : Bool} {cs : List Value} {p : Option Addr} {B o : Nat} {C : Array Value} (hcap : l ≤ cap) (hs : ∀ q, p = some q → q.spot = none) (hn : p = none → cap = 0)
    (h5 : l ≠ 0 → p = some ⟨B, o + off, none⟩ ∧ μ.fr B = some C ∧ o + cs.length ≤ C.size) (h6 : ∀ (j : Nat) (x y : Value), l ≠ 0 → cs[j]? = some x → C[o + j]? = some y → VRel μ n x y) (h1 : a ≤ r) (hr : r ≤ l) (hrm : r ≤ m) (hmc : m ≤ cap)
    (hex : ex' = true → m = r) : VRel μ n (gslV (r - a) (off + a * z) ex' cs) (.slice (if m = a then p else p.map (·.add (a * z))) (r - a) (m - a)) := by
  refine .gsl _ _ _ _ _ _ B o C (fun h => by have := hex h; omega) (by omega) (fun q hq => ?_) (fun hq => ?_) (fun hne => ?_) (fun j x y hne hx hy => h6 j x y (by omega) hx hy)
  · split at hq
    · exact hs q hq
    · cases p with
      | none => cases hq
      | some p0 =>
        cases hq
        have := hs p0 rfl
        unfold Addr.add
        split
        · exact this
        · rfl
  · split at hq
    · have := hn hq; omega
    · cases p with
      | none => have := hn rfl; omega
      | some p0 => cases hq
  · obtain ⟨g1, g2, g3⟩ := h5 (by omega)
    rw [if_neg (by omega), g1]
    exact ⟨by simp only [Option.map_some, addr_add, Nat.add_assoc], g2, g3⟩

theorem isBytes_of : ∀ {cs : List Value}, isBytes cs = true → bytesOf cs = some (bytesAt cs) := by
  intro cs
  induction cs with
  | nil => intro _; rfl
  | cons v r ih =>
    intro h
    cases v
    case int k x =>
      cases k <;> first
        | (simp only [isBytes] at h
           simp only [bytesOf, ih h, bytesAt])
        | cases h
    all_goals cases h

theorem opG_run {h : AH} (hh : HRel gl μ h w) {ev : Operand → Option Value} {ρ : Operand → Value} (hT : ∀ x v, ev x = some v → VRel μ h.next v (ρ x)) {o : Oper} {v : Value} (hr : opG P ev o.op = .ok true v) :
    WentN gl μ h w ((execOp ρ o).run P w) v h := by
  have same : ∀ {v c : Value}, (execOp ρ o).run P w = .ok (.value c) w → VRel μ h.next v c → WentN gl μ h w ((execOp ρ o).run P w) v h := fun e hv => ⟨_, w, μ, .inl e, hh, .refl _ _ _, hv⟩
  obtain ⟨dst, op, type, pos, after, guard⟩ := o
  cases op
  case load t a =>
    simp only [opG] at hr
    split at hr
    · rename_i off cs ha
      have hv := hT _ _ (asP_some ha)
      obtain ⟨B, o, C, e, h1, h2, h3⟩ := hv.gptrI
      obtain ⟨c, g1, g2⟩ := gload_run hh hr h1 h2 h3
      refine Went.next (s := Instr.loadAt t (ρ a)) (.same hh ?_ g2)
      rw [e]
      unfold Instr.loadAt Instr.sureAddr
      simp only [Sem.run_bind, Sem.run_pure, Result.andThen_ok, g1]
    · cases hr
  case nilCheck x =>
    simp only [opG] at hr
    split at hr
    · rename_i off cs ha
      cases hr
      have hv := hT _ _ (asP_some ha)
      obtain ⟨B, o, C, e, _⟩ := hv.gptrI
      refine same ?_ hv
      simp only [execOp, e]; rfl
    · cases hr
  case fieldAddr t x i =>
    simp only [opG] at hr
    split at hr
    · rename_i off cs ha
      have hv := hT _ _ (asP_some ha)
      obtain ⟨B, o, C, e, h1, h2, h3⟩ := hv.gptrI
      split at hr
      · rename_i fs hfs
        obtain ⟨fa, hu, rfl⟩ := fieldsT_under hfs
        split at hr
        · rename_i f hf
          split at hr
          · rename_i k hk
            simp only [GR.ok.injEq] at hr
            obtain ⟨hz, rfl⟩ := hr
            rw [Array.getElem?_toList] at hf
            have hk0 : k ≠ 0 := fun e => by subst e; cases hz
            have e1 : (fieldPlace ⟨B, o + off, none⟩ f).run P w = .ok ⟨B, o + off + f.offset, none⟩ w := by
              simp only [fieldPlace, Sem.run_bind, szT_run hk, Result.andThen_ok, if_neg hk0, addr_add]; rfl
            have e2 : (Instr.sureAddr (.pointer (some ⟨B, o + off, none⟩))).run P w = .ok ⟨B, o + off, none⟩ w := rfl
            refine Went.next (s := Instr.fieldAt t (ρ x) i) (.same hh (c := .pointer (some ⟨B, o + (off + f.offset), none⟩)) ?_ (.gptr _ _ B o C h1 h2 h3))
            rw [e]
            unfold Instr.fieldAt
            simp only [Sem.run_bind, run_underlying hu, Result.andThen_ok, hf, e2, e1, Nat.add_assoc]; rfl
          · cases hr
        · cases hr
      · cases hr
    · cases hr
  case indexAddr t x i =>
    simp only [opG] at hr
    split at hr
    · rename_i l off ex cs ha
      have hv := hT _ _ (asS_some ha)
      obtain ⟨a, cap, B, o, C, e, h1, h2, h3, h4, h5, h6⟩ := hv.gslI
      split at hr
      · rename_i kd j hj
        have ej := (hT _ _ hj).int
        split at hr
        · rename_i et hu
          split at hr
          · rename_i z hz
            simp only [GR.ok.injEq, Bool.and_eq_true, decide_eq_true_eq] at hr
            obtain ⟨hb, rfl⟩ := hr
            have hl0 : l ≠ 0 := by omega
            obtain ⟨g1, g2, g3⟩ := h5 hl0
            subst g1
            have e0 : (asIntOf (.int kd j)).run P w = .ok (kd, j) w := rfl
            refine Went.next (s := Instr.indexAt t (ρ x) (ρ i)) (.same hh (c := .pointer (some ⟨B, o + (off + j.toNat * z), none⟩)) ?_ (.gptr _ _ B o C g2 g3 fun j' x y => h6 j' x y hl0))
            rw [e, ej]
            unfold Instr.indexAt
            simp only [Sem.run_bind, e0, run_underlying hu, Result.andThen_ok, Sem.run_pure, Bool.and_false]
            rw [if_pos hb]
            simp only [Sem.run_bind, szT_run hz, Result.andThen_ok, addr_add, Nat.add_assoc]; rfl
          · cases hr
        · cases hr
      · cases hr
    · cases hr
  case slice t x lo hi mx =>
    simp only [opG] at hr
    split at hr
    · rename_i l off ex cs ha
      have hv := hT _ _ (asS_some ha)
      obtain ⟨p, cap, B, o, C, e, h1, h2, h3, h4, h5, h6⟩ := hv.gslI
      split at hr
      · rename_i et hu
        split at hr
        · rename_i z hz
          split at hr
          · rename_i b1 a h7
            split at hr
            · rename_i b2 r h8
              split at hr
              · -- two bounds
                simp only [GR.ok.injEq, Bool.and_eq_true] at hr
                obtain ⟨⟨⟨⟨hb1, hb2⟩, c1⟩, c2⟩, rfl⟩ := hr
                have c1 := Nat.le_of_ble_eq_true c1
                have c2 := Nat.le_of_ble_eq_true c2
                obtain ⟨lo', k1, k2⟩ := bndG_bnd h7 hb1
                obtain ⟨hi', k3, k4⟩ := bndG_bnd h8 hb2
                have hrun := gslice_run (P := P) (w := w) (p := p) (cap := cap) (m := cap) (mx := none) (mx' := none) hu hz (evO_rel hT k1) (evO_rel hT k3) ⟨fun u hu => (by cases hu), fun _ => rfl⟩ k2 k4 rfl c1 (by omega) (Nat.le_refl _) (.inr rfl)
                refine Went.next (s := Instr.sliceAt t (ρ x) (lo.map ρ) (hi.map ρ) none) (.same hh (by rw [e]; exact hrun) (gslice_rel h2 h3 h4 h5 h6 c1 c2 (by omega) (Nat.le_refl _) fun hx => ?_))
                simp only [Bool.and_eq_true] at hx
                have := h1 hx.1
                have := Nat.eq_of_beq_eq_true hx.2
                omega
              · rename_i m
                split at hr
                · rename_i b3 k h9
                  simp only [GR.ok.injEq, Bool.and_eq_true] at hr
                  obtain ⟨⟨⟨⟨⟨⟨⟨hb1, hb2⟩, hb3⟩, c1⟩, c2⟩, c3⟩, c4⟩, rfl⟩ := hr
                  have c1 := Nat.le_of_ble_eq_true c1
                  have c2 := Nat.eq_of_beq_eq_true c2
                  have c3 := Nat.le_of_ble_eq_true c3
                  subst c2
                  obtain ⟨lo', k1, k2⟩ := bndG_bnd h7 hb1
                  obtain ⟨hi', k3, k4⟩ := bndG_bnd h8 hb2
                  obtain ⟨mx', k5, k6⟩ := bndG_bnd h9 hb3
                  have k7 : bnd mx' cap = some r := by
                    unfold evO at k5
                    split at k5
                    · rename_i hq; cases hq
                    · split at k5
                      · cases k5
                        unfold bnd at k6 ⊢
                        rename_i u _
                        cases u <;> exact k6
                      · cases k5
                  have k8 : hi'.isSome = true := by
                    cases hi with
                    | none => cases c4
                    | some y =>
                      unfold evO at k3
                      split at k3
                      · rename_i hq; cases hq
                      · split at k3
                        · cases k3; rfl
                        · cases k3
                  have hrun := gslice_run (P := P) (w := w) (p := p) (cap := cap) hu hz (evO_rel hT k1) (evO_rel hT k3) (evO_rel hT k5) k2 k4 k7 c1 (Nat.le_refl _) (by omega) (.inl k8)
                  exact Went.next (s := Instr.sliceAt t (ρ x) (lo.map ρ) (hi.map ρ) (some (ρ m))) (.same hh (by rw [e]; exact hrun) (gslice_rel h2 h3 h4 h5 h6 c1 (by omega) (Nat.le_refl _) (by omega) fun _ => rfl))
                · cases hr
            · cases hr
          · cases hr
        · cases hr
      · cases hr
    · cases hr
  case convert s d x =>
    simp only [opG] at hr
    split at hr
    · rename_i l off ex cs ha
      have hv := hT _ _ (asS_some ha)
      obtain ⟨p, cap, B, o, C, e, h1, h2, h3, h4, h5, h6⟩ := hv.gslI
      split at hr
      · rename_i et hus
        split at hr
        · rename_i hud
          cases hu8 : isU8 P et with
          | false => rw [hu8] at hr; cases hr
          | true =>
            rw [hu8] at hr
            simp only [cond_true, GR.ok.injEq, Bool.and_eq_true] at hr
            obtain ⟨⟨c1, c2⟩, rfl⟩ := hr
            have c1 := Nat.le_of_ble_eq_true c1
            refine Went.next (s := convert s d (ρ x)) (.same hh ?_ (.plain _ rfl))
            rw [e, run_convert_bytes_string w s d et _ _ _ hus (isU8_under hu8) hud]
            obtain ⟨ns, hns, hba⟩ := bytesOf_list (isBytes_of c2)
            have hnl : ns.length = l := by
              have := congrArg List.length hns
              rw [List.length_take, List.length_drop, List.length_map] at this
              omega
            rcases Nat.eq_zero_or_pos l with hl0 | hl0
            · subst hl0
              have : ns = [] := List.eq_nil_of_length_eq_zero hnl
              subst this
              have hload : (loadCells (p.getD default) 0).run P w = .ok (([] : List Int).map (Value.int .u8)).toArray w := rfl
              have hb0 : bytesAt ((cs.drop off).take 0) = [] := rfl
              rw [hb0]
              cases p with
              | none => rfl
              | some p0 =>
                rw [run_bytesToString w _ _ _ [] rfl]
                rfl
            · obtain ⟨g1, g2, g3⟩ := h5 (by omega)
              subst g1
              obtain ⟨⟨et', fz, hw⟩, _⟩ := hh.fz B C g2
              have hload := run_loadCells_list (P := P) w ⟨B, o + off, none⟩ (ns.map (Value.int .u8)) (fun j u hu => by
                have hj : j < l := by rw [← hnl]; simpa using (List.getElem?_eq_some_iff.1 hu).1
                have hcs : cs[off + j]? = some u := by
                  rw [← hu, ← hns, List.getElem?_take, if_pos hj, List.getElem?_drop]
                obtain ⟨y, q1, q2⟩ := ghost_cell (B := B) g3 (fun j x y => h6 j x y (by omega)) hcs
                rw [addr_add, cell_row hw, Nat.add_assoc, q1]
                have hu' : ∃ z, u = .int .u8 z := by
                  rw [List.getElem?_map, Option.map_eq_some_iff] at hu
                  obtain ⟨z, _, rfl⟩ := hu
                  exact ⟨z, rfl⟩
                obtain ⟨z, rfl⟩ := hu'
                rw [q2.int])
              rw [List.length_map, hnl] at hload
              rw [run_bytesToString w _ _ _ ns hload, foldl_push, hba]
              rfl
        · cases hr
      · cases hr
    · cases hr
  case call c =>
    obtain ⟨callee, args, ts⟩ := c
    cases callee
    case builtin b =>
      cases b
      case len =>
        simp only [opG] at hr
        split at hr
        · rename_i x rest hargs
          split at hr
          · rename_i l y ha
            obtain ⟨off, ex, cs⟩ := y
            have hv := hT _ _ (asS_some ha)
            obtain ⟨p, cap, B, o, C, e, h1, h2, h3, h4, h5, h6⟩ := hv.gslI
            split at hr
            · rename_i t ts' hts
              split at hr
              · rename_i et hu
                cases hr
                have e1 : (⟨args.toList.map ρ⟩ : Array Value) = args.map ρ := by apply Array.ext'; simp
                simp only [execOp, resolve, Sem.run_bind, Sem.run_pure, Result.andThen_ok, invoke]
                rw [← e1, hargs]
                obtain ⟨tl⟩ := ts
                dsimp only at hts
                subst hts
                have h1 : (Builtin.len_ ⟨t :: ts'⟩ type ⟨ρ x :: rest.map ρ⟩).run P w = .ok (.int .i64 l) w := by
                  unfold Builtin.len_
                  have e1 : (⟨t :: ts'⟩ : Array TypeId)[0]? = some t := rfl
                  have e2 : (⟨ρ x :: rest.map ρ⟩ : Array Value)[0]? = some (ρ x) := rfl
                  rw [e1, e2, e]
                  simp only [Sem.run_bind, run_underlying hu, Result.andThen_ok]; rfl
                exact Went.next (.same hh h1 (.plain _ rfl))
              · cases hr
            · cases hr
          · cases hr
        · cases hr
      all_goals (simp [opG] at hr)
    all_goals (simp [opG] at hr)
  all_goals (simp [opG] at hr)

end Go.Proofs.YtachednafdmmaaaDoor.AI
