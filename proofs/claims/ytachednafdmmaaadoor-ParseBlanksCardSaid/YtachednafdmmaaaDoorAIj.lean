/- The abstract interpreter: append, copy, the builtins. -/
import Derived.Test.YtachednafdmmaaaDoorAIi
import Derived.MapKept
import Derived.WideKeyRuns
namespace Go.Proofs.YtachednafdmmaaaDoor.AI
open Go
set_option linter.unusedVariables false
set_option linter.unusedSimpArgs false

variable {P : Program} {gl : Nat → Option Nat} {μ : Mu} {n : Nat} {w : World}

/-- A block is let go. -/
theorem HRel.kill {h : AH} (hh : HRel gl μ h w) {b : Nat} {blk : Blk} (hb : h.get b = some blk) (hro : blk.ro = false) : HRel gl μ (h.kill b) w ∧ Fr μ h w μ (h.kill b) w := by
  have sub : ∀ (i : Nat) (x : Blk), (h.kill b).get i = some x → h.get i = some x := fun i x hx => by
    rw [AH.get_kill] at hx
    split at hx
    · cases hx
    · exact hx
  refine hh.step ⟨fun i x hx => hh.lt i x (sub i x hx), fun i x hx => hh.blk i x (sub i x hx), fun i j bi bj hi hj => hh.sep i j bi bj (sub _ _ hi) (sub _ _ hj), hh.glob⟩
    ⟨rfl, rfl, rfl, Nat.le_refl _, Nat.le_refl _, .refl _ _, fun _ _ _ => rfl, fun B hB => ?_, fun i x hx hr => ?_, fun i x hx _ => sub i x hx⟩ (fun _ _ h => h)
  · obtain ⟨i, x, hi, h1, h2⟩ := hB
    exact .inl ⟨i, x, sub _ _ hi, h1, h2⟩
  · rw [AH.get_kill]
    split
    · rename_i hi
      subst hi
      rw [hb] at hx
      cases hx
      rw [hro] at hr
      cases hr
    · exact hx

/-- A row's place is taken over by a new row. -/
theorem HRel.reuse {h : AH} {w' : World} (a : HRel gl μ h w) {b z : Nat} {cs : List Value} (hb : h.get b = some (.row false z cs)) {C C' : Array Value} {e : TypeId} {fz : Nat × Nat}
    (hr : RowAt μ h.next w (μ b) false z cs C e fz) (hC : C'.size = C.size) (hw : w'.heap[(μ b).b]? = some (.cells C' e fz)) (hk : ∀ k, k ≠ (μ b).b → w'.heap[k]? = w.heap[k]?)
    (hs : w'.heap.size = w.heap.size) (hos : w'.os = w.os) (htp : w'.tape = w.tape) (hout : w'.output = w.output) {o2 s2 : Nat} {cs2 : List Value} (h1 : (μ b).o ≤ o2)
    (h2 : o2 + cs2.length + s2 * z ≤ (μ b).o + cs.length + (μ b).s * z) (hc : ∀ (j : Nat) (v : Value), cs2[j]? = some v → ∃ c, C'[o2 + j]? = some c ∧ VRel μ h.next v c) :
    HRel gl (upd μ h.next ⟨(μ b).b, o2, s2⟩) ((h.kill b).add (.row false z cs2)) w' ∧ Fr μ h w (upd μ h.next ⟨(μ b).b, o2, s2⟩) ((h.kill b).add (.row false z cs2)) w' := by
  have hlt := a.lt b _ hb
  have hext : Ext h.next μ (upd μ h.next ⟨(μ b).b, o2, s2⟩) (fun _ => True) := .upd _ _ _
  have hget : ∀ (i : Nat) (x : Blk), ((h.kill b).add (.row false z cs2)).get i = some x → (i = h.next ∧ x = .row false z cs2) ∨ (i ≠ b ∧ i < h.next ∧ h.get i = some x) := fun i x hx => by
    rw [AH.get_add, AH.next_kill] at hx
    split at hx
    · rename_i hi; cases hx; exact .inl ⟨hi, rfl⟩
    · rw [AH.get_kill] at hx
      split at hx
      · cases hx
      · rename_i hi; exact .inr ⟨hi, a.lt i x hx, hx⟩
  refine a.step ⟨fun i x hx => ?_, fun i x hx => ?_, fun i j bi bj hi hj hne hro => ?_, fun g i hg => ?_⟩ ⟨hos, htp, hout, Nat.le_of_eq hs.symm, Nat.le_succ _, .upd _ _ _, fun B hB hn => ?_, fun B hB => ?_, fun i x hx hro => ?_, fun i x hx hro => ?_⟩ (fun _ _ h => h)
  · show i < h.next + 1
    rcases hget i x hx with ⟨h3, _⟩ | ⟨_, h3, _⟩ <;> omega
  · show BlkAt _ (h.next + 1) w' _ x
    rcases hget i x hx with ⟨rfl, rfl⟩ | ⟨hne, hil, hx'⟩
    · rw [upd_same]
      refine ⟨C', e, fz, hw, ?_, fun j v hj => ?_, fun _ => by rw [hC]; exact hr.fr rfl, fun h => by cases h⟩
      · rw [hC]; exact Nat.le_trans h2 hr.fits
      · obtain ⟨c, h3, h4⟩ := hc j v hj
        exact ⟨c, h3, h4.mono hext (Nat.le_succ _)⟩
    · rw [hext.loc i hil]
      refine (a.blk i x hx').same hext (Nat.le_succ _) (hk _ fun heq => a.sep b i _ x hb hx' (fun h => hne h.symm) rfl heq.symm)
  · rcases hget i bi hi with ⟨rfl, rfl⟩ | ⟨hne1, hil, hi'⟩
    · rcases hget j bj hj with ⟨rfl, rfl⟩ | ⟨hne2, hjl, hj'⟩
      · exact absurd rfl hne
      · rw [upd_same, hext.loc j hjl]
        exact a.sep b j _ bj hb hj' (fun h => hne2 h.symm) rfl
    · rcases hget j bj hj with ⟨rfl, rfl⟩ | ⟨hne2, hjl, hj'⟩
      · rw [upd_same, hext.loc i hil]
        exact a.sep i b bi _ hi' hb hne1 hro
      · rw [hext.loc i hil, hext.loc j hjl]
        exact a.sep i j bi bj hi' hj' hne hro
  · obtain ⟨h3, h4, h5⟩ := a.glob g i hg
    refine ⟨?_, ?_⟩
    · show i < h.next + 1; omega
    · rw [hext.loc i h3]; exact ⟨h4, h5⟩
  · exact hk B fun h3 => hn ⟨b, _, hb, rfl, h3.symm⟩
  · obtain ⟨i, x, hi, hro, hB'⟩ := hB
    rcases hget i x hi with ⟨rfl, rfl⟩ | ⟨hne1, hil, hi'⟩
    · rw [upd_same] at hB'
      exact .inl ⟨b, _, hb, rfl, hB'⟩
    · rw [hext.loc i hil] at hB'
      exact .inl ⟨i, x, hi', hro, hB'⟩
  · rw [AH.get_add, AH.next_kill, if_neg (Nat.ne_of_lt (a.lt i x hx)), AH.get_kill]
    split
    · rename_i hi
      subst hi
      rw [hb] at hx
      cases hx
      cases hro
    · exact hx
  · rcases hget i x hx with ⟨_, rfl⟩ | ⟨_, _, h3⟩
    · cases hro
    · exact h3

theorem Went.drew {h h' : AH} {r : Result Value} {v : Value} (a : Went gl μ h w.drew r v h') : Went gl μ h w r v h' :=
  let ⟨c, w', μ', h1, h2, h3, h4⟩ := a
  ⟨c, w', μ', h1, h2, h3.drew, h4⟩

theorem Went.after {h h1 h' : AH} {w1 : World} {μ1 : Mu} {r : Result Value} {v : Value} (f : Fr μ h w μ1 h1 w1) (a : Went gl μ1 h1 w1 r v h') : Went gl μ h w r v h' :=
  let ⟨c, w', μ', h1, h2, h3, h4⟩ := a
  ⟨c, w', μ', h1, h2, f.trans h3, h4⟩

/-- A slice that has been appended to, in a new row. -/
theorem grown_went {h : AH} (hh : HRel gl μ h w) {e : TypeId} {i : TypeInfo} {zv : Value} (hzs : zv.cells.size = i.size) {l k sCap : Nat} {old new olds news : List Value} (h1 : LRel μ h.next old olds) (h2 : LRel μ h.next new news)
    (hl1 : old.length = l * i.size) (hl2 : new.length = k * i.size) :
    Went gl μ h w (.ok (.slice (some ⟨w.heap.size, 0, none⟩) (l + k) (grownCap w (l + k) sCap e)) (w.drew.alloc (.cells (olds.toArray ++ news.toArray ++ Builtin.zeroCells zv.cells (grownCap w (l + k) sCap e - (l + k))) e)))
      (.slice (some ⟨h.next, 0, none⟩) (l + k) 1) (h.add (.row false i.size (old ++ new))) := by
  have hge := grownCap_ge w (l + k) sCap e
  refine Went.drew ?_
  refine slice_went hh.drew e i.size (grownCap w (l + k) sCap e - (l + k)) _ _ _ (fun j v hj => ?_) ?_ ?_
  · obtain ⟨y, hy, hv⟩ := (h1.append h2).get hj
    refine ⟨y, ?_, hv⟩
    have hlt : j < (olds ++ news).length := by
      rcases Nat.lt_or_ge j (olds ++ news).length with h' | h'
      · exact h'
      · rw [List.getElem?_eq_none h'] at hy; cases hy
    rw [List.length_append] at hlt
    rw [Array.getElem?_append_left (by simp only [Array.size_append, List.size_toArray]; exact hlt)]
    rw [← hy, ← Array.getElem?_toList]
    simp
  · have a1 := h1.1
    have a2 := h2.1
    simp only [Array.size_append, List.size_toArray, size_zeroCells, hzs, List.length_append, a1, a2]
    omega
  · omega

theorem appendA_run {h h' : AH} (hh : HRel gl μ h w) {ts : List TypeId} {ty : TypeId} {s s' x x' v : Value} {rest : List Value} (hr : appendA P h ts s x = some (v, h')) (hs : VRel μ h.next s s') (hx : VRel μ h.next x x') :
    Went gl μ h w ((Builtin.append_ ⟨ts⟩ ty ⟨s' :: x' :: rest⟩).run P w) v h' := by
  unfold appendA at hr
  simp only [forceL_eq] at hr
  split at hr
  · rename_i tS tX ts
    split at hr
    · rename_i e hu
      split at hr
      · cases hr
      · rename_i i hi
        split at hr
        · cases hr
        · cases hr
        · rename_i uX hni hX
          have hni' : ∀ k, uX ≠ .int k := fun k hk => hni k (by rw [hk])
          split at hr
          · cases hr
          · rename_i k new hsrc
            obtain ⟨news, hl, hf, hrel, hlen⟩ := srcA_run (P := P) hh hsrc hx
            obtain ⟨news', hl', hf', hrel', _⟩ := srcA_run (P := P) hh.drew hsrc hx
            split at hr
            · cases hr
            · rename_i zv hz
              obtain ⟨i', hi', hzi⟩ := zeroA_info hz
              rw [hi] at hi'
              cases hi'
              split at hr
              · -- nothing yet
                have hs' := (hs.nilSlice).1
                subst hs'
                cases hk : Nat.beq k 0 with
                | true =>
                  rw [hk] at hr
                  cases hr
                  have hk0 := Nat.eq_of_beq_eq_true hk
                  subst hk0
                  exact .same hh (run_append_room0 hu hi hX hni' hl hf) (.plain _ rfl)
                | false =>
                  rw [hk] at hr
                  simp only [cond_false] at hr
                  have hkp : 0 < k := by
                    rcases Nat.eq_zero_or_pos k with h0 | h0
                    · subst h0; cases hk
                    · exact h0
                  cases hb : (Nat.ble k 4294967296 && Nat.ble i.bytes 32768 && Nat.beq zv.cells.toList.length i.size) with
                  | false => rw [hb] at hr; cases hr
                  | true =>
                    rw [hb] at hr
                    cases hr
                    simp only [Bool.and_eq_true] at hb
                    have b1 := Nat.le_of_ble_eq_true hb.1.1
                    have b2 := Nat.le_of_ble_eq_true hb.1.2
                    have b3 := Nat.eq_of_beq_eq_true hb.2
                    have b4 : k * i.bytes ≤ 4294967296 * 32768 := Nat.mul_le_mul b1 b2
                    have hrun := run_append_grow' (P := P) (w := w) (ts := ts) (ty := ty) (rest := rest) (base := none) (sLen := 0) (sCap := 0) (olds := []) hu hi hzi hX hni' hl hf' rfl (by omega) (by omega)
                      (by rw [Nat.zero_add, nextslicecap_zero hkp]; omega)
                    rw [hrun]
                    have := grown_went (e := e) (sCap := 0) hh (i := i) (zv := zv) (by simpa using b3) (l := 0) (k := k) (LRel.nil) hrel' (by simp) hlen
                    simp only [Nat.zero_add, List.nil_append] at this ⊢
                    exact this
              · rename_i b off l c
                obtain ⟨hb, o', rfl, ho⟩ := hs.slice
                cases hroom : Nat.ble k (c / 2) with
                | true =>
                  rw [hroom] at hr
                  simp only [cond_true] at hr
                  have hrm := Nat.le_of_ble_eq_true hroom
                  cases hk : Nat.beq k 0 with
                  | true =>
                    rw [hk] at hr
                    cases hr
                    have hk0 := Nat.eq_of_beq_eq_true hk
                    subst hk0
                    have hnews : news = [] := List.eq_nil_of_length_eq_zero (by rw [← hrel.1, hlen, Nat.zero_mul])
                    subst hnews
                    refine .same hh ?_ hs
                    have := run_append_room' (P := P) (w := w) (ts := ts) (ty := ty) (rest := rest) (a := ⟨(μ b).b, o', none⟩) (sLen := l) (sCap := l + c / 2 + c % 2 * (μ b).s) (w' := w) hu hi hX hni' hl hf (by omega) rfl
                    rwa [Nat.add_zero] at this
                  | false =>
                    rw [hk] at hr
                    simp only [cond_false] at hr
                    have hkp : 0 < k := by
                      rcases Nat.eq_zero_or_pos k with h0 | h0
                      · subst h0; cases hk
                      · exact h0
                    have ho' : o' = (μ b).o + off := by
                      rcases ho with ho | ⟨_, h2, _⟩
                      · exact ho
                      · subst h2; omega
                    subst ho'
                    split at hr
                    · rename_i h2 hwr
                      cases hr
                      obtain ⟨w', g1, g2, g3, g4⟩ := writeA_run (P := P) hh hwr hrel
                      have hrun := run_append_room' (P := P) (w := w) (ts := ts) (ty := ty) (rest := rest) (a := ⟨(μ b).b, (μ b).o + off, none⟩) (sLen := l) (sCap := l + c / 2 + c % 2 * (μ b).s) (w' := w') hu hi hX hni' hl hf (by omega)
                        (by rw [addr_add, Nat.add_assoc]; exact g1)
                      refine ⟨_, _, _, hrun, g2, g3, ?_⟩
                      rw [g4]
                      have e9 : l + c / 2 + c % 2 * (μ b).s = (l + k) + (c - 2 * k) / 2 + (c - 2 * k) % 2 * (μ b).s := by
                        have : (c - 2 * k) % 2 = c % 2 := by omega
                        rw [this]; omega
                      rw [e9]
                      exact .slc b off (l + k) (c - 2 * k) hb
                    · cases hr
                | false =>
                  rw [hroom] at hr
                  simp only [cond_false] at hr
                  have hrm : ¬ (k ≤ c / 2) := fun h => by rw [Nat.ble_eq_true_of_le h] at hroom; cases hroom
                  cases hbd : (Nat.ble (l + k) 4294967296 && Nat.ble i.bytes 32768 && Nat.beq zv.cells.toList.length i.size) with
                  | false => rw [hbd] at hr; cases hr
                  | true =>
                    rw [hbd] at hr
                    simp only [cond_true] at hr
                    simp only [Bool.and_eq_true] at hbd
                    have b1 := Nat.le_of_ble_eq_true hbd.1.1
                    have b2 := Nat.le_of_ble_eq_true hbd.1.2
                    have b3 := Nat.eq_of_beq_eq_true hbd.2
                    have b4 : (l + k) * i.bytes ≤ 4294967296 * 32768 := Nat.mul_le_mul b1 b2
                    split at hr
                    · cases hr
                    · rename_i old hold
                      obtain ⟨olds, q1, q2, q3⟩ := readA_run hh.drew hold
                      -- what the old cells are, in the model's own words
                      have hfo : ∀ cap, (Builtin.firstCells i.size l (.slice (some ⟨(μ b).b, o', none⟩) l cap)).run P w.drew = .ok olds.toArray w.drew := by
                        intro cap
                        rcases ho with ho | ⟨h0, _, _⟩
                        · subst ho
                          exact run_firstCells_some w.drew i.size l _ _ _ olds q1 q3
                        · subst h0
                          have : olds = [] := List.eq_nil_of_length_eq_zero (by rw [q1, Nat.zero_mul])
                          subst this
                          simp [Builtin.firstCells, loadCells, loadCellsFrom]
                      have hgrow : ∀ cap, cap < l + k → (Builtin.append_ ⟨tS :: tX :: ts⟩ ty ⟨.slice (some ⟨(μ b).b, o', none⟩) l cap :: x' :: rest⟩).run P w = _ := fun cap hc =>
                        run_append_grow' (P := P) (w := w) (ts := ts) (ty := ty) (rest := rest) hu hi hzi hX hni' hl hf' (hfo cap) hc (by omega) (growslice_fits hc (by omega))
                      have hoL : old.length = l * i.size := by rw [q2.1, q1]
                      cases hpar : Nat.beq (c % 2) 0 with
                      | true =>
                        rw [hpar] at hr
                        cases hr
                        have hp := Nat.eq_of_beq_eq_true hpar
                        rw [hgrow _ (by rw [hp, Nat.zero_mul]; omega)]
                        exact grown_went hh (by simpa using b3) q2 hrel' hoL hlen
                      | false =>
                        rw [hpar] at hr
                        simp only [cond_false] at hr
                        have hp : c % 2 = 1 := by
                          rcases Nat.mod_two_eq_zero_or_one c with h0 | h0
                          · rw [h0] at hpar; cases hpar
                          · exact h0
                        split at hr
                        · rename_i z cs hg
                          cases hal : (Nat.beq z i.size && Nat.beq (off + (l + c / 2) * z) cs.length && !Nat.beq z 0 && new.all one1) with
                          | false => rw [hal] at hr; cases hr
                          | true =>
                            rw [hal] at hr
                            cases hr
                            simp only [Bool.and_eq_true] at hal
                            have a1 := Nat.eq_of_beq_eq_true hal.1.1.1
                            have a2 := Nat.eq_of_beq_eq_true hal.1.1.2
                            subst a1
                            by_cases hin : l + k ≤ l + c / 2 + c % 2 * (μ b).s
                            · -- there is room behind
                              have ho' : o' = (μ b).o + off := by
                                rcases ho with ho | ⟨h0, h2, h3⟩
                                · exact ho
                                · rw [h3, Nat.mul_zero] at hin; omega
                              subst ho'
                              rw [hp, Nat.one_mul] at hin
                              obtain ⟨C, eT, fz, hra⟩ := hh.blk _ _ hg
                              have hfit := hra.fits
                              have hkl : news.length = k * i.size := by rw [← hrel.1, hlen]
                              have m1 : (l + k) * i.size ≤ (l + c / 2 + (μ b).s) * i.size := Nat.mul_le_mul_right _ hin
                              rw [Nat.add_mul, Nat.add_mul] at m1
                              obtain ⟨C', w', g1, g2, g3, g4, g5, g6, g7, g8, g9⟩ := run_storeCells_row (P := P) (μ b).b ((μ b).o + off + l * i.size) eT fz news 0 C w hra.at_ (by omega)
                                (fun j h0 h1 => hra.free rfl j (by omega) (by omega)) (hrel.one1 hal.2)
                              have hrun := run_append_room' (P := P) (w := w) (ts := ts) (ty := ty) (rest := rest) (a := ⟨(μ b).b, (μ b).o + off, none⟩) (sLen := l) (sCap := l + c / 2 + c % 2 * (μ b).s) (w' := w') hu hi hX hni' hl hf (by rw [hp, Nat.one_mul]; exact hin)
                                (by rw [addr_add]; exact g1)
                              have m2 : ((μ b).s - (k - c / 2)) * i.size + (l * i.size + k * i.size) = (l + c / 2) * i.size + (μ b).s * i.size := by
                                rw [← Nat.add_mul, ← Nat.add_mul, ← Nat.add_mul]
                                congr 1
                                omega
                              have hre := hh.reuse (w' := w') hg hra g3 g2 g5 g6 g7 g8 g9 (o2 := (μ b).o + off) (s2 := (μ b).s - (k - c / 2)) (cs2 := old ++ new) (by omega)
                                (by rw [List.length_append, hoL, hlen]; omega) (fun j v hj => by
                                  rw [g4]
                                  by_cases hjl : j < l * i.size
                                  · rw [if_neg (by omega)]
                                    rw [List.getElem?_append_left (by omega)] at hj
                                    obtain ⟨y, hy, hv⟩ := q2.get hj
                                    refine ⟨y, ?_, hv⟩
                                    have := q3 j y hy
                                    rw [addr_add] at this
                                    have h9 : w.drew.heap[(μ b).b]? = some (.cells C eT fz) := hra.at_
                                    rw [cell_row h9] at this
                                    exact this
                                  · rw [List.getElem?_append_right (by omega), hoL] at hj
                                    obtain ⟨y, hy, hv⟩ := hrel.get hj
                                    have hjk : j - l * i.size < news.length := by
                                      rcases Nat.lt_or_ge (j - l * i.size) news.length with h' | h'
                                      · exact h'
                                      · rw [List.getElem?_eq_none h'] at hy; cases hy
                                    rw [if_pos (by omega)]
                                    refine ⟨y, ?_, hv⟩
                                    rw [← hy]
                                    congr 1
                                    omega)
                              refine ⟨_, _, _, hrun, hre.1, hre.2, ?_⟩
                              have hv := VRel.slcE (μ := upd μ h.next ⟨(μ b).b, (μ b).o + off, (μ b).s - (k - c / 2)⟩) (n := ((h.kill b).add (.row false i.size (old ++ new))).next) (b := h.next) (o := 0) (l := l + k) (c := 1) (k := l + c / 2 + c % 2 * (μ b).s)
                                (by show h.next < h.next + 1; omega) (by rw [upd_same, hp, Nat.one_mul]; show _ = _ + 1 % 2 * ((μ b).s - (k - c / 2)); omega)
                              rw [upd_same] at hv
                              exact hv
                            · rw [hgrow _ (by omega)]
                              have hkl := hh.kill hg rfl
                              have := grown_went (e := e) (sCap := l + c / 2 + c % 2 * (μ b).s) hkl.1 (i := i) (zv := zv) (by simpa using b3) (l := l) (k := k) q2 hrel' hoL hlen
                              exact .after hkl.2 this
                        · cases hr
              · rename_i t l off ex cs
                cases hq : (Nat.beq t 4294967296 && ex) with
                | false => rw [hq] at hr; cases hr
                | true =>
                  rw [hq] at hr
                  simp only [cond_true] at hr
                  obtain ⟨ht, hex⟩ := Bool.and_eq_true_iff.1 hq
                  have ht := Nat.eq_of_beq_eq_true ht
                  subst ht hex
                  cases h0 : Nat.ble (off + l * i.size) cs.length with
                  | false => rw [h0] at hr; cases hr
                  | true =>
                    rw [h0] at hr
                    simp only [cond_true] at hr
                    have hs0 : VRel μ h.next (gslV l off true cs) s' := hs
                    obtain ⟨p, cap, B, o, C, e1, g1, g2, g3, g4, g5, g6⟩ := hs0.gslI
                    have hcap := g1 rfl
                    subst hcap
                    have hsA : srcA h i.size (gslV cap off true cs) = some (cap, (cs.drop off).take (cap * i.size)) := by
                      show (bif Nat.beq 4294967296 4294967296 then (bif Nat.ble (off + cap * i.size) cs.length then some (cap, (cs.drop off).take (cap * i.size)) else none) else none) = _
                      rw [h0]; rfl
                    cases hk : Nat.beq k 0 with
                    | true =>
                      rw [hk] at hr
                      cases hr
                      have hk0 := Nat.eq_of_beq_eq_true hk
                      subst hk0
                      have hnews : news = [] := List.eq_nil_of_length_eq_zero (by rw [← hrel.1, hlen, Nat.zero_mul])
                      subst hnews
                      refine .same hh ?_ hs0
                      rw [e1]
                      cases p with
                      | none =>
                        have := g4 rfl
                        subst this
                        exact run_append_room0 hu hi hX hni' hl hf
                      | some pa =>
                        have := run_append_room' (P := P) (w := w) (ts := ts) (ty := ty) (rest := rest) (a := pa) (sLen := cap) (sCap := cap) (w' := w) hu hi hX hni' hl hf (by omega) rfl
                        rwa [Nat.add_zero] at this
                    | false =>
                      rw [hk] at hr
                      simp only [cond_false] at hr
                      have hkp : 0 < k := by
                        rcases Nat.eq_zero_or_pos k with h0 | h0
                        · subst h0; cases hk
                        · exact h0
                      cases hbd : (Nat.ble (cap + k) 4294967296 && Nat.ble i.bytes 32768 && Nat.beq zv.cells.toList.length i.size) with
                      | false => rw [hbd] at hr; cases hr
                      | true =>
                        rw [hbd] at hr
                        cases hr
                        simp only [Bool.and_eq_true] at hbd
                        have b1 := Nat.le_of_ble_eq_true hbd.1.1
                        have b2 := Nat.le_of_ble_eq_true hbd.1.2
                        have b3 := Nat.eq_of_beq_eq_true hbd.2
                        have b4 : (cap + k) * i.bytes ≤ 4294967296 * 32768 := Nat.mul_le_mul b1 b2
                        obtain ⟨olds, _, q1, q2, q3⟩ := srcA_run (P := P) hh.drew hsA (show VRel μ h.next (gslV cap off true cs) s' from hs0)
                        have hgrow := run_append_grow' (P := P) (w := w) (ts := ts) (ty := ty) (rest := rest) (base := p) (sLen := cap) (sCap := cap) hu hi hzi hX hni' hl hf' (by rw [← e1]; exact q1) (by omega) (by omega) (growslice_fits (by omega) (by omega))
                        rw [e1, hgrow]
                        exact grown_went hh (by simpa using b3) q2 hrel' q3 hlen
              · cases hr
    · cases hr
  · cases hr


theorem keyA_run : ∀ (d : Nat) (t : TypeId) (v : Value), keyA P d t v = true → ∀ {c : Value}, VRel μ n v c → ∀ em, (Instr.checkKey em d t c).run P w = .ok () w := by
  intro d
  induction d with
  | zero => intro t v h; cases h
  | succ d ih =>
    intro t v h c hv em
    unfold keyA at h
    unfold Instr.checkKey
    split at h
    · rename_i hu
      simp only [Sem.run_bind, run_underlying hu, Result.andThen_ok]; rfl
    · rename_i hu
      simp only [Sem.run_bind, run_underlying hu, Result.andThen_ok]; rfl
    · rename_i hu
      simp only [Sem.run_bind, run_underlying hu, Result.andThen_ok]; rfl
    · rename_i fs hu
      split at h
      · rename_i cs
        obtain ⟨ys, rfl, hl⟩ := hv.aggI
        simp only [Sem.run_bind, run_underlying hu, Result.andThen_ok]
        simp only [← Array.forIn_toList]
        generalize fs.toList = L at h
        induction L with
        | nil => rfl
        | cons f L ihl =>
          unfold keyF at h
          simp only [Bool.and_eq_true] at h
          obtain ⟨hk1, hk2⟩ := h
          split at hk1
          · rename_i a ha
            obtain ⟨a', ra, va⟩ := partA_run (P := P) (w := w) ha hl
            have hc := ih f.type a hk1 va em
            have iht := ihl hk2
            by_cases hn : f.name = "_"
            · simp only [List.forIn_cons, Sem.run_bind, hn, ne_eq, not_true_eq_false, if_false, Result.andThen_ok, Sem.run_pure]
              exact iht
            · simp only [List.forIn_cons, Sem.run_bind, hn, ne_eq, not_false_eq_true, if_true, Result.andThen_ok, ra, hc, Sem.run_pure]
              exact iht
          · cases hk1
      · cases h
    · cases h

/-- Entries as the abstract heap knows them. -/
def EsRel (μ : Mu) (n : Nat) (es : List (Value × Value)) (E : List MapEntry) : Prop := LRel μ n (es.map (·.1)) (E.map (·.key)) ∧ LRel μ n (es.map (·.2)) (E.map (·.val))

theorem EsRel.nil : EsRel μ n [] [] := ⟨.nil, .nil⟩
theorem EsRel.cons_inv {e : Value × Value} {es : List (Value × Value)} {E : List MapEntry} (h : EsRel μ n (e :: es) E) : ∃ x E', E = x :: E' ∧ VRel μ n e.1 x.key ∧ VRel μ n e.2 x.val ∧ EsRel μ n es E' := by
  cases E with
  | nil => have := h.1.1; simp at this
  | cons x E' =>
    obtain ⟨h1, h2⟩ := h
    simp only [List.map_cons] at h1 h2
    exact ⟨x, E', rfl, h1.head, h2.head, h1.tail, h2.tail⟩

/-- What a search tells. -/
def FRel (μ : Mu) (n : Nat) : Option (Nat × Value) → Option (Nat × Value) → Prop
  | none, none => True
  | some (i, v), some (j, c) => i = j ∧ VRel μ n v c
  | _, _ => False

theorem findAsk_run {t : TypeId} {k k' : Value} (hk : VRel μ n k k') : ∀ (es : List (Value × Value)) (E : List MapEntry) (i : Nat) (r : Option (Nat × Value)), findA P t k es i = some r → EsRel μ n es E →
    ∃ r', (Instr.findAsking t k' E i).run P w = .ok r' w ∧ FRel μ n r r' := by
  intro es
  induction es with
  | nil =>
    intro E i r h hE
    cases h
    have : E = [] := List.eq_nil_of_length_eq_zero (by have := hE.1.1; simpa using this.symm)
    subst this
    exact ⟨none, rfl, trivial⟩
  | cons e es ih =>
    intro E i r h hE
    obtain ⟨x, E', rfl, h1, h2, h3⟩ := hE.cons_inv
    unfold findA at h
    unfold Instr.findAsking
    split at h
    · rename_i ha
      cases h
      have hq := aeqD_run (P := P) (w := w) 10000 t k e.1 true ha hk h1
      refine ⟨some (i, x.val), ?_, rfl, h2⟩
      simp only [Sem.run_bind, Op.equal, Op.maxDepth, hq, Result.andThen_ok, if_true, Sem.run_pure]
    · rename_i ha
      have hq := aeqD_run (P := P) (w := w) 10000 t k e.1 false ha hk h1
      obtain ⟨r', g1, g2⟩ := ih E' (i + 1) r h h3
      refine ⟨r', ?_, g2⟩
      simp only [Sem.run_bind, Op.equal, Op.maxDepth, hq, Result.andThen_ok, Bool.false_eq_true, if_false, g1]
    · cases h

theorem sameNow_of {d : Nat} {t : TypeId} {a b a' b' : Value} {u : TypeDesc} {r : Bool} (hu : P.underlying t = some u) (h : aeqD P (d + 1) t a b = some r) (ha : VRel μ n a a') (hb : VRel μ n b b')
    (hp : u = .bool ∨ (∃ k, u = .int k) ∨ u = .string) : Instr.sameNow u a' b' = some r := by
  unfold aeqD at h
  rw [hu] at h
  rcases hp with rfl | ⟨k, rfl⟩ | rfl
  · dsimp only at h
    split at h
    · cases h; rw [ha.bool, hb.bool]; rfl
    · cases h
  · dsimp only at h
    split at h
    · split at h
      · rename_i hk
        cases h
        rw [ha.int, hb.int]
        simp [Instr.sameNow, hk]
      · cases h
    · cases h
  · dsimp only at h
    split at h
    · cases h; rw [ha.string, hb.string]; simp [Instr.sameNow, beq_bytes]
    · cases h

theorem findNow_run {t : TypeId} {u : TypeDesc} (hu : P.underlying t = some u) (hp : u = .bool ∨ (∃ k, u = .int k) ∨ u = .string) {k k' : Value} (hk : VRel μ n k k') : ∀ (es : List (Value × Value)) (E : List MapEntry) (i : Nat) (r : Option (Nat × Value)),
    findA P t k es i = some r → EsRel μ n es E → ∃ r', Instr.findNow u k' E i = some r' ∧ FRel μ n r r' := by
  intro es
  induction es with
  | nil =>
    intro E i r h hE
    cases h
    have : E = [] := List.eq_nil_of_length_eq_zero (by have := hE.1.1; simpa using this.symm)
    subst this
    exact ⟨none, rfl, trivial⟩
  | cons e es ih =>
    intro E i r h hE
    obtain ⟨x, E', rfl, h1, h2, h3⟩ := hE.cons_inv
    unfold findA at h
    unfold Instr.findNow
    split at h
    · rename_i ha
      cases h
      rw [sameNow_of hu ha hk h1 hp]
      exact ⟨_, rfl, rfl, h2⟩
    · rename_i ha
      rw [sameNow_of hu ha hk h1 hp]
      exact ih E' (i + 1) r h h3
    · cases h

theorem findA_run {t : TypeId} {u : TypeDesc} (hu : P.underlying t = some u) {k k' : Value} (hk : VRel μ n k k') {es : List (Value × Value)} {E : List MapEntry} {r : Option (Nat × Value)} (h : findA P t k es 0 = some r) (hE : EsRel μ n es E) :
    ∃ r', (Instr.findKey t k' E).run P w = .ok r' w ∧ FRel μ n r r' := by
  unfold Instr.findKey
  simp only [Sem.run_bind, run_underlying hu, Result.andThen_ok]
  by_cases hp : u = .bool ∨ (∃ k, u = .int k) ∨ u = .string
  · obtain ⟨r', h1, h2⟩ := findNow_run hu hp hk es E 0 r h hE
    exact ⟨r', by rw [h1]; rfl, h2⟩
  · cases es with
    | nil =>
      cases h
      have : E = [] := List.eq_nil_of_length_eq_zero (by have := hE.1.1; simpa using this.symm)
      subst this
      exact ⟨none, rfl, trivial⟩
    | cons e es =>
      obtain ⟨r', h1, h2⟩ := findAsk_run (P := P) (w := w) hk (e :: es) E 0 r h hE
      refine ⟨r', ?_, h2⟩
      obtain ⟨x, E', rfl, _⟩ := hE.cons_inv
      have hnone : Instr.findNow u k' (x :: E') 0 = none := by
        unfold Instr.findNow
        have : Instr.sameNow u k' x.key = none := by
          cases u <;> first
            | rfl
            | exact absurd (.inl rfl) hp
            | exact absurd (.inr (.inl ⟨_, rfl⟩)) hp
            | exact absurd (.inr (.inr rfl)) hp
        rw [this]
      rw [hnone]
      exact h1

theorem mapEs_rel {h : AH} (hh : HRel gl μ h w) {m m' : Value} (hm : VRel μ h.next m m') {es : List (Value × Value)} (he : mapEs h m = some es) :
    (m' = .map none ∧ es = []) ∨ ∃ r E clock, m' = .map (some (μ r).b) ∧ w.heap[(μ r).b]? = some (.map E clock) ∧ EsRel μ h.next es E.toList := by
  unfold mapEs at he
  split at he
  · cases he; exact .inl ⟨hm.nilMap, rfl⟩
  · split at he
    · rename_i r ro es' hb
      cases he
      obtain ⟨_, e⟩ := hm.mapI
      obtain ⟨E, clock, h1, h2, h3⟩ := hh.blk _ _ hb
      exact .inr ⟨_, E, clock, e, h1, h2, h3⟩
    · cases he
  · cases he

theorem lookupA_run {h : AH} (hh : HRel gl μ h w) {t : TypeId} {m m' k k' v : Value} {ok : Bool} (hr : lookupA P h t m k ok = some v) (hm : VRel μ h.next m m') (hk : VRel μ h.next k k') :
    ∃ c, (Instr.lookup t m' k' ok).run P w = .ok c w ∧ VRel μ h.next v c := by
  unfold lookupA at hr
  split at hr
  · rename_i kt e hu
    split at hr
    · rename_i es hes
      cases hkey : keyA P 10000 kt k with
      | false => rw [hkey] at hr; cases hr
      | true =>
        rw [hkey] at hr
        simp only [cond_true] at hr
        have hchk := keyA_run (P := P) (w := w) 10000 kt k hkey hk
        have fin : ∀ (E : Array MapEntry), EsRel μ h.next es E.toList → ∃ c, ((do
            Instr.checkKey E.isEmpty 10000 kt k'
            let (v, ok') ← match ← Instr.findKey kt k' E.toList with
              | some (_, v) => pure (v, true)
              | none => pure (← zeroValue e, false)
            pure (if ok then .tuple #[v, .bool ok'] else v) : Sem Value)).run P w = .ok c w ∧ VRel μ h.next v c := by
          intro E hE
          have hkt : ∃ u, P.underlying kt = some u := by
            unfold keyA at hkey
            cases hq : P.underlying kt with
            | none => rw [hq] at hkey; cases hkey
            | some u => exact ⟨u, rfl⟩
          obtain ⟨u, hkt⟩ := hkt
          split at hr
          · rename_i i x hf
            have hr : (bif kindOk P e x then some (bif ok then Value.tuple ⟨[x, .bool true]⟩ else x) else none) = some v := hr
            cases hk2 : kindOk P e x with
            | false => rw [hk2] at hr; cases hr
            | true =>
            rw [hk2] at hr
            simp only [cond_true] at hr
            cases hr
            obtain ⟨r', h1, h2⟩ := findA_run (P := P) (w := w) hkt hk hf hE
            cases r' with
            | none => exact h2.elim
            | some y =>
              obtain ⟨j, c⟩ := y
              obtain ⟨_, hv⟩ := h2
              cases ok with
              | true => exact ⟨.tuple ⟨[c, .bool true]⟩, by simp only [Sem.run_bind, hchk, h1, Result.andThen_ok, Sem.run_pure, if_true], .tuple _ ⟨[c, .bool true]⟩ rfl (LRel.cons hv (.one (.plain _ rfl))).2⟩
              | false => exact ⟨_, by simp only [Sem.run_bind, hchk, h1, Result.andThen_ok, Sem.run_pure, Bool.false_eq_true, if_false], hv⟩
          · rename_i hf
            split at hr
            · rename_i z hz
              cases hr
              obtain ⟨r', h1, h2⟩ := findA_run (P := P) (w := w) hkt hk hf hE
              obtain ⟨z1, z2⟩ := zeroA_run (P := P) (μ := μ) (n := h.next) (w := w) hz
              cases r' with
              | some y => exact h2.elim
              | none =>
                cases ok with
                | true => exact ⟨_, by simp only [Sem.run_bind, hchk, h1, z1, Result.andThen_ok, Sem.run_pure, if_true], .tuple _ _ rfl (LRel.cons z2 (.one (.plain _ rfl))).2⟩
                | false => exact ⟨_, by simp only [Sem.run_bind, hchk, h1, z1, Result.andThen_ok, Sem.run_pure, Bool.false_eq_true, if_false], z2⟩
            · cases hr
          · cases hr
        unfold Instr.lookup
        simp only [Sem.run_bind, run_underlying hu, Result.andThen_ok]
        rcases mapEs_rel hh hm hes with ⟨rfl, rfl⟩ | ⟨r, E, clock, rfl, hb, hE⟩
        · obtain ⟨c, h1, h2⟩ := fin #[] .nil
          refine ⟨c, ?_, h2⟩
          simp only [Sem.run_bind] at h1
          simp only [Sem.run_pure, Result.andThen_ok, Sem.run_bind]
          exact h1
        · obtain ⟨c, h1, h2⟩ := fin E hE
          refine ⟨c, ?_, h2⟩
          simp only [Sem.run_bind] at h1
          simp only [Sem.run_bind, Go.MapKept.run_getObj_map hb, Sem.run_pure, Result.andThen_ok]
          exact h1
    · cases hr
  · cases hr

theorem sameA_run {a b a' b' : Value} (h : sameA a b = true) (ha : VRel μ n a a') (hb : VRel μ n b b') (d : Nat) : Instr.sameBits d a' b' = true := by
  unfold sameA at h
  split at h
  · rw [ha.string, hb.string]; simp only [Instr.sameBits, beq_bytes]; exact h
  · rw [ha.int, hb.int]; simpa [Instr.sameBits] using h
  · rw [ha.bool, hb.bool]; simpa [Instr.sameBits] using h
  · cases h

/-- A new map. -/
theorem HRel.allocMp {h : AH} (a : HRel gl μ h w) : HRel gl (upd μ h.next ⟨w.heap.size, 0, 0⟩) (h.add (.mp false [])) (w.alloc (.map #[] 0)) ∧ Fr μ h w (upd μ h.next ⟨w.heap.size, 0, 0⟩) (h.add (.mp false [])) (w.alloc (.map #[] 0)) := by
  have hext : Ext h.next μ (upd μ h.next ⟨w.heap.size, 0, 0⟩) (fun _ => True) := .upd _ _ _
  have hold : ∀ k, k < w.heap.size → (w.alloc (.map #[] 0)).heap[k]? = w.heap[k]? := fun k hk => by
    show (w.heap.push _)[k]? = _
    rw [Array.getElem?_push, if_neg (by omega)]
  have hnew : (w.alloc (.map #[] 0)).heap[w.heap.size]? = some (.map #[] 0) := by
    show (w.heap.push _)[w.heap.size]? = _
    rw [Array.getElem?_push, if_pos rfl]
  refine a.step ⟨fun i b hb => ?_, fun i b hb => ?_, fun i j bi bj hi hj hne hr => ?_, fun g i hg => ?_⟩ ⟨rfl, rfl, rfl, by rw [World.size_alloc]; omega, Nat.le_succ _, .upd _ _ _, fun B hB _ => hold B hB, fun B hB => ?_, fun i b hb hr => ?_, fun i b hb hr => ?_⟩ (fun _ _ h => h)
  · rw [AH.get_add] at hb
    rw [AH.next_add]
    split at hb
    · omega
    · have := a.lt i b hb; omega
  · rw [AH.get_add] at hb
    rw [AH.next_add]
    split at hb
    · rename_i hi
      cases hb
      subst hi
      rw [upd_same]
      exact ⟨#[], 0, hnew, .nil, .nil⟩
    · rename_i hi
      have hlt := a.lt i b hb
      rw [hext.loc i hlt]
      exact (a.blk i b hb).same hext (Nat.le_succ _) (hold _ (a.blk i b hb).lt)
  · rw [AH.get_add] at hi hj
    split at hi
    · rename_i h1
      split at hj
      · omega
      · subst h1
        rw [upd_same, hext.loc j (a.lt j bj hj)]
        exact Nat.ne_of_gt (a.blk j bj hj).lt
    · split at hj
      · rename_i h1 h2
        subst h2
        rw [upd_same, hext.loc i (a.lt i bi hi)]
        exact Nat.ne_of_lt (a.blk i bi hi).lt
      · rw [hext.loc i (a.lt i bi hi), hext.loc j (a.lt j bj hj)]
        exact a.sep i j bi bj hi hj hne hr
  · obtain ⟨h1, h2, h3⟩ := a.glob g i hg
    rw [AH.next_add, hext.loc i h1]
    exact ⟨by omega, h2, h3⟩
  · obtain ⟨i, b, hi, hr, hb⟩ := hB
    rw [AH.get_add] at hi
    split at hi
    · rename_i h1
      subst h1
      rw [upd_same] at hb
      exact .inr (Nat.le_of_eq hb)
    · rw [hext.loc i (a.lt i b hi)] at hb
      exact .inl ⟨i, b, hi, hr, hb⟩
  · rw [AH.get_add, if_neg (Nat.ne_of_lt (a.lt i b hb))]
    exact hb
  · rw [AH.get_add] at hb
    split at hb
    · cases hb; cases hr
    · exact hb

theorem makeMap_went {h : AH} (hh : HRel gl μ h w) : Went gl μ h w (.ok (.map (some w.heap.size)) (w.alloc (.map #[] 0))) (.map (some h.next)) (h.add (.mp false [])) := by
  obtain ⟨h1, h2⟩ := hh.allocMp
  refine ⟨_, _, _, rfl, h1, h2, ?_⟩
  have := VRel.mp (μ := upd μ h.next ⟨w.heap.size, 0, 0⟩) (n := (h.add (.mp false [])).next) h.next (by rw [AH.next_add]; omega)
  rw [upd_same] at this
  exact this

/-- A map is written. -/
theorem HRel.setMp {h : AH} (a : HRel gl μ h w) {r : Nat} {es es' : List (Value × Value)} (hi : h.get r = some (.mp false es)) {E E' : Array MapEntry} {clock clock' : Nat} (hw : w.heap[(μ r).b]? = some (.map E clock)) (hE : EsRel μ h.next es' E'.toList) :
    HRel gl μ (h.put r (.mp false es')) { w with heap := w.heap.setIfInBounds (μ r).b (.map E' clock') } ∧ Fr μ h w μ (h.put r (.mp false es')) { w with heap := w.heap.setIfInBounds (μ r).b (.map E' clock') } := by
  have hlt := a.lt r _ hi
  obtain ⟨hb1, hb2⟩ := Go.MapKept.heap_set (o' := .map E' clock') hw
  refine a.step ⟨fun j b hb => ?_, fun j b hb => ?_, fun j k bj bk hj hk' hne hro => ?_, fun g j hg => a.glob g j hg⟩ ⟨rfl, rfl, rfl, by simp, Nat.le_refl _, .refl _ _, fun B hB hn => ?_, fun B hB => ?_, fun j b hb hro => ?_, fun j b hb hro => ?_⟩ (fun _ _ h => h)
  · rw [AH.get_put] at hb
    split at hb
    · rename_i h1; rw [h1]; exact hlt
    · exact a.lt j b hb
  · rw [AH.get_put] at hb
    split at hb
    · rename_i h1
      subst h1
      cases hb
      exact ⟨E', clock', hb1, hE.1, hE.2⟩
    · rename_i h1
      refine (a.blk j b hb).same (Ext.rf _ _) (Nat.le_refl _) (hb2 _ ?_)
      exact fun heq => a.sep r j _ b hi hb (fun h => h1 h.symm) rfl heq.symm
  · rw [AH.get_put] at hj hk'
    split at hj
    · rename_i h1
      subst h1
      split at hk'
      · rename_i h2; exact absurd h2.symm hne
      · exact a.sep j k _ bk hi hk' hne rfl
    · split at hk'
      · rename_i h1 h2
        subst h2
        exact a.sep j k bj _ hj hi hne hro
      · exact a.sep j k bj bk hj hk' hne hro
  · exact hb2 B fun h1 => hn ⟨r, _, hi, rfl, h1.symm⟩
  · obtain ⟨j, b, hj, hro, hb⟩ := hB
    rw [AH.get_put] at hj
    split at hj
    · rename_i h1
      subst h1
      exact .inl ⟨j, _, hi, rfl, hb⟩
    · exact .inl ⟨j, b, hj, hro, hb⟩
  · rw [AH.get_put]
    split
    · rename_i h1
      subst h1
      rw [hi] at hb
      cases hb
      cases hro
    · exact hb
  · rw [AH.get_put] at hb
    split at hb
    · cases hb; cases hro
    · exact hb

theorem LRel.set {xs ys : List Value} (h : LRel μ n xs ys) (i : Nat) {x y : Value} (hv : VRel μ n x y) : LRel μ n (xs.set i x) (ys.set i y) := by
  refine ⟨by simp [h.1], fun j a b ha hb => ?_⟩
  rw [List.getElem?_set] at ha hb
  by_cases hij : i = j
  · rw [if_pos hij] at ha hb
    split at ha
    · split at hb
      · cases ha; cases hb; exact hv
      · cases hb
    · cases ha
  · rw [if_neg hij] at ha hb
    exact h.2 j a b ha hb

theorem mapPutA_run {h h' : AH} (hh : HRel gl μ h w) {t : TypeId} {m m' k k' v v' : Value} (hr : mapPutA P h t m k v = some h') (hm : VRel μ h.next m m') (hk : VRel μ h.next k k') (hv : VRel μ h.next v v') :
    ∃ w', (Instr.mapUpdate t m' k' v').run P w = .ok () w' ∧ HRel gl μ h' w' ∧ Fr μ h w μ h' w' := by
  unfold mapPutA at hr
  split at hr
  · rename_i kt e hu
    split at hr
    · rename_i r
      split at hr
      · rename_i es hes
        cases hkey : keyA P 10000 kt k with
        | false => rw [hkey] at hr; cases hr
        | true =>
          rw [hkey] at hr
          simp only [cond_true] at hr
          have hchk := keyA_run (P := P) (w := w) 10000 kt k hkey hk
          obtain ⟨_, rfl⟩ := hm.mapI
          obtain ⟨E, clock, hb, hE1, hE2⟩ := hh.blk _ _ hes
          have hkt : ∃ u, P.underlying kt = some u := by
            unfold keyA at hkey
            cases hq : P.underlying kt with
            | none => rw [hq] at hkey; cases hkey
            | some u => exact ⟨u, rfl⟩
          obtain ⟨u, hkt⟩ := hkt
          unfold Instr.mapUpdate
          simp only [Sem.run_bind, run_underlying hu, Result.andThen_ok, Go.MapKept.run_getObj_map hb, hchk]
          split at hr
          · rename_i i x hf
            obtain ⟨r', h1, h2⟩ := findA_run (P := P) (w := w) hkt hk hf ⟨hE1, hE2⟩
            cases r' with
            | none => exact h2.elim
            | some y =>
              obtain ⟨j, c⟩ := y
              obtain ⟨rfl, _⟩ := h2
              split at hr
              · rename_i e0 he0
                cases hs : sameA e0.1 k with
                | false => rw [hs] at hr; cases hr
                | true =>
                  rw [hs] at hr
                  cases hr
                  have hek : (es.map (·.1))[i]? = some e0.1 := by rw [List.getElem?_map, he0]; rfl
                  obtain ⟨y, hy, hy2⟩ := hE1.get hek
                  have hsb := sameA_run hs hy2 hk 10000
                  have hEi : (E[i]?).map (·.key) = some y := by
                    rw [← Array.getElem?_toList, ← List.getElem?_map]; exact hy
                  have hkeep : (Instr.keyThatStays (((E[i]?).map (·.key)).getD k') k').run P w = .ok k' w := by
                    rw [hEi]
                    unfold Instr.keyThatStays
                    rw [Option.getD_some, if_pos hsb]; rfl
                  have hset : EsRel μ h.next (es.set i (k, v)) (E.modify i fun e => { e with key := k', val := v' }).toList := by
                    have em : (E.modify i fun e => { e with key := k', val := v' }).toList = E.toList.modify i fun e => { e with key := k', val := v' } := by simp
                    have mapset : ∀ {β : Type} (f : MapEntry → β) (y : β), (∀ e : MapEntry, f { e with key := k', val := v' } = y) → (E.toList.modify i fun e => { e with key := k', val := v' }).map f = (E.toList.map f).set i y := by
                      intro β f y hf
                      apply List.ext_getElem?
                      intro j
                      rw [List.getElem?_map, List.getElem?_modify, List.getElem?_set, List.getElem?_map, List.length_map]
                      by_cases hij : i = j
                      · subst hij
                        simp only [if_true]
                        cases hq : E.toList[i]? with
                        | none =>
                          rw [if_neg (by rw [List.getElem?_eq_none_iff] at hq; omega)]; rfl
                        | some q =>
                          rw [if_pos (List.getElem?_eq_some_iff.1 hq).1]; simp [hf]
                      · simp only [if_neg hij]; cases E.toList[j]? <;> rfl
                    rw [em]
                    refine ⟨?_, ?_⟩
                    · rw [mapset (·.key) k' (fun _ => rfl), List.map_set]
                      exact hE1.set i hk
                    · rw [mapset (·.val) v' (fun _ => rfl), List.map_set]
                      exact hE2.set i hv
                  obtain ⟨g1, g2⟩ := hh.setMp (clock' := clock) hes hb hset
                  refine ⟨_, ?_, g1, g2⟩
                  simp only [h1, Result.andThen_ok, Sem.run_bind, hkeep, Go.MapKept.run_setObj_map _ hb]
              · cases hr
          · rename_i hf
            cases hr
            obtain ⟨r', h1, h2⟩ := findA_run (P := P) (w := w) hkt hk hf ⟨hE1, hE2⟩
            cases r' with
            | some y => exact h2.elim
            | none =>
              have hset : EsRel μ h.next (es ++ [(k, v)]) (E.push { key := k', val := v', born := clock }).toList := by
                rw [Array.toList_push]
                refine ⟨?_, ?_⟩
                · rw [List.map_append, List.map_append]; exact hE1.append (.one hk)
                · rw [List.map_append, List.map_append]; exact hE2.append (.one hv)
              obtain ⟨g1, g2⟩ := hh.setMp (clock' := clock + 1) hes hb hset
              refine ⟨_, ?_, g1, g2⟩
              simp only [h1, Result.andThen_ok, Go.MapKept.run_setObj_map _ hb]
          · cases hr
      · cases hr
    · cases hr
  · cases hr

end Go.Proofs.YtachednafdmmaaaDoor.AI
