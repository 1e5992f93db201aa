/- The abstract interpreter: append, copy, the builtins. -/
import Derived.Test.YtgbfbpcimffdaaaDoorAIi
namespace Go.Proofs.YtgbfbpcimffdaaaDoor.AI
open Go
set_option linter.unusedVariables false
set_option linter.unusedSimpArgs false

variable {P : Program} {gl : Nat → Option Nat} {μ : Nat → Loc} {n : Nat} {w : World}

/-- A block is let go. -/
theorem HRel.kill {h : AH} (hh : HRel gl μ h w) {b : Nat} {blk : Blk} (hb : h.get b = some blk) (hro : blk.ro = false) : HRel gl μ (h.kill b) w ∧ Fr μ h w μ (h.kill b) w := by
  have sub : ∀ (i : Nat) (x : Blk), (h.kill b).get i = some x → h.get i = some x := fun i x hx => by
    rw [AH.get_kill] at hx
    split at hx
    · cases hx
    · exact hx
  refine ⟨⟨fun i x hx => hh.lt i x (sub i x hx), fun i x hx => hh.blk i x (sub i x hx), fun i j bi bj hi hj => hh.sep i j bi bj (sub _ _ hi) (sub _ _ hj), hh.glob⟩,
    ⟨rfl, rfl, rfl, Nat.le_refl _, Nat.le_refl _, fun _ _ => rfl, fun _ _ _ => rfl, fun B hB => ?_, fun i x hx hr => ?_, fun i x hx _ => sub i x hx⟩⟩
  · obtain ⟨i, x, hi, h1, h2⟩ := hB
    exact .inl ⟨i, x, sub _ _ hi, h1, h2⟩
  · rw [AH.get_kill]
    split
    · rename_i hi
      subst hi
      rw [hb] at hx
      cases hx
      rw [hro] at hr
      cases hr
    · exact hx

/-- A row's place is taken over by a new row. -/
theorem HRel.reuse {h : AH} {w' : World} (a : HRel gl μ h w) {b z : Nat} {cs : List Value} (hb : h.get b = some (.row false z cs)) {C C' : Array Value} {e : TypeId} {fz : Nat × Nat}
    (hr : RowAt μ h.next w (μ b) false z cs C e fz) (hC : C'.size = C.size) (hw : w'.heap[(μ b).b]? = some (.cells C' e fz)) (hk : ∀ k, k ≠ (μ b).b → w'.heap[k]? = w.heap[k]?)
    (hs : w'.heap.size = w.heap.size) (hos : w'.os = w.os) (htp : w'.tape = w.tape) (hout : w'.output = w.output) {o2 s2 : Nat} {cs2 : List Value} (h1 : (μ b).o ≤ o2)
    (h2 : o2 + cs2.length + s2 * z ≤ (μ b).o + cs.length + (μ b).s * z) (hc : ∀ (j : Nat) (v : Value), cs2[j]? = some v → ∃ c, C'[o2 + j]? = some c ∧ VRel μ h.next v c) :
    HRel gl (upd μ h.next ⟨(μ b).b, o2, s2⟩) ((h.kill b).add (.row false z cs2)) w' ∧ Fr μ h w (upd μ h.next ⟨(μ b).b, o2, s2⟩) ((h.kill b).add (.row false z cs2)) w' := by
  have hlt := a.lt b _ hb
  have hext : ∀ i, i < h.next → upd μ h.next ⟨(μ b).b, o2, s2⟩ i = μ i := fun i hi => upd_ne _ _ (by omega)
  have hget : ∀ (i : Nat) (x : Blk), ((h.kill b).add (.row false z cs2)).get i = some x → (i = h.next ∧ x = .row false z cs2) ∨ (i ≠ b ∧ i < h.next ∧ h.get i = some x) := fun i x hx => by
    rw [AH.get_add, AH.next_kill] at hx
    split at hx
    · rename_i hi; cases hx; exact .inl ⟨hi, rfl⟩
    · rw [AH.get_kill] at hx
      split at hx
      · cases hx
      · rename_i hi; exact .inr ⟨hi, a.lt i x hx, hx⟩
  refine ⟨⟨fun i x hx => ?_, fun i x hx => ?_, fun i j bi bj hi hj hne hro => ?_, fun g i hg => ?_⟩, ⟨hos, htp, hout, Nat.le_of_eq hs.symm, Nat.le_succ _, hext, fun B hB hn => ?_, fun B hB => ?_, fun i x hx hro => ?_, fun i x hx hro => ?_⟩⟩
  · show i < h.next + 1
    rcases hget i x hx with ⟨h3, _⟩ | ⟨_, h3, _⟩ <;> omega
  · show BlkAt _ (h.next + 1) w' _ x
    rcases hget i x hx with ⟨rfl, rfl⟩ | ⟨hne, hil, hx'⟩
    · rw [upd_same]
      refine ⟨C', e, fz, hw, ?_, fun j v hj => ?_, fun _ => by rw [hC]; exact hr.fr rfl⟩
      · rw [hC]; exact Nat.le_trans h2 hr.fits
      · obtain ⟨c, h3, h4⟩ := hc j v hj
        exact ⟨c, h3, h4.mono hext (Nat.le_succ _)⟩
    · rw [hext i hil]
      refine (a.blk i x hx').same hext (Nat.le_succ _) (hk _ fun heq => a.sep b i _ x hb hx' (fun h => hne h.symm) rfl heq.symm)
  · rcases hget i bi hi with ⟨rfl, rfl⟩ | ⟨hne1, hil, hi'⟩
    · rcases hget j bj hj with ⟨rfl, rfl⟩ | ⟨hne2, hjl, hj'⟩
      · exact absurd rfl hne
      · rw [upd_same, hext j hjl]
        exact a.sep b j _ bj hb hj' (fun h => hne2 h.symm) rfl
    · rcases hget j bj hj with ⟨rfl, rfl⟩ | ⟨hne2, hjl, hj'⟩
      · rw [upd_same, hext i hil]
        exact a.sep i b bi _ hi' hb hne1 hro
      · rw [hext i hil, hext j hjl]
        exact a.sep i j bi bj hi' hj' hne hro
  · obtain ⟨h3, h4, h5⟩ := a.glob g i hg
    refine ⟨?_, ?_⟩
    · show i < h.next + 1; omega
    · rw [hext i h3]; exact ⟨h4, h5⟩
  · exact hk B fun h3 => hn ⟨b, _, hb, rfl, h3.symm⟩
  · obtain ⟨i, x, hi, hro, hB'⟩ := hB
    rcases hget i x hi with ⟨rfl, rfl⟩ | ⟨hne1, hil, hi'⟩
    · rw [upd_same] at hB'
      exact .inl ⟨b, _, hb, rfl, hB'⟩
    · rw [hext i hil] at hB'
      exact .inl ⟨i, x, hi', hro, hB'⟩
  · rw [AH.get_add, AH.next_kill, if_neg (Nat.ne_of_lt (a.lt i x hx)), AH.get_kill]
    split
    · rename_i hi
      subst hi
      rw [hb] at hx
      cases hx
      cases hro
    · exact hx
  · rcases hget i x hx with ⟨_, rfl⟩ | ⟨_, _, h3⟩
    · cases hro
    · exact h3

theorem Went.drew {h h' : AH} {r : Result Value} {v : Value} (a : Went gl μ h w.drew r v h') : Went gl μ h w r v h' :=
  let ⟨c, w', μ', h1, h2, h3, h4⟩ := a
  ⟨c, w', μ', h1, h2, h3.drew, h4⟩

theorem Went.after {h h1 h' : AH} {w1 : World} {μ1 : Nat → Loc} {r : Result Value} {v : Value} (f : Fr μ h w μ1 h1 w1) (a : Went gl μ1 h1 w1 r v h') : Went gl μ h w r v h' :=
  let ⟨c, w', μ', h1, h2, h3, h4⟩ := a
  ⟨c, w', μ', h1, h2, f.trans h3, h4⟩

/-- A slice that has been appended to, in a new row. -/
theorem grown_went {h : AH} (hh : HRel gl μ h w) {e : TypeId} {i : TypeInfo} {zv : Value} (hzs : zv.cells.size = i.size) {l k sCap : Nat} {old new olds news : List Value} (h1 : LRel μ h.next old olds) (h2 : LRel μ h.next new news)
    (hl1 : old.length = l * i.size) (hl2 : new.length = k * i.size) :
    Went gl μ h w (.ok (.slice (some ⟨w.heap.size, 0, none⟩) (l + k) (grownCap w (l + k) sCap e)) (w.drew.alloc (.cells (olds.toArray ++ news.toArray ++ Builtin.zeroCells zv.cells (grownCap w (l + k) sCap e - (l + k))) e)))
      (.slice (some ⟨h.next, 0, none⟩) (l + k) (2 * (l + k) + 1)) (h.add (.row false i.size (old ++ new))) := by
  have hge := grownCap_ge w (l + k) sCap e
  refine Went.drew ?_
  refine slice_went hh.drew e i.size (grownCap w (l + k) sCap e - (l + k)) _ _ _ (fun j v hj => ?_) ?_ ?_
  · obtain ⟨y, hy, hv⟩ := (h1.append h2).get hj
    refine ⟨y, ?_, hv⟩
    have hlt : j < (olds ++ news).length := by
      rcases Nat.lt_or_ge j (olds ++ news).length with h' | h'
      · exact h'
      · rw [List.getElem?_eq_none h'] at hy; cases hy
    rw [List.length_append] at hlt
    rw [Array.getElem?_append_left (by simp only [Array.size_append, List.size_toArray]; exact hlt)]
    rw [← hy, ← Array.getElem?_toList]
    simp
  · have a1 := h1.1
    have a2 := h2.1
    simp only [Array.size_append, List.size_toArray, size_zeroCells, hzs, List.length_append, a1, a2]
    omega
  · rw [show (2 * (l + k) + 1) % 2 = 1 by omega, Nat.one_mul]; omega

theorem appendA_run {h h' : AH} (hh : HRel gl μ h w) {ts : List TypeId} {ty : TypeId} {s s' x x' v : Value} {rest : List Value} (hr : appendA P h ts s x = some (v, h')) (hs : VRel μ h.next s s') (hx : VRel μ h.next x x') :
    Went gl μ h w ((Builtin.append_ ⟨ts⟩ ty ⟨s' :: x' :: rest⟩).run P w) v h' := by
  unfold appendA at hr
  split at hr
  · rename_i tS tX ts
    split at hr
    · rename_i e hu
      split at hr
      · cases hr
      · rename_i i hi
        split at hr
        · cases hr
        · cases hr
        · rename_i uX hni hX
          have hni' : ∀ k, uX ≠ .int k := fun k hk => hni k (by rw [hk])
          split at hr
          · cases hr
          · rename_i k new hsrc
            obtain ⟨news, hl, hf, hrel, hlen⟩ := srcA_run (P := P) hh hsrc hx
            obtain ⟨news', hl', hf', hrel', _⟩ := srcA_run (P := P) hh.drew hsrc hx
            split at hr
            · cases hr
            · rename_i zv hz
              obtain ⟨i', hi', hzi⟩ := zeroA_info hz
              rw [hi] at hi'
              cases hi'
              split at hr
              · -- nothing yet
                have hs' := (hs.nilSlice).1
                subst hs'
                cases hk : Nat.beq k 0 with
                | true =>
                  rw [hk] at hr
                  cases hr
                  have hk0 := Nat.eq_of_beq_eq_true hk
                  subst hk0
                  exact .same hh (run_append_room0 hu hi hX hni' hl hf) (.plain _ rfl)
                | false =>
                  rw [hk] at hr
                  simp only [cond_false] at hr
                  have hkp : 0 < k := by
                    rcases Nat.eq_zero_or_pos k with h0 | h0
                    · subst h0; cases hk
                    · exact h0
                  cases hb : (Nat.ble k 4294967296 && Nat.ble i.bytes 32768 && Nat.beq zv.cells.toList.length i.size) with
                  | false => rw [hb] at hr; cases hr
                  | true =>
                    rw [hb] at hr
                    cases hr
                    simp only [Bool.and_eq_true] at hb
                    have b1 := Nat.le_of_ble_eq_true hb.1.1
                    have b2 := Nat.le_of_ble_eq_true hb.1.2
                    have b3 := Nat.eq_of_beq_eq_true hb.2
                    have b4 : k * i.bytes ≤ 4294967296 * 32768 := Nat.mul_le_mul b1 b2
                    have hrun := run_append_grow' (P := P) (w := w) (ts := ts) (ty := ty) (rest := rest) (base := none) (sLen := 0) (sCap := 0) (olds := []) hu hi hzi hX hni' hl hf' rfl (by omega) (by omega)
                      (by rw [Nat.zero_add, nextslicecap_zero hkp]; omega)
                    rw [hrun]
                    have := grown_went (e := e) (sCap := 0) hh (i := i) (zv := zv) (by simpa using b3) (l := 0) (k := k) (LRel.nil) hrel' (by simp) hlen
                    simp only [Nat.zero_add, List.nil_append] at this ⊢
                    exact this
              · rename_i b off l c
                obtain ⟨hb, o', rfl, ho⟩ := hs.slice
                cases hroom : Nat.ble (l + k) (c / 2) with
                | true =>
                  rw [hroom] at hr
                  simp only [cond_true] at hr
                  have hrm := Nat.le_of_ble_eq_true hroom
                  cases hk : Nat.beq k 0 with
                  | true =>
                    rw [hk] at hr
                    cases hr
                    have hk0 := Nat.eq_of_beq_eq_true hk
                    subst hk0
                    have hnews : news = [] := List.eq_nil_of_length_eq_zero (by rw [← hrel.1, hlen, Nat.zero_mul])
                    subst hnews
                    refine .same hh ?_ hs
                    have := run_append_room' (P := P) (w := w) (ts := ts) (ty := ty) (rest := rest) (a := ⟨(μ b).b, o', none⟩) (sLen := l) (sCap := c / 2 + c % 2 * (μ b).s) (w' := w) hu hi hX hni' hl hf (by omega) rfl
                    rwa [Nat.add_zero] at this
                  | false =>
                    rw [hk] at hr
                    simp only [cond_false] at hr
                    have hkp : 0 < k := by
                      rcases Nat.eq_zero_or_pos k with h0 | h0
                      · subst h0; cases hk
                      · exact h0
                    have ho' : o' = (μ b).o + off := by
                      rcases ho with ho | ⟨_, h2, _⟩
                      · exact ho
                      · subst h2; omega
                    subst ho'
                    split at hr
                    · rename_i h2 hwr
                      cases hr
                      obtain ⟨w', g1, g2, g3, g4⟩ := writeA_run (P := P) hh hwr hrel
                      have hrun := run_append_room' (P := P) (w := w) (ts := ts) (ty := ty) (rest := rest) (a := ⟨(μ b).b, (μ b).o + off, none⟩) (sLen := l) (sCap := c / 2 + c % 2 * (μ b).s) (w' := w') hu hi hX hni' hl hf (by omega)
                        (by rw [addr_add, Nat.add_assoc]; exact g1)
                      refine ⟨_, _, _, hrun, g2, g3, ?_⟩
                      rw [g4]
                      exact .slc b off (l + k) c hb
                    · cases hr
                | false =>
                  rw [hroom] at hr
                  simp only [cond_false] at hr
                  have hrm : ¬ (l + k ≤ c / 2) := fun h => by rw [Nat.ble_eq_true_of_le h] at hroom; cases hroom
                  cases hbd : (Nat.ble (l + k) 4294967296 && Nat.ble i.bytes 32768 && Nat.beq zv.cells.toList.length i.size) with
                  | false => rw [hbd] at hr; cases hr
                  | true =>
                    rw [hbd] at hr
                    simp only [cond_true] at hr
                    simp only [Bool.and_eq_true] at hbd
                    have b1 := Nat.le_of_ble_eq_true hbd.1.1
                    have b2 := Nat.le_of_ble_eq_true hbd.1.2
                    have b3 := Nat.eq_of_beq_eq_true hbd.2
                    have b4 : (l + k) * i.bytes ≤ 4294967296 * 32768 := Nat.mul_le_mul b1 b2
                    split at hr
                    · cases hr
                    · rename_i old hold
                      obtain ⟨olds, q1, q2, q3⟩ := readA_run hh.drew hold
                      -- what the old cells are, in the model's own words
                      have hfo : ∀ cap, (Builtin.firstCells i.size l (.slice (some ⟨(μ b).b, o', none⟩) l cap)).run P w.drew = .ok olds.toArray w.drew := by
                        intro cap
                        rcases ho with ho | ⟨h0, _, _⟩
                        · subst ho
                          exact run_firstCells_some w.drew i.size l _ _ _ olds q1 q3
                        · subst h0
                          have : olds = [] := List.eq_nil_of_length_eq_zero (by rw [q1, Nat.zero_mul])
                          subst this
                          simp [Builtin.firstCells, loadCells, loadCellsFrom]
                      have hgrow : ∀ cap, cap < l + k → (Builtin.append_ ⟨tS :: tX :: ts⟩ ty ⟨.slice (some ⟨(μ b).b, o', none⟩) l cap :: x' :: rest⟩).run P w = _ := fun cap hc =>
                        run_append_grow' (P := P) (w := w) (ts := ts) (ty := ty) (rest := rest) hu hi hzi hX hni' hl hf' (hfo cap) hc (by omega) (growslice_fits hc (by omega))
                      have hoL : old.length = l * i.size := by rw [q2.1, q1]
                      cases hpar : Nat.beq (c % 2) 0 with
                      | true =>
                        rw [hpar] at hr
                        cases hr
                        have hp := Nat.eq_of_beq_eq_true hpar
                        rw [hgrow _ (by rw [hp, Nat.zero_mul]; omega)]
                        exact grown_went hh (by simpa using b3) q2 hrel' hoL hlen
                      | false =>
                        rw [hpar] at hr
                        simp only [cond_false] at hr
                        have hp : c % 2 = 1 := by
                          rcases Nat.mod_two_eq_zero_or_one c with h0 | h0
                          · rw [h0] at hpar; cases hpar
                          · exact h0
                        split at hr
                        · rename_i z cs hg
                          cases hal : (Nat.beq z i.size && Nat.beq (off + c / 2 * z) cs.length && !Nat.beq z 0 && new.all one1) with
                          | false => rw [hal] at hr; cases hr
                          | true =>
                            rw [hal] at hr
                            cases hr
                            simp only [Bool.and_eq_true] at hal
                            have a1 := Nat.eq_of_beq_eq_true hal.1.1.1
                            have a2 := Nat.eq_of_beq_eq_true hal.1.1.2
                            subst a1
                            by_cases hin : l + k ≤ c / 2 + c % 2 * (μ b).s
                            · -- there is room behind
                              have ho' : o' = (μ b).o + off := by
                                rcases ho with ho | ⟨h0, h2, h3⟩
                                · exact ho
                                · rw [h3, Nat.mul_zero] at hin; omega
                              subst ho'
                              rw [hp, Nat.one_mul] at hin
                              obtain ⟨C, eT, fz, hra⟩ := hh.blk _ _ hg
                              have hfit := hra.fits
                              have hkl : news.length = k * i.size := by rw [← hrel.1, hlen]
                              have m1 : (l + k) * i.size ≤ (c / 2 + (μ b).s) * i.size := Nat.mul_le_mul_right _ hin
                              rw [Nat.add_mul, Nat.add_mul] at m1
                              obtain ⟨C', w', g1, g2, g3, g4, g5, g6, g7, g8, g9⟩ := run_storeCells_row (P := P) (μ b).b ((μ b).o + off + l * i.size) eT fz news 0 C w hra.at_ (by omega)
                                (fun j h0 h1 => hra.free rfl j (by omega) (by omega)) (hrel.one1 hal.2)
                              have hrun := run_append_room' (P := P) (w := w) (ts := ts) (ty := ty) (rest := rest) (a := ⟨(μ b).b, (μ b).o + off, none⟩) (sLen := l) (sCap := c / 2 + c % 2 * (μ b).s) (w' := w') hu hi hX hni' hl hf (by rw [hp, Nat.one_mul]; exact hin)
                                (by rw [addr_add]; exact g1)
                              have m2 : ((μ b).s - (l + k - c / 2)) * i.size + (l * i.size + k * i.size) = c / 2 * i.size + (μ b).s * i.size := by
                                rw [← Nat.add_mul, ← Nat.add_mul, ← Nat.add_mul]
                                congr 1
                                omega
                              have hre := hh.reuse (w' := w') hg hra g3 g2 g5 g6 g7 g8 g9 (o2 := (μ b).o + off) (s2 := (μ b).s - (l + k - c / 2)) (cs2 := old ++ new) (by omega)
                                (by rw [List.length_append, hoL, hlen]; omega) (fun j v hj => by
                                  rw [g4]
                                  by_cases hjl : j < l * i.size
                                  · rw [if_neg (by omega)]
                                    rw [List.getElem?_append_left (by omega)] at hj
                                    obtain ⟨y, hy, hv⟩ := q2.get hj
                                    refine ⟨y, ?_, hv⟩
                                    have := q3 j y hy
                                    rw [addr_add] at this
                                    have h9 : w.drew.heap[(μ b).b]? = some (.cells C eT fz) := hra.at_
                                    rw [cell_row h9] at this
                                    exact this
                                  · rw [List.getElem?_append_right (by omega), hoL] at hj
                                    obtain ⟨y, hy, hv⟩ := hrel.get hj
                                    have hjk : j - l * i.size < news.length := by
                                      rcases Nat.lt_or_ge (j - l * i.size) news.length with h' | h'
                                      · exact h'
                                      · rw [List.getElem?_eq_none h'] at hy; cases hy
                                    rw [if_pos (by omega)]
                                    refine ⟨y, ?_, hv⟩
                                    rw [← hy]
                                    congr 1
                                    omega)
                              refine ⟨_, _, _, hrun, hre.1, hre.2, ?_⟩
                              have hv := VRel.slcE (μ := upd μ h.next ⟨(μ b).b, (μ b).o + off, (μ b).s - (l + k - c / 2)⟩) (n := ((h.kill b).add (.row false i.size (old ++ new))).next) (b := h.next) (o := 0) (l := l + k) (c := 2 * (l + k) + 1) (k := c / 2 + c % 2 * (μ b).s)
                                (by show h.next < h.next + 1; omega) (by rw [upd_same, hp, show (2 * (l + k) + 1) % 2 = 1 by omega, Nat.one_mul, Nat.one_mul]; show _ = _ + ((μ b).s - (l + k - c / 2)); omega)
                              rw [upd_same] at hv
                              exact hv
                            · rw [hgrow _ (by omega)]
                              have hkl := hh.kill hg rfl
                              have := grown_went (e := e) (sCap := c / 2 + c % 2 * (μ b).s) hkl.1 (i := i) (zv := zv) (by simpa using b3) (l := l) (k := k) q2 hrel' hoL hlen
                              exact .after hkl.2 this
                        · cases hr
              · cases hr
    · cases hr
  · cases hr

end Go.Proofs.YtgbfbpcimffdaaaDoor.AI
