/- find as a call of the abstract interpreter. -/
import Derived.Test.YtgfjnnkhlgmbcaaGreatSXa
import Derived.Test.YtgfjnnkhlgmbcaaGreatAIfk
import Derived.KernelRfl
namespace Go.Proofs.YtgfjnnkhlgmbcaaGreat.AI
open Go Go.RowKit 
set_option linter.unusedVariables false
set_option linter.unusedSimpArgs false
def recsA : Nat → List Value → Option (List (List Value))
  | 0, _ => some []
  | n + 1, .string t :: .string a :: .string b :: .int .i64 c :: .slice p l c' :: .int .i64 d :: r => match recsA n r with
    | some R => some ([.string t, .string a, .string b, .int .i64 c, .slice p l c', .int .i64 d] :: R)
    | none => none
  | _, _ => none
/-- The variables that a slice of the abstract heap holds. -/
def varsA (h : AH) : Value → Option (List (List Value))
  | .slice none 0 0 => some []
  | .slice (some ⟨b, off, none⟩) l _ => match h.get b with
    | some (.row _ _ cs) => bif Nat.ble l 1000000 then recsA l (cs.drop off) else none
    | _ => none
  | _ => none
def nmA (s : ByteArray) : List Value → Bool
  | .string t :: _ => t.data.toList == s.data.toList
  | _ => false
def hitA (s : ByteArray) : List (List Value) → Option (List Value)
  | [] => none
  | r :: R => bif nmA s r then some r else hitA s R
def varsL (h : AH) : List Value → Option (List (List (List Value)))
  | [] => some []
  | v :: vs => match varsA h v with
    | none => none
    | some R => match varsL h vs with
      | some Rs => some (R :: Rs)
      | none => none
def srch (s : ByteArray) : List (List (List Value)) → Option (List Value)
  | [] => none
  | R :: Rs => match hitA s R with
    | some r => some r
    | none => srch s Rs
def ansA : Option (List Value) → Value
  | none => .tuple #[.agg rec0, .bool false]
  | some r => .tuple #[.agg ⟨r⟩, .bool true]
/-- find, in the abstract heap. -/
def findB : CallA := fun g ar h => match ar with
  | [.pointer (some ⟨cb, co, none⟩), .string s] => bif Nat.beq g 113 then match h.get cb with
    | some (.row _ _ cs) => match cs[co + 6]? with
      | some (.slice (some ⟨b, off, none⟩) len _) => match h.get b with
        | some (.row _ _ vs) => bif Nat.ble len 1000000 && Nat.beq ((vs.drop off).take len).length len then match varsL h ((vs.drop off).take len) with
          | some Rs => some (ansA (srch s Rs.reverse), h)
          | none => none
          else none
        | _ => none
      | _ => none
    | _ => none
    else none
  | _ => none

theorem recsA_ok : ∀ {n : Nat} {cs : List Value} {R : List (List Value)}, recsA n cs = some R → R.length = n ∧ ∀ (i : Nat) (r : List Value), R[i]? = some r → (∃ t a b c p l c' d, r = [.string t, .string a, .string b, .int .i64 c, .slice p l c', .int .i64 d]) ∧ ∀ k, k < 6 → cs[i * 6 + k]? = r[k]? := by
  intro n
  induction n with
  | zero =>
    intro cs R h
    cases h
    exact ⟨rfl, fun i r h => by simp at h⟩
  | succ n ih =>
    intro cs R h
    unfold recsA at h
    split at h
    · rename_i heq; cases heq
    · rename_i n' t a b c p l c' d r heq
      cases heq
      split at h
      · rename_i R' hR
        cases h
        obtain ⟨h1, h2⟩ := ih hR
        refine ⟨by simp [h1], fun i r' hr => ?_⟩
        cases i with
        | zero =>
          obtain rfl := by simpa using hr
          refine ⟨⟨t, a, b, c, p, l, c', d, rfl⟩, fun k hk => ?_⟩
          match k, hk with
          | 0, _ | 1, _ | 2, _ | 3, _ | 4, _ | 5, _ => rfl
        | succ i =>
          obtain ⟨e1, e2⟩ := h2 i r' (by simpa using hr)
          refine ⟨e1, fun k hk => ?_⟩
          rw [← e2 k hk, show (i + 1) * 6 + k = (i * 6 + k) + 6 by omega]
          rfl
      · cases h
    · cases h

noncomputable def recW (w : World) : Value → List (Array Value)
  | .slice (some p) l _ => (List.range l).map fun i => #[(w.cell? ⟨p.block, p.off + i * 6 + 0, none⟩).getD undef, (w.cell? ⟨p.block, p.off + i * 6 + 1, none⟩).getD undef, (w.cell? ⟨p.block, p.off + i * 6 + 2, none⟩).getD undef, (w.cell? ⟨p.block, p.off + i * 6 + 3, none⟩).getD undef, (w.cell? ⟨p.block, p.off + i * 6 + 4, none⟩).getD undef, (w.cell? ⟨p.block, p.off + i * 6 + 5, none⟩).getD undef]
  | _ => []

theorem VRel.slcI {μ : Mu} {n : Nat} {p : Option Addr} {l k : Nat} {c : Value} (h : VRel μ n (.slice p l k) c) : ∃ p' l' k', c = .slice p' l' k' := by cases h <;> exact ⟨_, _, _, rfl⟩

/-- What the model holds for such a slice. -/
theorem vars_ok {gl : Nat → Option Nat} {μ : Mu} {h : AH} {w : World} (hh : HRel gl μ h w) {v c : Value} (hv : VRel μ h.next v c) {R : List (List Value)} (hR : varsA h v = some R) :
    VarsAt w c (recW w c) ∧ R.length = (recW w c).length ∧ ∀ (i : Nat) (r : List Value), R[i]? = some r → ∃ r', (recW w c)[i]? = some r' ∧ LRel μ h.next r r'.toList ∧ ∀ s, isNm s r' = nmA s r := by
  unfold varsA at hR
  split at hR
  · cases hR
    obtain ⟨rfl, _, _⟩ := hv.nilSlice
    exact ⟨.inl ⟨rfl, rfl⟩, rfl, fun i r h => by simp at h⟩
  · rename_i b off l k
    obtain ⟨hb, o', rfl, ho⟩ := hv.slice
    split at hR
    · rename_i ro z cs hg
      cases hl : Nat.ble l 1000000 with
      | false => rw [hl] at hR; cases hR
      | true =>
        rw [hl] at hR
        simp only [cond_true] at hR
        have hl' := Nat.le_of_ble_eq_true hl
        obtain ⟨e1, e2⟩ := recsA_ok hR
        obtain ⟨C, e, fz, ra⟩ := hh.blk b _ hg
        have key : ∀ (i : Nat) (r : List Value), R[i]? = some r → i < l ∧ ∃ t a b' c p l1 c1 d p' l' k', r = [.string t, .string a, .string b', .int .i64 c, .slice p l1 c1, .int .i64 d] ∧ VRel μ h.next (.slice p l1 c1) (.slice p' l' k') ∧
            ∀ k, k < 6 → w.cell? ⟨(μ b).b, o' + i * 6 + k, none⟩ = #[Value.string t, .string a, .string b', .int .i64 c, .slice p' l' k', .int .i64 d][k]? := by
          intro i r hr
          have hi : i < l := by rw [← e1]; exact (List.getElem?_eq_some_iff.1 hr).1
          obtain ⟨⟨t, a, b', c, p, l1, c1, d, rfl⟩, hk⟩ := e2 i r hr
          have hcell : ∀ k x, k < 6 → [Value.string t, .string a, .string b', .int .i64 c, .slice p l1 c1, .int .i64 d][k]? = some x → ∃ y, w.cell? ⟨(μ b).b, o' + i * 6 + k, none⟩ = some y ∧ VRel μ h.next x y := by
            intro k x hk6 hx
            have h3 := hk k hk6
            rw [hx, List.getElem?_drop] at h3
            obtain ⟨y, hy, hvy⟩ := ra.cells _ _ h3
            refine ⟨y, ?_, hvy⟩
            rcases ho with rfl | ⟨h0, _, _⟩
            · have : (μ b).o + off + i * 6 + k = (μ b).o + (off + (i * 6 + k)) := by omega
              simp only [World.cell?, ra.at_]
              simpa [this] using hy
            · omega
          obtain ⟨y0, c0, v0⟩ := hcell 0 _ (by omega) rfl
          obtain ⟨y1, c1', v1⟩ := hcell 1 _ (by omega) rfl
          obtain ⟨y2, c2, v2⟩ := hcell 2 _ (by omega) rfl
          obtain ⟨y3, c3, v3⟩ := hcell 3 _ (by omega) rfl
          obtain ⟨y4, c4, v4⟩ := hcell 4 _ (by omega) rfl
          obtain ⟨y5, c5, v5⟩ := hcell 5 _ (by omega) rfl
          obtain rfl := v0.string
          obtain rfl := v1.string
          obtain rfl := v2.string
          obtain rfl := v3.int
          obtain ⟨p', l', k', rfl⟩ := v4.slcI
          obtain rfl := v5.int
          refine ⟨hi, t, a, b', c, p, l1, c1, d, p', l', k', rfl, v4, fun k hk => ?_⟩
          match k, hk with
          | 0, _ => exact c0
          | 1, _ => exact c1'
          | 2, _ => exact c2
          | 3, _ => exact c3
          | 4, _ => exact c4
          | 5, _ => exact c5
        have hlen : (recW w (.slice (some ⟨(μ b).b, o', none⟩) l (l + k / 2 + k % 2 * (μ b).s))).length = l := by simp [recW]
        have at_ : ∀ i, i < l → ∃ t a b' c p' l' k' d, (recW w (.slice (some ⟨(μ b).b, o', none⟩) l (l + k / 2 + k % 2 * (μ b).s)))[i]? = some #[Value.string t, .string a, .string b', .int .i64 c, .slice p' l' k', .int .i64 d] ∧
            (∀ k, k < 6 → w.cell? ⟨(μ b).b, o' + i * 6 + k, none⟩ = #[Value.string t, .string a, .string b', .int .i64 c, .slice p' l' k', .int .i64 d][k]?) ∧
            ∃ p l1 c1, R[i]? = some [.string t, .string a, .string b', .int .i64 c, .slice p l1 c1, .int .i64 d] ∧ VRel μ h.next (.slice p l1 c1) (.slice p' l' k') := by
          intro i hi
          obtain ⟨r, hr⟩ : ∃ r, R[i]? = some r := ⟨_, List.getElem?_eq_getElem (by rw [e1]; exact hi)⟩
          obtain ⟨_, t, a, b', c, p, l1, c1, d, p', l', k', rfl, hv', hc⟩ := key i r hr
          have q0 : w.cell? ⟨(μ b).b, o' + i * 6 + 0, none⟩ = some (.string t) := hc 0 (by omega)
          have q1 : w.cell? ⟨(μ b).b, o' + i * 6 + 1, none⟩ = some (.string a) := hc 1 (by omega)
          have q2 : w.cell? ⟨(μ b).b, o' + i * 6 + 2, none⟩ = some (.string b') := hc 2 (by omega)
          have q3 : w.cell? ⟨(μ b).b, o' + i * 6 + 3, none⟩ = some (.int .i64 c) := hc 3 (by omega)
          have q4 : w.cell? ⟨(μ b).b, o' + i * 6 + 4, none⟩ = some (.slice p' l' k') := hc 4 (by omega)
          have q5 : w.cell? ⟨(μ b).b, o' + i * 6 + 5, none⟩ = some (.int .i64 d) := hc 5 (by omega)
          refine ⟨t, a, b', c, p', l', k', d, ?_, hc, p, l1, c1, hr, hv'⟩
          simp only [recW, List.getElem?_map, List.getElem?_range hi, Option.map_some, q0, q1, q2, q3, q4, q5, Option.getD_some]
        refine ⟨.inr ⟨(μ b).b, o', _, by rw [hlen], (Array.getElem?_eq_some_iff.1 ra.at_).1, by rw [hlen]; omega, fun i r hr => ?_⟩, by rw [hlen, e1], fun i r hr => ?_⟩
        · have hi : i < l := by rw [← hlen]; exact (List.getElem?_eq_some_iff.1 hr).1
          obtain ⟨t, a, b', c, p', l', k', d, h1, h2, _⟩ := at_ i hi
          rw [hr] at h1
          cases h1
          exact ⟨⟨t, a, b', c, p', l', k', d, rfl⟩, h2⟩
        · have hi : i < l := by rw [← e1]; exact (List.getElem?_eq_some_iff.1 hr).1
          obtain ⟨t, a, b', c, p', l', k', d, h1, h2, p, l1, c1, h3, h4⟩ := at_ i hi
          rw [hr] at h3
          cases h3
          refine ⟨_, h1, ?_, fun s => ?_⟩
          · exact .cons (.plain _ rfl) (.cons (.plain _ rfl) (.cons (.plain _ rfl) (.cons (.plain _ rfl) (.cons h4 (.cons (.plain _ rfl) .nil)))))
          · show (t.toList == s.toList) = (t.data.toList == s.data.toList)
            rw [ByteArray.toList_eq, ByteArray.toList_eq]
    · cases hR
  · cases hR
inductive HitRel (μ : Mu) (n : Nat) : Option (List Value) → Option (Array Value) → Prop
  | none : HitRel μ n none none
  | some (r : List Value) (C : Array Value) : LRel μ n r C.toList → HitRel μ n (some r) (some C)
def RsRel (μ : Mu) (n : Nat) (R : List (List Value)) (S : List (Array Value)) : Prop := R.length = S.length ∧ ∀ (i : Nat) (r : List Value), R[i]? = some r → ∃ r', S[i]? = some r' ∧ LRel μ n r r'.toList ∧ ∀ s, isNm s r' = nmA s r
theorem hit_rel {μ : Mu} {n : Nat} (s : ByteArray) : ∀ {R : List (List Value)} {S : List (Array Value)}, RsRel μ n R S → HitRel μ n (hitA s R) (hit s S) := by
  intro R
  induction R with
  | nil =>
    intro S h
    obtain rfl : S = [] := List.length_eq_zero_iff.1 h.1.symm
    exact .none
  | cons r R ih =>
    intro S h
    cases S with
    | nil => exact absurd h.1 (by simp)
    | cons C S =>
      obtain ⟨C', e1, e2, e3⟩ := h.2 0 r rfl
      obtain rfl : C = C' := by simpa using e1
      have hr : RsRel μ n R S := ⟨by simpa using h.1, fun i r hi => by simpa using h.2 (i + 1) r (by simpa using hi)⟩
      have ih' := ih hr
      have e4 := e3 s
      unfold hit at ih' ⊢
      simp only [hitA, List.find?_cons]
      cases hn : nmA s r with
      | true =>
        rw [hn] at e4
        rw [e4]
        exact .some _ _ e2
      | false =>
        rw [hn] at e4
        rw [e4]
        exact ih'
theorem srch_rel {μ : Mu} {n : Nat} {G : Value → Prop} (rec : Value → List (Array Value)) (s : ByteArray) : ∀ {Rs : List (List (List Value))} {L : List (Els G)}, Rs.length = L.length → (∀ (j : Nat) (R : List (List Value)), Rs[j]? = some R → ∃ x, L[j]? = some x ∧ RsRel μ n R (rec x.2.1)) →
    HitRel μ n (srch s Rs) (L.findSome? fun x => hit s (rec x.2.1)) := by
  intro Rs
  induction Rs with
  | nil =>
    intro L h _
    obtain rfl : L = [] := List.length_eq_zero_iff.1 h.symm
    exact .none
  | cons R Rs ih =>
    intro L h hp
    cases L with
    | nil => exact absurd h (by simp)
    | cons x L =>
      obtain ⟨x', e1, e2⟩ := hp 0 R rfl
      obtain rfl : x = x' := by simpa using e1
      have ih' := ih (L := L) (by simpa using h) fun j R hj => by simpa using hp (j + 1) R (by simpa using hj)
      have hh := hit_rel s e2
      simp only [srch, List.findSome?_cons]
      generalize hitA s R = u at hh
      generalize hit s (rec x.2.1) = v at hh
      cases hh with
      | none => exact ih'
      | some r C h => exact .some _ _ h
theorem varsL_ok {h : AH} : ∀ {vs : List Value} {Rs : List (List (List Value))}, varsL h vs = some Rs → Rs.length = vs.length ∧ ∀ (j : Nat) (v : Value), vs[j]? = some v → ∃ R, Rs[j]? = some R ∧ varsA h v = some R := by
  intro vs
  induction vs with
  | nil => intro Rs h; cases h; exact ⟨rfl, fun j v h => by simp at h⟩
  | cons v vs ih =>
    intro Rs hr
    simp only [varsL] at hr
    split at hr
    · cases hr
    · rename_i R hR
      split at hr
      · rename_i Rs' hRs
        cases hr
        obtain ⟨e1, e2⟩ := ih hRs
        refine ⟨by simp [e1], fun j u hj => ?_⟩
        cases j with
        | zero =>
          obtain rfl : v = u := by simpa using hj
          exact ⟨R, rfl, hR⟩
        | succ j => exact e2 j u (by simpa using hj)
      · cases hr
theorem findB_ok {gl : Nat → Option Nat} : CallOK Tryz.prog gl findB := by
  intro g ar h v h' hc
  unfold findB at hc
  split at hc
  case h_2 => cases hc
  rename_i cb co s
  cases hg : Nat.beq g 113 with
  | false => rw [hg] at hc; cases hc
  | true =>
    obtain rfl := Nat.eq_of_beq_eq_true hg
    rw [hg] at hc
    simp only [cond_true] at hc
    split at hc
    case h_2 => cases hc
    rename_i ro z cs hcb
    split at hc
    case h_2 => cases hc
    rename_i b off len k hsc
    split at hc
    case h_2 => cases hc
    rename_i ro2 z2 vs hb
    cases hq : (Nat.ble len 1000000 && Nat.beq ((vs.drop off).take len).length len) with
    | false => rw [hq] at hc; cases hc
    | true =>
      rw [hq] at hc
      simp only [cond_true] at hc
      rw [Bool.and_eq_true] at hq
      have hlen := Nat.le_of_ble_eq_true hq.1
      have hvl := Nat.eq_of_beq_eq_true hq.2
      split at hc
      case h_2 => cases hc
      rename_i Rs hRs
      cases hc
      refine ⟨fun args w => callFunc_enter Tryz.func113 (by kernel_rfl) rfl args w, fun μ w args hh hr => ?_⟩
      obtain rfl : args = #[.pointer (some ⟨(μ cb).b, (μ cb).o + co, none⟩), .string s] := by
        rcases args with ⟨l⟩
        match l, hr with
        | [], hr => exact absurd hr.1 (by simp)
        | [_], hr => exact absurd hr.1 (by simp)
        | _ :: _ :: _ :: _, hr => exact absurd hr.1 (by simp)
        | [x, y], hr => rw [hr.head.pointer.2, hr.tail.head.string]
      obtain ⟨C, e, fz, ra⟩ := hh.blk cb _ hcb
      obtain ⟨y, hy, vy⟩ := ra.cells _ _ hsc
      obtain ⟨hbn, o', rfl, ho⟩ := vy.slice
      obtain ⟨C2, e2, fz2, rb⟩ := hh.blk b _ hb
      obtain ⟨f1, f2⟩ := varsL_ok hRs
      have hz : ∀ j, ∃ x : { v : Value // VarsAt w v (recW w v) }, j < len → w.cell? ⟨(μ b).b, o' + j, none⟩ = some x.1 ∧ ∃ R, Rs[j]? = some R ∧ RsRel μ h.next R (recW w x.1) := by
        intro j
        by_cases hj : j < len
        · obtain ⟨u, hu⟩ : ∃ u, ((vs.drop off).take len)[j]? = some u := ⟨_, List.getElem?_eq_getElem (by rw [hvl]; exact hj)⟩
          obtain ⟨R, hR, hva⟩ := f2 j u hu
          rw [List.getElem?_take_of_lt hj, List.getElem?_drop] at hu
          obtain ⟨c, hc, vc⟩ := rb.cells _ _ hu
          obtain ⟨g1, g2, g3⟩ := vars_ok hh vc hva
          refine ⟨⟨c, g1⟩, fun _ => ⟨?_, R, hR, g2, g3⟩⟩
          rcases ho with rfl | ⟨h0, _, _⟩
          · have : (μ b).o + off + j = (μ b).o + (off + j) := by omega
            simp only [World.cell?, rb.at_]
            simpa [this] using hc
          · omega
        · exact ⟨⟨.slice none 0 0, .inl ⟨rfl, rfl⟩⟩, fun hj' => absurd hj' hj⟩
      have hcall := find_in Fence.wide 3 trivial trivial trivial rfl (Nat.le_refl _) w (μ cb).b ((μ cb).o + co) (μ b).b o' len _ s (recW w) (fun j => Classical.choose (hz j)) (by omega)
        (by have : (μ cb).o + co + 6 = (μ cb).o + (co + 6) := by omega
            simp only [World.cell?, ra.at_]
            simpa [this] using hy) (Array.getElem?_eq_some_iff.1 ra.at_).1 (Array.getElem?_eq_some_iff.1 rb.at_).1 (fun j hj => (Classical.choose_spec (hz j) hj).1)
      rw [callsIn_wide] at hcall
      refine hcall.mono ?_
      rintro e w' ⟨rfl, hbw⟩
      obtain ⟨g1, g2⟩ := hh.below hbw
      have hs := srch_rel (μ := μ) (n := h.next) (recW w) s (Rs := Rs.reverse) (L := upB (fun j => (j, Classical.choose (hz j))) len len) (by rw [List.length_reverse, upB_length, f1, hvl]) (by
        intro j R hR
        have hjl : j < len := by
          have := (List.getElem?_eq_some_iff.1 hR).1
          rw [List.length_reverse, f1, hvl] at this
          exact this
        refine ⟨(len - 1 - j, Classical.choose (hz (len - 1 - j))), by simp [upB, List.getElem?_map, List.getElem?_range hjl], ?_⟩
        obtain ⟨_, R', h1, h2⟩ := Classical.choose_spec (hz (len - 1 - j)) (by omega)
        rw [List.getElem?_reverse (by rw [f1, hvl]; exact hjl), f1, hvl, h1] at hR
        cases hR
        exact h2)
      refine ⟨_, μ, rfl, g1, g2, ?_⟩
      generalize srch s Rs.reverse = u at hs
      generalize ((upB (fun j => (j, Classical.choose (hz j))) len len).findSome? fun x => hit s (recW w x.2.1)) = v at hs
      cases hs with
      | none => exact .tuple _ _ rfl fun i x y hx hy => (LRel.cons (.plainV rfl) (.cons (.plain _ rfl) .nil)).2 i x y hx hy
      | some r C hrc => exact .tuple _ _ rfl fun i x y hx hy => (LRel.cons (.agg _ _ hrc.1 hrc.2) (.cons (.plain _ rfl) .nil)).2 i x y hx hy
def getG (f : FH) (b : Nat) : Option Blk := bif Nat.ble b 16383 then gp7 b f.m else none
def varsG (f : FH) : Value → Option (List (List Value))
  | .slice none 0 0 => some []
  | .slice (some ⟨b, off, none⟩) l _ => match getG f b with
    | some (.row _ _ cs) => bif Nat.ble l 1000000 then recsA l (cs.drop off) else none
    | _ => none
  | _ => none
def varsLG (f : FH) : List Value → Option (List (List (List Value)))
  | [] => some []
  | v :: vs => match varsG f v with
    | none => none
    | some R => match varsLG f vs with
      | some Rs => some (R :: Rs)
      | none => none
/-- find, in the fast form's heap. -/
def findF (ar : List Value) (f : FH) (k : KV) : O1 := match ar with
  | [.pointer (some ⟨cb, co, none⟩), .string s] => match getG f cb with
    | some (.row _ _ cs) => match cs[co + 6]? with
      | some (.slice (some ⟨b, off, none⟩) len _) => match getG f b with
        | some (.row _ _ vs) => bif Nat.ble len 1000000 && Nat.beq ((vs.drop off).take len).length len then match varsLG f ((vs.drop off).take len) with
          | some Rs => match srch s Rs.reverse with
            | none => k (.tuple #[.agg rec0, .bool false]) f
            | some r => k (.tuple #[.agg ⟨r⟩, .bool true]) f
          | none => none
          else none
        | _ => none
      | _ => none
    | _ => none
  | _ => none
theorem getG_some {f : FH} {h : AH} (hh : SimH f h) {b : Nat} {x : Blk} (e : getG f b = some x) : h.get b = some x := by
  refine hh.2 b x ?_
  unfold getG at e
  unfold QH.get
  cases hb : Nat.ble b 16383 with
  | false => rw [hb] at e; cases e
  | true => rw [hb] at e; rw [if_pos (Nat.le_of_ble_eq_true hb)]; exact e
theorem varsG_some {f : FH} {h : AH} (hh : SimH f h) {v : Value} {R : List (List Value)} (e : varsG f v = some R) : varsA h v = some R := by
  unfold varsG at e
  unfold varsA
  split at e
  · exact e
  · rename_i b off l c
    split at e
    · rename_i ro z cs hg
      rw [getG_some hh hg]
      exact e
    · cases e
  · cases e
theorem varsLG_some {f : FH} {h : AH} (hh : SimH f h) : ∀ {vs : List Value} {Rs : List (List (List Value))}, varsLG f vs = some Rs → varsL h vs = some Rs := by
  intro vs
  induction vs with
  | nil => intro Rs e; exact e
  | cons v vs ih =>
    intro Rs e
    simp only [varsLG] at e
    simp only [varsL]
    split at e
    · cases e
    · rename_i R hR
      split at e
      · rename_i Rs' hRs
        cases e
        rw [varsG_some hh hR, ih hRs]
      · cases e
theorem findF_sim : HpSim findF (findB 113) := by
  intro ar f h k r hh hr
  unfold findF at hr
  split at hr
  case h_2 => cases hr
  rename_i cb co s
  split at hr
  case h_2 => cases hr
  rename_i ro z cs hcb
  split at hr
  case h_2 => cases hr
  rename_i b off len c hsc
  split at hr
  case h_2 => cases hr
  rename_i ro2 z2 vs hb
  cases hq : (Nat.ble len 1000000 && Nat.beq ((vs.drop off).take len).length len) with
  | false => rw [hq] at hr; cases hr
  | true =>
    rw [hq] at hr
    simp only [cond_true] at hr
    split at hr
    case h_2 => cases hr
    rename_i Rs hRs
    have e : findB 113 [.pointer (some ⟨cb, co, none⟩), .string s] h = some (ansA (srch s Rs.reverse), h) := by
      unfold findB
      simp only [getG_some hh hcb, hsc, getG_some hh hb, hq, cond_true, varsLG_some hh hRs]
      rfl
    split at hr
    · rename_i hs
      rw [hs] at e
      exact ⟨_, h, f, e, hh, hr⟩
    · rename_i r' hs
      rw [hs] at e
      exact ⟨_, h, f, e, hh, hr⟩
theorem findB_no {g : Nat} (h : g ≠ 113) (args : List Value) (a : AH) : findB g args a = none := by
  unfold findB
  split
  · cases hb : Nat.beq g 113 with
    | true => exact absurd (Nat.eq_of_beq_eq_true hb) h
    | false => rfl
  · rfl
theorem hmix : Tryz.prog.follows .mixedOrders = true := by kernel_rfl
/-- What is run: the program's functions, but find. -/
noncomputable def tab0 : Tr FFn := (mkTab Tryz.prog gl0 (List.range 170)).set 113 (some (.hp findF))
end Go.Proofs.YtgfjnnkhlgmbcaaGreat.AI
