/- Functions of whole numbers, run with numbers that are not known. -/
import Derived.Test.YtjhlfolgadaliaaDoorSXf
import Derived.Laws.BitsLemmas
import Derived.KernelRfl
namespace Go.Proofs.YtjhlfolgadaliaaDoor.AI
open Go Go.RowKit 
set_option linter.unusedVariables false
set_option linter.unusedSimpArgs false
/-- What is known of bits.Put. -/
noncomputable def putE (ar : List Value) : Option (Bool × Value) := match ar with
  | [.slice none 0 0, .int .u64 u] => some (tst (0 ≤ u ∧ u < 18446744073709551616), gslV (putV u.toNat).length 0 false (putV u.toNat))
  | [.iface t (.tuple ⟨.slice none l off :: .bool ex :: cs⟩), .int .u64 u] => bif Nat.beq t 4294967296 then some (tst (0 ≤ u ∧ u < 18446744073709551616 ∧ off + l ≤ cs.length ∧ l + 11 ≤ 4294967296 ∧ ∀ x ∈ cs, GVal x), gslV (l + (putV u.toNat).length) 0 false ((cs.drop off).take l ++ putV u.toNat)) else none
  | _ => none
noncomputable def G1 : TabF := andG 26 putE noG
noncomputable abbrev lA (F : TabF) : CallA := mixA [11] (quietA Tryd.prog (glT tabs) (regF Tryd.prog (glT tabs)) 60 (Nat.beq 11)) (sumG (fun _ => 1) F)
noncomputable abbrev lK {R : Type} (F : TabF) : CK R := mixK [11] (toK (quietA Tryd.prog (glT tabs) (regF Tryd.prog (glT tabs)) 60 (Nat.beq 11))) (sumGK (fun _ => 1) F)
def putN (u : Nat) : List Nat := if u ≤ 127 then [u] else (u % 128 + 128) :: putN (u / 128)
termination_by u
decreasing_by omega
theorem putN_lo {u : Nat} (h : u ≤ 127) : putN u = [u] := by rw [putN, if_pos h]
theorem putN_hi {u : Nat} (h : ¬ u ≤ 127) : putN u = (u % 128 + 128) :: putN (u / 128) := by rw [putN, if_neg h]
theorem putV_eq (u : Nat) : putV u = (putN u).map bv := by
  induction u using Nat.strongRecOn with
  | ind u ih =>
    unfold putV at ih ⊢
    by_cases h : u ≤ 127
    · rw [initV_lo h, lastU_lo h, putN_lo h]; rfl
    · rw [initV_hi h, lastU_hi h, putN_hi h, List.cons_append, ih _ (by omega)]; rfl
theorem putN_byte (u : Nat) : ∀ x ∈ putN u, x < 256 := by
  induction u using Nat.strongRecOn with
  | ind u ih =>
    by_cases h : u ≤ 127
    · rw [putN_lo h]; intro x hx; rw [List.mem_singleton.1 hx]; omega
    · rw [putN_hi h]
      intro x hx
      rcases List.mem_cons.1 hx with rfl | hx
      · omega
      · exact ih _ (by omega) x hx
theorem isBytes_map : ∀ l : List Nat, isBytes (l.map bv) = true := by
  intro l
  induction l with
  | nil => rfl
  | cons x l ih => exact ih
theorem bytesAt_map : ∀ l : List Nat, bytesAt (l.map bv) = l.map UInt8.ofNat := by
  intro l
  induction l with
  | nil => rfl
  | cons x l ih => simp only [List.map_cons, bytesAt, bv, ih, Int.toNat_natCast]
theorem ofNat_inj {a b : List Nat} (ha : ∀ x ∈ a, x < 256) (hb : ∀ x ∈ b, x < 256) (h : a.map UInt8.ofNat = b.map UInt8.ofNat) : a = b := by
  induction a generalizing b with
  | nil => cases b with
    | nil => rfl
    | cons y b => cases h
  | cons x a ih =>
    cases b with
    | nil => cases h
    | cons y b =>
      simp only [List.map_cons, List.cons.injEq] at h
      have h1 := congrArg UInt8.toNat h.1
      simp only [UInt8.toNat_ofNat'] at h1
      have a1 := ha x (by simp)
      have b1 := hb y (by simp)
      rw [Nat.mod_eq_of_lt (by omega), Nat.mod_eq_of_lt (by omega)] at h1
      rw [h1, ih (fun z hz => ha z (by simp [hz])) (fun z hz => hb z (by simp [hz])) h.2]
theorem putN_len_pos (u : Nat) : 0 < (putN u).length := by
  rw [putN]; split <;> simp
theorem putN_mono (a b : Nat) (h : a ≤ b) : (putN a).length ≤ (putN b).length := by
  induction b using Nat.strongRecOn generalizing a with
  | ind b ih =>
    by_cases ha : a ≤ 127
    · rw [putN_lo ha]; exact putN_len_pos b
    · rw [putN_hi ha, putN_hi (show ¬ b ≤ 127 by omega)]
      have := ih (b / 128) (by omega) (a / 128) (by omega)
      simp; exact this
theorem putN_prefix (a b n : Nat) (hn : n = (putN a).length ∨ n = (putN b).length) (h : (putN a).take n = (putN b).take n) : a = b := by
  induction a using Nat.strongRecOn generalizing b n with
  | ind a ih =>
    have pa := putN_len_pos a
    have pb := putN_len_pos b
    obtain ⟨n, rfl⟩ : ∃ m, n = m + 1 := ⟨n - 1, by omega⟩
    by_cases ha : a ≤ 127
    · by_cases hb : b ≤ 127
      · rw [putN_lo ha, putN_lo hb] at h
        simpa using h
      · rw [putN_lo ha, putN_hi hb] at h
        simp at h
        omega
    · by_cases hb : b ≤ 127
      · rw [putN_hi ha, putN_lo hb] at h
        simp at h
        omega
      · rw [putN_hi ha, putN_hi hb] at h hn
        simp only [List.take_succ_cons, List.cons.injEq] at h
        simp only [List.length_cons, Nat.add_right_cancel_iff] at hn
        have := ih (a / 128) (by omega) (b / 128) n hn h.2
        omega
theorem putE_ok : TabG Tryd.prog G1 := by
  refine andG_ok Tryd.func26 rfl (by kernel_rfl) (fun ar v h => ?_) noG_ok
  unfold putE at h
  split at h
  · rename_i u
    simp only [Option.some.injEq, Prod.mk.injEq] at h
    obtain ⟨ht, rfl⟩ := h
    obtain ⟨h0, h1⟩ := of_tst ht
    obtain ⟨n, rfl⟩ : ∃ n : Nat, u = n := ⟨u.toNat, by omega⟩
    rw [Int.toNat_natCast]
    exact put_nil n (by omega)
  · rename_i t l off ex cs u
    cases hb : Nat.beq t 4294967296 with
    | false => rw [hb] at h; cases h
    | true =>
      rw [hb] at h
      simp only [cond_true, Option.some.injEq, Prod.mk.injEq] at h
      obtain ⟨ht, rfl⟩ := h
      obtain ⟨h0, h1, h2, h3, h4⟩ := of_tst ht
      have e := Nat.eq_of_beq_eq_true hb
      subst e
      obtain ⟨n, rfl⟩ : ∃ n : Nat, u = n := ⟨u.toNat, by omega⟩
      rw [Int.toNat_natCast]
      exact put_con l off ex cs n (by omega) h2 h3 h4
  · cases h
set_option maxRecDepth 100000 in
theorem t10 (a b : Int) : runT Tryd.prog tabs (lA G1) (lK G1) noLK Tryd.f10 [.int .u64 a, .int .u64 b] = (bif tst (0 ≤ a ∧ a < 18446744073709551616) then bif tst (0 ≤ b ∧ b < 18446744073709551616) then bif decide (a < b) then bif decide ((↑(List.length (putV (Int.toNat a))) : Int) > (↑(List.length (putV (Int.toNat b))) : Int)) then some (Value.bool Bool.false) else bif a == b then bif Nat.ble (0 + List.length (putV (Int.toNat a))) (List.length (putV (Int.toNat a))) && isBytes (List.take (List.length (putV (Int.toNat a))) (putV (Int.toNat a))) then bif Nat.ble (0 + List.length (putV (Int.toNat b))) (List.length (putV (Int.toNat b))) && isBytes (List.take (List.length (putV (Int.toNat b))) (putV (Int.toNat b))) then bif bytesAt (List.take (List.length (putV (Int.toNat a))) (putV (Int.toNat a))) == bytesAt (List.take (List.length (putV (Int.toNat b))) (putV (Int.toNat b))) then some (Value.bool Bool.true) else some (Value.bool Bool.false) else none else none else bif decide ((↑(List.length (putV (Int.toNat b))) : Int) < (↑(List.length (putV (Int.toNat a))) : Int)) then bif Bool.true && decide (0 ≤ (↑(List.length (putV (Int.toNat b))) : Int)) && Nat.ble 0 (Int.toNat (↑(List.length (putV (Int.toNat b))) : Int)) && Nat.ble (Int.toNat (↑(List.length (putV (Int.toNat b))) : Int)) (List.length (putV (Int.toNat a))) then bif Nat.ble (0 + Int.toNat (↑(List.length (putV (Int.toNat b))) : Int)) (List.length (putV (Int.toNat a))) && isBytes (List.take (Int.toNat (↑(List.length (putV (Int.toNat b))) : Int)) (putV (Int.toNat a))) then bif Bool.true && decide (0 ≤ (↑(List.length (putV (Int.toNat b))) : Int)) && Nat.ble 0 (Int.toNat (↑(List.length (putV (Int.toNat b))) : Int)) && Nat.ble (Int.toNat (↑(List.length (putV (Int.toNat b))) : Int)) (List.length (putV (Int.toNat b))) then bif Nat.ble (0 + Int.toNat (↑(List.length (putV (Int.toNat b))) : Int)) (List.length (putV (Int.toNat b))) && isBytes (List.take (Int.toNat (↑(List.length (putV (Int.toNat b))) : Int)) (putV (Int.toNat b))) then bif !bytesAt (List.take (Int.toNat (↑(List.length (putV (Int.toNat b))) : Int)) (putV (Int.toNat a))) == bytesAt (List.take (Int.toNat (↑(List.length (putV (Int.toNat b))) : Int)) (putV (Int.toNat b))) then some (Value.bool Bool.true) else some (Value.bool Bool.false) else none else none else none else none else bif Bool.true && decide (0 ≤ (↑(List.length (putV (Int.toNat a))) : Int)) && Nat.ble 0 (Int.toNat (↑(List.length (putV (Int.toNat a))) : Int)) && Nat.ble (Int.toNat (↑(List.length (putV (Int.toNat a))) : Int)) (List.length (putV (Int.toNat a))) then bif Nat.ble (0 + Int.toNat (↑(List.length (putV (Int.toNat a))) : Int)) (List.length (putV (Int.toNat a))) && isBytes (List.take (Int.toNat (↑(List.length (putV (Int.toNat a))) : Int)) (putV (Int.toNat a))) then bif Bool.true && decide (0 ≤ (↑(List.length (putV (Int.toNat a))) : Int)) && Nat.ble 0 (Int.toNat (↑(List.length (putV (Int.toNat a))) : Int)) && Nat.ble (Int.toNat (↑(List.length (putV (Int.toNat a))) : Int)) (List.length (putV (Int.toNat b))) then bif Nat.ble (0 + Int.toNat (↑(List.length (putV (Int.toNat a))) : Int)) (List.length (putV (Int.toNat b))) && isBytes (List.take (Int.toNat (↑(List.length (putV (Int.toNat a))) : Int)) (putV (Int.toNat b))) then bif !bytesAt (List.take (Int.toNat (↑(List.length (putV (Int.toNat a))) : Int)) (putV (Int.toNat a))) == bytesAt (List.take (Int.toNat (↑(List.length (putV (Int.toNat a))) : Int)) (putV (Int.toNat b))) then some (Value.bool Bool.true) else some (Value.bool Bool.false) else none else none else none else none else bif a == b then bif Nat.ble (0 + List.length (putV (Int.toNat a))) (List.length (putV (Int.toNat a))) && isBytes (List.take (List.length (putV (Int.toNat a))) (putV (Int.toNat a))) then bif Nat.ble (0 + List.length (putV (Int.toNat b))) (List.length (putV (Int.toNat b))) && isBytes (List.take (List.length (putV (Int.toNat b))) (putV (Int.toNat b))) then bif bytesAt (List.take (List.length (putV (Int.toNat a))) (putV (Int.toNat a))) == bytesAt (List.take (List.length (putV (Int.toNat b))) (putV (Int.toNat b))) then some (Value.bool Bool.true) else some (Value.bool Bool.false) else none else none else bif decide ((↑(List.length (putV (Int.toNat b))) : Int) < (↑(List.length (putV (Int.toNat a))) : Int)) then bif Bool.true && decide (0 ≤ (↑(List.length (putV (Int.toNat b))) : Int)) && Nat.ble 0 (Int.toNat (↑(List.length (putV (Int.toNat b))) : Int)) && Nat.ble (Int.toNat (↑(List.length (putV (Int.toNat b))) : Int)) (List.length (putV (Int.toNat a))) then bif Nat.ble (0 + Int.toNat (↑(List.length (putV (Int.toNat b))) : Int)) (List.length (putV (Int.toNat a))) && isBytes (List.take (Int.toNat (↑(List.length (putV (Int.toNat b))) : Int)) (putV (Int.toNat a))) then bif Bool.true && decide (0 ≤ (↑(List.length (putV (Int.toNat b))) : Int)) && Nat.ble 0 (Int.toNat (↑(List.length (putV (Int.toNat b))) : Int)) && Nat.ble (Int.toNat (↑(List.length (putV (Int.toNat b))) : Int)) (List.length (putV (Int.toNat b))) then bif Nat.ble (0 + Int.toNat (↑(List.length (putV (Int.toNat b))) : Int)) (List.length (putV (Int.toNat b))) && isBytes (List.take (Int.toNat (↑(List.length (putV (Int.toNat b))) : Int)) (putV (Int.toNat b))) then bif !bytesAt (List.take (Int.toNat (↑(List.length (putV (Int.toNat b))) : Int)) (putV (Int.toNat a))) == bytesAt (List.take (Int.toNat (↑(List.length (putV (Int.toNat b))) : Int)) (putV (Int.toNat b))) then some (Value.bool Bool.true) else some (Value.bool Bool.false) else none else none else none else none else bif Bool.true && decide (0 ≤ (↑(List.length (putV (Int.toNat a))) : Int)) && Nat.ble 0 (Int.toNat (↑(List.length (putV (Int.toNat a))) : Int)) && Nat.ble (Int.toNat (↑(List.length (putV (Int.toNat a))) : Int)) (List.length (putV (Int.toNat a))) then bif Nat.ble (0 + Int.toNat (↑(List.length (putV (Int.toNat a))) : Int)) (List.length (putV (Int.toNat a))) && isBytes (List.take (Int.toNat (↑(List.length (putV (Int.toNat a))) : Int)) (putV (Int.toNat a))) then bif Bool.true && decide (0 ≤ (↑(List.length (putV (Int.toNat a))) : Int)) && Nat.ble 0 (Int.toNat (↑(List.length (putV (Int.toNat a))) : Int)) && Nat.ble (Int.toNat (↑(List.length (putV (Int.toNat a))) : Int)) (List.length (putV (Int.toNat b))) then bif Nat.ble (0 + Int.toNat (↑(List.length (putV (Int.toNat a))) : Int)) (List.length (putV (Int.toNat b))) && isBytes (List.take (Int.toNat (↑(List.length (putV (Int.toNat a))) : Int)) (putV (Int.toNat b))) then bif !bytesAt (List.take (Int.toNat (↑(List.length (putV (Int.toNat a))) : Int)) (putV (Int.toNat a))) == bytesAt (List.take (Int.toNat (↑(List.length (putV (Int.toNat a))) : Int)) (putV (Int.toNat b))) then some (Value.bool Bool.true) else some (Value.bool Bool.false) else none else none else none else none else none else none) := by kernel_rfl
theorem order_run (a b : Nat) (ha : a < 2 ^ 64) (hb : b < 2 ^ 64) : runT Tryd.prog tabs (lA G1) (lK G1) noLK Tryd.f10 [.int .u64 (a : Int), .int .u64 (b : Int)] = some (.bool true) := by
  have iA : ∀ n, isBytes ((putV a).take n) = true := fun n => by rw [putV_eq, ← List.map_take]; exact isBytes_map _
  have iB : ∀ n, isBytes ((putV b).take n) = true := fun n => by rw [putV_eq, ← List.map_take]; exact isBytes_map _
  have la : (putV a).length = (putN a).length := by rw [putV_eq, List.length_map]
  have lb : (putV b).length = (putN b).length := by rw [putV_eq, List.length_map]
  have key : ∀ n, a ≠ b → (n = (putN a).length ∨ n = (putN b).length) → (!(bytesAt ((putV a).take n) == bytesAt ((putV b).take n))) = true := by
    intro n hne hn
    rw [Bool.not_eq_true', beq_eq_false_iff_ne]
    intro he
    rw [putV_eq, putV_eq, ← List.map_take, ← List.map_take, bytesAt_map, bytesAt_map] at he
    exact hne (putN_prefix a b n hn (ofNat_inj (fun x hx => putN_byte a x (List.mem_of_mem_take hx)) (fun x hx => putN_byte b x (List.mem_of_mem_take hx)) he))
  rw [t10, tst_of ⟨by omega, by omega⟩, tst_of ⟨by omega, by omega⟩]
  simp only [Int.toNat_natCast, Nat.zero_add, cond_true, iA, iB, Bool.and_true, Bool.true_and, ble_t (Nat.le_refl _), ble_t (Nat.zero_le _), decide_eq_true (Int.natCast_nonneg _)]
  have dAB : ∀ x y : Nat, decide ((x : Int) < (y : Int)) = decide (x < y) := fun x y => by
    by_cases h : x < y
    · rw [decide_eq_true h, decide_eq_true (by omega)]
    · rw [decide_eq_false h, decide_eq_false (by omega)]
  have gAB : ∀ x y : Nat, decide ((x : Int) > (y : Int)) = decide (y < x) := fun x y => dAB y x
  simp only [dAB, gAB, la, lb]
  rcases Nat.lt_trichotomy a b with h | h | h
  · have m := putN_mono a b (by omega)
    have hne : a ≠ b := by omega
    rw [decide_eq_true h, decide_eq_false (show ¬ (putN b).length < (putN a).length by omega), show ((a : Int) == (b : Int)) = false by rw [beq_eq_false_iff_ne]; omega]
    simp only [cond_true, cond_false, ble_t m]
    rw [key _ hne (.inl rfl)]; rfl
  · subst h
    rw [decide_eq_false (Nat.lt_irrefl a), beq_self_eq_true]
    simp only [cond_true, cond_false, beq_self_eq_true]
  · have m := putN_mono b a (by omega)
    have hne : a ≠ b := by omega
    rw [decide_eq_false (show ¬ a < b by omega), show ((a : Int) == (b : Int)) = false by rw [beq_eq_false_iff_ne]; omega]
    simp only [cond_false]
    by_cases hl : (putN b).length < (putN a).length
    · rw [decide_eq_true hl]
      simp only [cond_true, ble_t m]
      rw [key _ hne (.inr rfl)]; rfl
    · rw [decide_eq_false hl]
      have e : (putN a).length = (putN b).length := by omega
      simp only [cond_false, ble_t (show (putN a).length ≤ (putN b).length by omega)]
      rw [key _ hne (.inl rfl)]; rfl
theorem lA_ok {F : TabF} (hF : TabG Tryd.prog F) : CallOK Tryd.prog (glT tabs) (lA F) := mixA_ok (quietA_ok (regF_ok hmix) 60 _) (sumG_ok _ hF)
theorem lK_ok {R : Type} {F : TabF} : CKok (R := R) (lA F) (lK F) := mixK_ok (toK_ok _) (sumGK_ok _ _)
theorem ints_plain {w : World} {l : List Value} (h : l.all plainV = true) : LRel (mu0 w) 0 l l := plainV_list h
theorem order_walk (a b : Int) (w : World) (h0 : (Lit.int .u64 a).wf = true) (h1 : (Lit.int .u64 b).wf = true) (hw : ∀ x ∈ tabs, Holds w x) :
    Calls Tryd.prog 10 #[.int .u64 a, .int .u64 b] w fun e w' => e = .returned (.bool true) ∧ Below w.heap.size w w' := by
  obtain ⟨a, rfl, ha⟩ := nat_of_wf h0
  obtain ⟨b, rfl, hb⟩ := nat_of_wf h1
  exact lawG hmix (lA_ok putE_ok) lK_ok noLK_ok Tryd.func10 rfl (by kernel_rfl) noLO_ok (order_run a b ha hb) rfl w hw _ (ints_plain rfl)
end Go.Proofs.YtjhlfolgadaliaaDoor.AI
