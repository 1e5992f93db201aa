/- Functions of whole numbers, run with numbers that are not known. -/
import Derived.Test.YtjhlfolgadaliaaDoorSXm
import Derived.Laws.BitsLemmas
import Derived.KernelRfl
namespace Go.Proofs.YtjhlfolgadaliaaDoor.AI
open Go Go.RowKit 
set_option linter.unusedVariables false
set_option linter.unusedSimpArgs false
def zigM (v : Int) : Int := if v ≥ 0 then 2 * v else -2 * v - 1
def zagM (u : Int) : Int := if u % 2 = 0 then u / 2 else -(u / 2) - 1
theorem xorR (a b : Nat) (ha : a < 2 ^ 64) (hb : b < 2 ^ 64) : BitVec.toNat (BitVec.ofInt 64 (a : Int) ^^^ BitVec.ofInt 64 (b : Int)) = a ^^^ b := by
  rw [ofInt_nat, ofInt_nat, BitVec.toNat_xor, BitVec.toNat_ofNat, BitVec.toNat_ofNat, lt64 ha, lt64 hb]
theorem xor_all (w : Nat) (hw : w < 2 ^ 64) : w ^^^ 18446744073709551615 = turn w := by
  have h := notI w hw
  rw [allI_eq, xor_nat _ _ (by decide) hw] at h
  rw [Nat.xor_comm]
  exact Int.ofNat.inj h
theorem t28 (v : Int) : RX Tryd.prog [] noG noLK Tryd.f28 [.int .i64 v] 0 = some (Value.int IntKind.u64 (IntKind.wrap IntKind.u64 (↑(BitVec.toNat (BitVec.ofInt 64 (IntKind.wrap IntKind.u64 (IntKind.wrap IntKind.i64 (v * 2 ^ Min.min (Int.toNat 1) 64))) ^^^ BitVec.ofInt 64 (IntKind.wrap IntKind.u64 (Int.fdiv v (2 ^ Min.min (Int.toNat 63) 64))))) : Int))) := by kernel_rfl
theorem t29 (v : Int) : RX Tryd.prog [] noG noLK Tryd.f29 [.int .i64 v] 0 = bif decide (v ≥ 0) then some (Value.int IntKind.u64 (IntKind.wrap IntKind.u64 (2 * IntKind.wrap IntKind.u64 v))) else some (Value.int IntKind.u64 (IntKind.wrap IntKind.u64 (IntKind.wrap IntKind.u64 (2 * IntKind.wrap IntKind.u64 (IntKind.wrap IntKind.i64 (0 - IntKind.wrap IntKind.i64 (v + 1)))) + 1))) := by kernel_rfl
theorem t30 (v : Int) : RX Tryd.prog [] noG noLK Tryd.f30 [.int .u64 v] 0 = some (Value.int IntKind.i64 (IntKind.wrap IntKind.i64 (↑(BitVec.toNat (BitVec.ofInt 64 (IntKind.wrap IntKind.i64 (Int.fdiv v (2 ^ Min.min (Int.toNat 1) 64))) ^^^ BitVec.ofInt 64 (IntKind.wrap IntKind.i64 (0 - IntKind.wrap IntKind.i64 (IntKind.wrap IntKind.u64 (↑(BitVec.toNat (BitVec.ofInt 64 v &&& BitVec.ofInt 64 1)) : Int)))))) : Int))) := by kernel_rfl
theorem t31 (v : Int) : RX Tryd.prog [] noG noLK Tryd.f31 [.int .u64 v] 0 = bif Int.tmod v 2 == 0 then some (Value.int IntKind.i64 (IntKind.wrap IntKind.i64 (IntKind.wrap IntKind.u64 (Int.tdiv v 2)))) else some (Value.int IntKind.i64 (IntKind.wrap IntKind.i64 (IntKind.wrap IntKind.i64 (0 - IntKind.wrap IntKind.i64 (IntKind.wrap IntKind.u64 (Int.tdiv v 2))) - 1))) := by kernel_rfl
theorem p63 : (2 : Int) ^ Min.min (Int.toNat 63) 64 = 9223372036854775808 := by decide
theorem p1 : (2 : Int) ^ Min.min (Int.toNat 1) 64 = 2 := by decide
theorem r28 (v : Int) (h0 : -9223372036854775808 ≤ v) (h1 : v ≤ 9223372036854775807) : RX Tryd.prog [] noG noLK Tryd.f28 [.int .i64 v] 0 = some (.int .u64 (zigM v)) := by
  refine (t28 v).trans ?_
  rw [p63, p1, Int.fdiv_eq_ediv_of_nonneg _ (by decide)]
  by_cases h : v ≥ 0
  · have ea : IntKind.wrap IntKind.u64 (IntKind.wrap IntKind.i64 (v * 2)) = ((2 * v).toNat : Int) := by rw [u64w, i64w]; omega
    have eb : IntKind.wrap IntKind.u64 (v / 9223372036854775808) = ((0 : Nat) : Int) := by rw [u64w]; omega
    rw [ea, eb, xorR _ _ (by omega) (by decide), Nat.xor_zero, u64w]
    unfold zigM
    rw [if_pos h]
    refine congrArg (fun z => some (Value.int .u64 z)) ?_
    omega
  · have ea : IntKind.wrap IntKind.u64 (IntKind.wrap IntKind.i64 (v * 2)) = ((2 * v + 18446744073709551616).toNat : Int) := by rw [u64w, i64w]; omega
    have eb : IntKind.wrap IntKind.u64 (v / 9223372036854775808) = ((18446744073709551615 : Nat) : Int) := by rw [u64w]; omega
    rw [ea, eb, xorR _ _ (by omega) (by decide), xor_all _ (by omega), u64w]
    unfold zigM turn
    rw [if_neg h]
    refine congrArg (fun z => some (Value.int .u64 z)) ?_
    omega
theorem r29 (v : Int) (h0 : -9223372036854775808 ≤ v) (h1 : v ≤ 9223372036854775807) : RX Tryd.prog [] noG noLK Tryd.f29 [.int .i64 v] 0 = some (.int .u64 (zigM v)) := by
  refine (t29 v).trans ?_
  unfold zigM
  by_cases h : v ≥ 0
  · rw [decide_eq_true h, if_pos h, cond_true, u64w, u64w]
    refine congrArg (fun z => some (Value.int .u64 z)) ?_
    omega
  · rw [decide_eq_false h, if_neg h, cond_false, u64w, u64w, u64w, i64w, i64w]
    refine congrArg (fun z => some (Value.int .u64 z)) ?_
    omega
theorem r30 (u : Nat) (hu : u < 2 ^ 64) : RX Tryd.prog [] noG noLK Tryd.f30 [.int .u64 (u : Int)] 0 = some (.int .i64 (zagM u)) := by
  refine (t30 u).trans ?_
  have e0 : IntKind.wrap IntKind.u64 (↑(BitVec.toNat (BitVec.ofInt 64 (u : Int) &&& BitVec.ofInt 64 1)) : Int) = ((u % 2 : Nat) : Int) := by
    have := and_nat u 1 hu (by decide)
    rw [Nat.and_one_is_mod] at this
    exact this
  have ea : IntKind.wrap IntKind.i64 (Int.fdiv (u : Int) 2) = ((u / 2 : Nat) : Int) := by rw [Int.fdiv_eq_ediv_of_nonneg _ (by decide), i64w]; omega
  rw [p1, e0, ea]
  unfold zagM
  by_cases h : u % 2 = 0
  · have eb : IntKind.wrap IntKind.i64 (0 - IntKind.wrap IntKind.i64 ((u % 2 : Nat) : Int)) = ((0 : Nat) : Int) := by rw [h]; decide
    rw [eb, xorR _ _ (by omega) (by decide), Nat.xor_zero, i64w, if_pos (by omega)]
    refine congrArg (fun z => some (Value.int .i64 z)) ?_
    omega
  · have eb : IntKind.wrap IntKind.i64 (0 - IntKind.wrap IntKind.i64 ((u % 2 : Nat) : Int)) = -1 := by rw [show u % 2 = 1 by omega]; decide
    have ec : BitVec.ofInt 64 (-1) = BitVec.ofInt 64 ((18446744073709551615 : Nat) : Int) := by decide
    rw [eb, ec, xorR _ _ (by omega) (by decide), xor_all _ (by omega), i64w, if_neg (by omega)]
    unfold turn
    refine congrArg (fun z => some (Value.int .i64 z)) ?_
    omega
theorem r31 (u : Nat) (hu : u < 2 ^ 64) : RX Tryd.prog [] noG noLK Tryd.f31 [.int .u64 (u : Int)] 0 = some (.int .i64 (zagM u)) := by
  refine (t31 u).trans ?_
  have e1 : Int.tmod (u : Int) 2 = (u : Int) % 2 := Int.tmod_eq_emod_of_nonneg (by omega)
  have e2 : Int.tdiv (u : Int) 2 = (u : Int) / 2 := Int.tdiv_eq_ediv_of_nonneg (by omega)
  rw [e1, e2]
  unfold zagM
  by_cases h : (u : Int) % 2 = 0
  · rw [if_pos h, h, show ((0 : Int) == 0) = true from rfl, cond_true, u64w, i64w]
    refine congrArg (fun z => some (Value.int .i64 z)) ?_
    omega
  · rw [if_neg h, show (((u : Int) % 2) == 0) = false by rw [beq_eq_false_iff_ne]; exact h, cond_false, u64w, i64w, i64w, i64w]
    refine congrArg (fun z => some (Value.int .i64 z)) ?_
    omega
theorem zag_zig (v : Int) : zagM (zigM v) = v := by
  unfold zagM zigM
  by_cases h : v ≥ 0
  · rw [if_pos h, if_pos (by omega)]; omega
  · rw [if_neg h, if_neg (by omega)]; omega
theorem zig_zag (u : Int) (h : 0 ≤ u) : zigM (zagM u) = u := by
  unfold zagM zigM
  by_cases h2 : u % 2 = 0
  · rw [if_pos h2, if_pos (by omega)]; omega
  · rw [if_neg h2, if_neg (by omega)]; omega
noncomputable def zigE (ar : List Value) : Option (Bool × Value) := match ar with
  | [.int .i64 v] => some (tst (-9223372036854775808 ≤ v ∧ v ≤ 9223372036854775807), .int .u64 (zigM v))
  | _ => none
noncomputable def zagE (ar : List Value) : Option (Bool × Value) := match ar with
  | [.int .u64 v] => some (tst (0 ≤ v ∧ v < 18446744073709551616), .int .i64 (zagM v))
  | _ => none
theorem con0 {k : Nat} {fn : Func} {c : Code} {ar : List Value} {v : Value} (hfn : Tryd.prog.funcs[k]? = some fn) (hb : fn.body = some c) (hname : (fn.name == "runtime.NumGoroutine") = false) (h : RX Tryd.prog [] noG noLK fn ar 0 = some v) : ConG Tryd.prog k ar v :=
  conG hmix (cA_ok (ins := []) noG_ok) (cK_ok (ins := [])) noLK_ok hfn hb hname noLO_ok (d := 1) h
theorem zigE_ok {k : Nat} {ar : List Value} {v : Value} (hk : ∀ x : Int, -9223372036854775808 ≤ x → x ≤ 9223372036854775807 → ConG Tryd.prog k [.int .i64 x] (.int .u64 (zigM x))) (h : zigE ar = some (true, v)) : ConG Tryd.prog k ar v := by
  unfold zigE at h
  split at h
  · rename_i x
    simp only [Option.some.injEq, Prod.mk.injEq] at h
    obtain ⟨ht, rfl⟩ := h
    obtain ⟨h0, h1⟩ := of_tst ht
    exact hk x h0 h1
  · cases h
theorem zagE_ok {k : Nat} {ar : List Value} {v : Value} (hk : ∀ x : Nat, x < 2 ^ 64 → ConG Tryd.prog k [.int .u64 (x : Int)] (.int .i64 (zagM x))) (h : zagE ar = some (true, v)) : ConG Tryd.prog k ar v := by
  unfold zagE at h
  split at h
  · rename_i x
    simp only [Option.some.injEq, Prod.mk.injEq] at h
    obtain ⟨ht, rfl⟩ := h
    obtain ⟨h0, h1⟩ := of_tst ht
    obtain ⟨n, rfl⟩ : ∃ n : Nat, x = n := ⟨x.toNat, by omega⟩
    exact hk n (by omega)
  · cases h
theorem putE_con {k : Nat} {ar : List Value} {v : Value} (h0 : ∀ u : Nat, u < 2 ^ 64 → ConG Tryd.prog k [.slice none 0 0, .int .u64 (u : Int)] (gslV (putV u).length 0 false (putV u)))
    (h1 : ∀ (l off : Nat) (ex : Bool) (cs : List Value) (u : Nat), u < 2 ^ 64 → off + l ≤ cs.length → l + 11 ≤ 4294967296 → (∀ x ∈ cs, GVal x) → ConG Tryd.prog k [gslV l off ex cs, .int .u64 (u : Int)] (gslV (l + (putV u).length) 0 false ((cs.drop off).take l ++ putV u)))
    (h : putE ar = some (true, v)) : ConG Tryd.prog k ar v := by
  unfold putE at h
  split at h
  · rename_i u
    simp only [Option.some.injEq, Prod.mk.injEq] at h
    obtain ⟨ht, rfl⟩ := h
    obtain ⟨h2, h3⟩ := of_tst ht
    obtain ⟨n, rfl⟩ : ∃ n : Nat, u = n := ⟨u.toNat, by omega⟩
    rw [Int.toNat_natCast]
    exact h0 n (by omega)
  · rename_i t l off ex cs u
    cases hb : Nat.beq t 4294967296 with
    | false => rw [hb] at h; cases h
    | true =>
      rw [hb] at h
      simp only [cond_true, Option.some.injEq, Prod.mk.injEq] at h
      obtain ⟨ht, rfl⟩ := h
      obtain ⟨g0, g1, g2, g3, g4⟩ := of_tst ht
      have e := Nat.eq_of_beq_eq_true hb
      subst e
      obtain ⟨n, rfl⟩ : ∃ n : Nat, u = n := ⟨u.toNat, by omega⟩
      rw [Int.toNat_natCast]
      exact h1 l off ex cs n (by omega) g2 g3 g4
  · cases h
noncomputable def G2 : TabF := andG 26 putE (andG 32 putE (andG 14 takeE (andG 27 takeE (andG 28 zigE (andG 29 zigE (andG 30 zagE (andG 31 zagE noG)))))))
theorem G2_ok : TabG Tryd.prog G2 := by
  refine andG_ok Tryd.func26 rfl (by kernel_rfl) (fun ar v h => putE_con put_nil put_con h) ?_
  refine andG_ok Tryd.func32 rfl (by kernel_rfl) (fun ar v h => putE_con rput_nil rput_con h) ?_
  refine andG_ok Tryd.func14 rfl (by kernel_rfl) (fun ar v h => takeE_ok take14_con h) ?_
  refine andG_ok Tryd.func27 rfl (by kernel_rfl) (fun ar v h => takeE_ok take27_con h) ?_
  refine andG_ok Tryd.func28 rfl (by kernel_rfl) (fun ar v h => zigE_ok (fun x a b => con0 Tryd.func28 rfl (by kernel_rfl) (r28 x a b)) h) ?_
  refine andG_ok Tryd.func29 rfl (by kernel_rfl) (fun ar v h => zigE_ok (fun x a b => con0 Tryd.func29 rfl (by kernel_rfl) (r29 x a b)) h) ?_
  refine andG_ok Tryd.func30 rfl (by kernel_rfl) (fun ar v h => zagE_ok (fun x a => con0 Tryd.func30 rfl (by kernel_rfl) (r30 x a)) h) ?_
  exact andG_ok Tryd.func31 rfl (by kernel_rfl) (fun ar v h => zagE_ok (fun x a => con0 Tryd.func31 rfl (by kernel_rfl) (r31 x a)) h) noG_ok
theorem rowBytes : ∀ {l : Nat} {cs : List Value}, RowOk [.int .u8] l cs → ∃ bl : List Nat, cs = bl.map bv ∧ bl.length = l ∧ ∀ x ∈ bl, x < 256 := by
  intro l
  induction l with
  | zero => intro cs h; cases h; exact ⟨[], rfl, rfl, fun x hx => by cases hx⟩
  | succ l ih =>
    rintro cs ⟨a, r, rfl, ha, hr⟩
    obtain ⟨bl, rfl, hl, hb⟩ := ih hr
    cases ha with
    | cons h1 h2 =>
      cases h2
      obtain ⟨n, rfl, hn⟩ := h1
      simp [Lit.wf, IntKind.min, IntKind.max, IntKind.bits, IntKind.signed] at hn
      refine ⟨n.toNat :: bl, ?_, by simp [hl], fun x hx => ?_⟩
      · simp only [List.map_cons, bv, List.singleton_append]
        congr 2
        omega
      · rcases List.mem_cons.1 hx with rfl | hx
        · omega
        · exact hb x hx
theorem rowN_map (bl : List Nat) : rowN bl.length 0 (bl.map bv) = bl := by
  refine List.ext_getElem? fun i => ?_
  unfold rowN
  rw [List.getElem?_map]
  by_cases hi : i < bl.length
  · rw [List.getElem?_range hi, List.getElem?_eq_getElem hi]
    simp only [Option.map_some, Nat.zero_add]
    unfold intAt
    rw [List.getElem?_map, List.getElem?_eq_getElem hi]
    rfl
  · rw [List.getElem?_eq_none (by simp; omega), List.getElem?_eq_none (by omega)]; rfl
theorem tkOk_map (bl : List Nat) (h : ∀ x ∈ bl, x < 256) : TkOk bl.length 0 (bl.map bv) := by
  unfold TkOk
  rw [rowN_map]
  refine ⟨h, fun i x hx => ?_⟩
  rw [Nat.zero_add, List.getElem?_map, hx]; rfl
theorem gv_map (bl : List Nat) : ∀ x ∈ bl.map bv, GVal x := fun x hx => by
  obtain ⟨y, _, rfl⟩ := List.mem_map.1 hx
  exact bv_gval y
theorem tk_put (u : Nat) (hu : u < 2 ^ 64) (bl : List Nat) : tkU ((putN u).length + bl.length) 0 ((putN u ++ bl).map bv) = u ∧ tkN ((putN u).length + bl.length) 0 ((putN u ++ bl).map bv) = (putN u).length := by
  obtain ⟨c, d, h⟩ := take_put bl u 0 0 (by simpa using hu) (by decide) (by decide) (.inl rfl)
  unfold tkU tkN
  rw [← List.length_append, rowN_map, h]
  simp
end Go.Proofs.YtjhlfolgadaliaaDoor.AI
