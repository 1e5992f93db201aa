/- Functions of whole numbers, run with numbers that are not known. -/
import Derived.Test.YtjhlfolgadaliaaDoorSXe
import Derived.Laws.BitsLemmas
import Derived.KernelRfl
namespace Go.Proofs.YtjhlfolgadaliaaDoor.AI
open Go Go.RowKit 
set_option linter.unusedVariables false
set_option linter.unusedSimpArgs false
theorem loops26 : loopsOf (bodyOf Tryd.f26) = [loopN Tryd.f26 0] := by kernel_rfl
theorem flP_ok (k u : Nat) (p0 : PS) (hk : okP k p0 u) : LoopsOK Tryd.prog gl0 ⟨.nil, k⟩ (loQ 2 [0, 1] (flP k u p0 (finP p0 u) (lastU u)) noLO) (loopsOf (bodyOf Tryd.f26)) := by
  refine loQ_ok (fun c hc _ σ vs x σ' hd hp h => ?_) noLO_ok
  rw [loops26, List.mem_singleton] at hc
  subst hc
  unfold flP at h
  cases p0 with
  | nil =>
    dsimp only at h
    split at h
    · rename_i u'
      simp only [Option.some.injEq, Prod.mk.injEq] at h
      obtain ⟨ht, rfl, rfl⟩ := h
      obtain ⟨rfl, hs⟩ := of_tst ht
      obtain rfl : k = 0 := by rcases hk.2.2.2 with ⟨h1, _⟩ | ⟨_, h1⟩ <;> first | exact h1 | exact absurd rfl h1
      exact (loopP 0 .nil u hk).enter (cov_nil hs hd hp)
    · cases h
  | emp =>
    dsimp only at h
    split at h
    · rename_i b n c u'
      split at h
      · rename_i bs hbs
        simp only [Option.some.injEq, Prod.mk.injEq] at h
        obtain ⟨ht, rfl, rfl⟩ := h
        obtain ⟨rfl, h2, rfl, hs⟩ := of_tst ht
        refine (loopP k .emp u hk).enter ?_
        have := cov_row (k := k) hs hd hp hbs (fun x hx => by cases hx)
        rw [h2] at this
        exact this
      · cases h
    · cases h
  | own cs =>
    dsimp only at h
    split at h
    · rename_i b n c u'
      split at h
      · rename_i bs hbs
        simp only [Option.some.injEq, Prod.mk.injEq] at h
        obtain ⟨ht, rfl, rfl⟩ := h
        obtain ⟨rfl, h2, rfl, hs⟩ := of_tst ht
        refine (loopP k (.own cs) u hk).enter ?_
        have := cov_row (k := k) hs hd hp hbs hk.2.2.1
        rw [h2] at this
        exact this
      · cases h
    · cases h
theorem tA1 (u : Nat) : RX Tryd.prog [42] noG (lkP 0 u .nil .nil u) Tryd.f26 [.slice none 0 0, .int .u64 (u : Int)] 0 = (bif tst ((↑u : Int) = (↑u : Int) ∧ 23 = 23) then bif tst (∀ (x : Value), x ∈ [Value.int IntKind.u8 (IntKind.wrap IntKind.u8 (↑u : Int))] → GVal x) then some (Value.iface 4294967296 (Value.tuple { toList := [Value.slice none 1 0, Value.bool Bool.false, Value.int IntKind.u8 (IntKind.wrap IntKind.u8 (↑u : Int))] })) else none else none) := by kernel_rfl
theorem tA2 (u u1 : Nat) (iv : List Value) : RX Tryd.prog [42] noG (lkP 0 u .nil (.own iv) u1) Tryd.f26 [.slice none 0 0, .int .u64 (u : Int)] 0 = (bif tst ((↑u : Int) = (↑u : Int) ∧ 23 = 23) then bif Nat.ble (List.length iv + 1) 4294967296 then bif Nat.ble (0 + List.length iv * 1) (List.length iv) then bif Nat.beq (0 + List.length iv * 1) (List.length iv) then bif tst (∀ (x : Value), x ∈ List.take (List.length iv * 1) iv ++ [Value.int IntKind.u8 (IntKind.wrap IntKind.u8 (↑u1 : Int))] → GVal x) then some (Value.iface 4294967296 (Value.tuple { toList := Value.slice none (List.length iv + 1) 0 :: Value.bool Bool.false :: (List.take (List.length iv * 1) iv ++ [Value.int IntKind.u8 (IntKind.wrap IntKind.u8 (↑u1 : Int))]) })) else none else none else none else none else none) := by kernel_rfl
theorem tB1 (cap u : Nat) : RX Tryd.prog [42] noG (lkP 1 u .emp .emp u) Tryd.f26 [.slice (some ⟨0, 0, none⟩) 0 (2 * cap), .int .u64 (u : Int)] 1 = (bif tst ([Blk.row Bool.false 1 []] = psB PS.emp ∧ Value.slice (some { block := 1, off := 0 }) 0 0 = psV 1 PS.emp ∧ (↑u : Int) = (↑u : Int) ∧ 23 = 23) then bif tst (∀ (x : Value), x ∈ [Value.int IntKind.u8 (IntKind.wrap IntKind.u8 (↑u : Int))] → GVal x) then some (Value.iface 4294967296 (Value.tuple { toList := [Value.slice none 1 0, Value.bool Bool.false, Value.int IntKind.u8 (IntKind.wrap IntKind.u8 (↑u : Int))] })) else none else none) := by kernel_rfl
theorem tB2 (cap u u1 : Nat) (iv : List Value) : RX Tryd.prog [42] noG (lkP 1 u .emp (.own iv) u1) Tryd.f26 [.slice (some ⟨0, 0, none⟩) 0 (2 * cap), .int .u64 (u : Int)] 1 = (bif tst ([Blk.row Bool.false 1 []] = psB PS.emp ∧ Value.slice (some { block := 1, off := 0 }) 0 0 = psV 1 PS.emp ∧ (↑u : Int) = (↑u : Int) ∧ 23 = 23) then bif Nat.ble (List.length iv + 1) 4294967296 then bif Nat.ble (0 + List.length iv * 1) (List.length iv) then bif Nat.beq (0 + List.length iv * 1) (List.length iv) then bif tst (∀ (x : Value), x ∈ List.take (List.length iv * 1) iv ++ [Value.int IntKind.u8 (IntKind.wrap IntKind.u8 (↑u1 : Int))] → GVal x) then some (Value.iface 4294967296 (Value.tuple { toList := Value.slice none (List.length iv + 1) 0 :: Value.bool Bool.false :: (List.take (List.length iv * 1) iv ++ [Value.int IntKind.u8 (IntKind.wrap IntKind.u8 (↑u1 : Int))]) })) else none else none else none else none else none) := by kernel_rfl
theorem tC (u u1 l off : Nat) (ex : Bool) (cs cs0 iv : List Value) : RX Tryd.prog [42] noG (lkP 0 u (.own cs0) (.own iv) u1) Tryd.f26 [gslV (l + 1) off ex cs, .int .u64 (u : Int)] 0 = (bif Nat.ble (off + (l + 1) * 1) (List.length cs) then bif Nat.ble (0 + (l + 1)) 4294967296 then bif tst ([Blk.row Bool.false 1 (List.take ((l + 1) * 1) (List.drop off cs))] = psB (PS.own cs0) ∧ Value.slice (some { block := 0, off := 0 }) (0 + (l + 1)) 1 = psV 0 (PS.own cs0) ∧ (↑u : Int) = (↑u : Int) ∧ 23 = 23) then bif Nat.ble (List.length iv + 1) 4294967296 then bif Nat.ble (0 + List.length iv * 1) (List.length iv) then bif Nat.beq (0 + List.length iv * 1) (List.length iv) then bif tst (∀ (x : Value), x ∈ List.take (List.length iv * 1) iv ++ [Value.int IntKind.u8 (IntKind.wrap IntKind.u8 (↑u1 : Int))] → GVal x) then some (Value.iface 4294967296 (Value.tuple { toList := Value.slice none (List.length iv + 1) 0 :: Value.bool Bool.false :: (List.take (List.length iv * 1) iv ++ [Value.int IntKind.u8 (IntKind.wrap IntKind.u8 (↑u1 : Int))]) })) else none else none else none else none else none else none else none) := by kernel_rfl
theorem gv_app {a b : List Value} (h : ∀ x ∈ a, GVal x) (g : ∀ x ∈ b, GVal x) : ∀ x ∈ a ++ b, GVal x := fun x hx => (List.mem_append.1 hx).elim (h x) (g x)
theorem gv_one (v : Value) (h : plain1 v = true) : ∀ x ∈ [v], GVal x := fun x hx => by rw [List.mem_singleton.1 hx]; exact .plain v h
theorem gv_plain {l : List Value} (h : ∀ x ∈ l, plain1 x = true) : ∀ x ∈ l, GVal x := fun x hx => .plain x (h x hx)
theorem gv_sub {l m : List Value} (h : ∀ x ∈ l, GVal x) (s : ∀ x ∈ m, x ∈ l) : ∀ x ∈ m, GVal x := fun x hx => h x (s x hx)
theorem own_run (iv : List Value) (u1 : Nat) (hiv : ∀ x ∈ iv, GVal x) (hl : iv.length + 1 ≤ 4294967296) (hu1 : u1 ≤ 127) : (bif Nat.ble (List.length iv + 1) 4294967296 then bif Nat.ble (0 + List.length iv * 1) (List.length iv) then bif Nat.beq (0 + List.length iv * 1) (List.length iv) then bif tst (∀ (x : Value), x ∈ List.take (List.length iv * 1) iv ++ [Value.int IntKind.u8 (IntKind.wrap IntKind.u8 (↑u1 : Int))] → GVal x) then some (Value.iface 4294967296 (Value.tuple { toList := Value.slice none (List.length iv + 1) 0 :: Value.bool Bool.false :: (List.take (List.length iv * 1) iv ++ [Value.int IntKind.u8 (IntKind.wrap IntKind.u8 (↑u1 : Int))]) })) else none else none else none else none) = some (gslV (iv.length + 1) 0 false (iv ++ [bv u1])) := by
  have e : IntKind.u8.wrap (u1 : Int) = u1 := by rw [u8w]; omega
  rw [ble_t hl, ble_t (show 0 + iv.length * 1 ≤ iv.length by omega), beq_t (show 0 + iv.length * 1 = iv.length by omega), Nat.mul_one, List.take_length, e, tst_of (gv_app hiv (gv_one _ rfl))]
  rfl
theorem putV_hi_len {u : Nat} (h : ¬ u ≤ 127) : (putV u).length = (initV u).length + 1 := by simp [putV]
theorem putV_gv (u : Nat) : ∀ x ∈ putV u, GVal x := gv_app (gv_plain (initV_plain u)) (gv_one _ rfl)
/-- bits.Put, whatever bytes it is given. -/
theorem put_nil (u : Nat) (hu : u < 2 ^ 64) : ConG Tryd.prog 26 [.slice none 0 0, .int .u64 (u : Int)] (gslV (putV u).length 0 false (putV u)) := by
  have hk : okP 0 .nil u := ⟨hu, by have := initV_len9 u hu; simp only [PS.c, List.length_nil]; omega, fun x hx => (by cases hx), .inl ⟨rfl, by simp⟩⟩
  refine conG hmix (cA_ok (ins := [42]) noG_ok) (cK_ok (ins := [42])) (lkQ_ok noLK_ok) Tryd.func26 rfl (by kernel_rfl) (flP_ok 0 u .nil hk) (d := 1) ?_
  by_cases h : u ≤ 127
  · have e1 : finP .nil u = .nil := by unfold finP; rw [if_pos h]
    rw [e1, lastU_lo h]
    refine (tA1 u).trans ?_
    have e : IntKind.u8.wrap (u : Int) = u := by rw [u8w]; omega
    rw [tst_of ⟨rfl, rfl⟩, e, tst_of (gv_one _ rfl)]
    unfold putV
    rw [initV_lo h, lastU_lo h]
    rfl
  · have e1 : finP .nil u = .own (initV u) := by unfold finP; rw [if_neg h]; rfl
    rw [e1]
    refine (tA2 u (lastU u) (initV u)).trans ?_
    rw [tst_of ⟨rfl, rfl⟩, own_run _ _ (gv_plain (initV_plain u)) (by have := initV_len9 u hu; omega) (lastU_le u), putV_hi_len h]
    rfl
theorem put_con (l off : Nat) (ex : Bool) (cs : List Value) (u : Nat) (hu : u < 2 ^ 64) (hl : off + l ≤ cs.length) (hb : l + 11 ≤ 4294967296) (hg : ∀ x ∈ cs, GVal x) :
    ConG Tryd.prog 26 [gslV l off ex cs, .int .u64 (u : Int)] (gslV (l + (putV u).length) 0 false ((cs.drop off).take l ++ putV u)) := by
  have h9 := initV_len9 u hu
  refine conG_gsl (fun hl0 => ?_) (fun hl0 cap w S μ hμ args hargs => ?_) (fun hl0 => ?_)
  · subst hl0
    rw [Nat.zero_add, List.take_zero, List.nil_append]
    exact put_nil u hu
  · subst hl0
    rw [Nat.zero_add, List.take_zero, List.nil_append]
    have hk : okP 1 .emp u := ⟨hu, by simp only [PS.c, List.length_nil]; omega, fun x hx => (by cases hx), .inr ⟨rfl, by simp⟩⟩
    refine conGk (k := 1) hmix (cA_ok (ins := [42]) noG_ok) (cK_ok (ins := [42])) (lkQ_ok noLK_ok) Tryd.func26 rfl (by kernel_rfl) (flP_ok 1 u .emp hk) (d := 1) (ar := [.slice (some ⟨0, 0, none⟩) 0 (2 * cap), .int .u64 (u : Int)]) ?_ w S μ hμ args hargs
    by_cases h : u ≤ 127
    · have e1 : finP .emp u = .emp := by unfold finP; rw [if_pos h]
      rw [e1, lastU_lo h]
      refine (tB1 cap u).trans ?_
      have e : IntKind.u8.wrap (u : Int) = u := by rw [u8w]; omega
      rw [tst_of ⟨rfl, rfl, rfl, rfl⟩, e, tst_of (gv_one _ rfl)]
      unfold putV
      rw [initV_lo h, lastU_lo h]
      rfl
    · have e1 : finP .emp u = .own (initV u) := by unfold finP; rw [if_neg h]; rfl
      rw [e1]
      refine (tB2 cap u (lastU u) (initV u)).trans ?_
      rw [tst_of ⟨rfl, rfl, rfl, rfl⟩, own_run _ _ (gv_plain (initV_plain u)) (by omega) (lastU_le u), putV_hi_len h]
      rfl
  · obtain ⟨m, rfl⟩ : ∃ m, l = m + 1 := ⟨l - 1, by omega⟩
    have hlen : ((cs.drop off).take (m + 1)).length = m + 1 := by rw [List.length_take, List.length_drop]; omega
    have hgs : ∀ x ∈ (cs.drop off).take (m + 1), GVal x := gv_sub hg fun x hx => List.mem_of_mem_drop (List.mem_of_mem_take hx)
    have hk : okP 0 (.own ((cs.drop off).take (m + 1))) u := ⟨hu, by simp only [PS.c, hlen]; omega, hgs, .inl ⟨rfl, by simp⟩⟩
    refine conG hmix (cA_ok (ins := [42]) noG_ok) (cK_ok (ins := [42])) (lkQ_ok noLK_ok) Tryd.func26 rfl (by kernel_rfl) (flP_ok 0 u _ hk) (d := 1) ?_
    rw [finP_own]
    refine (tC u (lastU u) m off ex cs ((cs.drop off).take (m + 1)) ((cs.drop off).take (m + 1) ++ initV u)).trans ?_
    have e3 : ((cs.drop off).take (m + 1) ++ initV u).length + 1 = m + 1 + (putV u).length := by rw [List.length_append, hlen]; simp only [putV, List.length_append, List.length_singleton]; omega
    rw [ble_t (show off + (m + 1) * 1 ≤ cs.length by omega), ble_t (show 0 + (m + 1) ≤ 4294967296 by omega), tst_of ⟨by rw [Nat.mul_one]; rfl, by simp only [psV, hlen, Nat.zero_add], rfl, rfl⟩]
    refine (own_run _ _ (gv_app hgs (gv_plain (initV_plain u))) (by rw [List.length_append, hlen]; omega) (lastU_le u)).trans ?_
    rw [e3, List.append_assoc]
    rfl
end Go.Proofs.YtjhlfolgadaliaaDoor.AI
