/- Functions of whole numbers, run with numbers that are not known. -/
import Derived.Test.YtjhlfolgadaliaaDoorSXc
import Derived.Laws.BitsLemmas
import Derived.KernelRfl
namespace Go.Proofs.YtjhlfolgadaliaaDoor.AI
open Go Go.RowKit 
set_option linter.unusedVariables false
set_option linter.unusedSimpArgs false
/-- The bytes of a number: the model's words, and plain numbers. -/
def hiE (u : Int) : Int := IntKind.wrap IntKind.u8 (IntKind.wrap IntKind.u64 (↑(BitVec.toNat (BitVec.ofInt 64 (IntKind.wrap IntKind.u64 (↑(BitVec.toNat (BitVec.ofInt 64 u &&& BitVec.ofInt 64 127)) : Int)) ||| BitVec.ofInt 64 128)) : Int))
def sh7 (u : Int) : Int := Int.fdiv u (2 ^ Min.min (Int.toNat 7) 64)
def bv (x : Nat) : Value := .int .u8 (x : Int)
theorem u8w (x : Int) : IntKind.u8.wrap x = x % 256 := by simp [IntKind.wrap, IntKind.bits, IntKind.signed]
theorem hiE_nat (u : Nat) (h : u < 2 ^ 64) : hiE (u : Int) = ((u % 128 + 128 : Nat) : Int) := by
  have e1 := and_nat u 127 h (by decide)
  have e2 : u &&& 127 = u % 128 := Nat.and_two_pow_sub_one_eq_mod u 7
  have e3 := or_nat (u % 128) 128 (by omega) (by decide)
  have e4 : u % 128 ||| 128 = u % 128 + 128 := by
    have := Nat.two_pow_add_eq_or_of_lt (i := 7) (b := u % 128) (by omega) 1
    rw [Nat.or_comm]
    have e : 2 ^ 7 * 1 = 128 := rfl
    rw [e] at this
    omega
  show IntKind.u8.wrap (bOr (bAnd (u : Int) ((127 : Nat) : Int)) ((128 : Nat) : Int)) = _
  rw [e1, e2, e3, e4, u8w]
  omega
theorem sh7_nat (u : Nat) : sh7 (u : Int) = ((u / 128 : Nat) : Int) := by
  unfold sh7
  have e : (2 : Int) ^ Min.min (Int.toNat 7) 64 = 128 := by decide
  rw [e, Int.fdiv_eq_ediv_of_nonneg _ (by decide)]
  omega
def initV (u : Nat) : List Value := if u ≤ 127 then [] else bv (u % 128 + 128) :: initV (u / 128)
termination_by u
decreasing_by omega
def lastU (u : Nat) : Nat := if u ≤ 127 then u else lastU (u / 128)
termination_by u
decreasing_by omega
def putV (u : Nat) : List Value := initV u ++ [bv (lastU u)]
theorem initV_lo {u : Nat} (h : u ≤ 127) : initV u = [] := by rw [initV, if_pos h]
theorem initV_hi {u : Nat} (h : ¬ u ≤ 127) : initV u = bv (u % 128 + 128) :: initV (u / 128) := by rw [initV, if_neg h]
theorem lastU_lo {u : Nat} (h : u ≤ 127) : lastU u = u := by rw [lastU, if_pos h]
theorem lastU_hi {u : Nat} (h : ¬ u ≤ 127) : lastU u = lastU (u / 128) := by rw [lastU, if_neg h]
theorem lastU_le (u : Nat) : lastU u ≤ 127 := by
  induction u using Nat.strongRecOn with
  | ind u ih =>
    by_cases h : u ≤ 127
    · rw [lastU_lo h]; exact h
    · rw [lastU_hi h]; exact ih _ (by omega)
theorem initV_plain (u : Nat) : ∀ x ∈ initV u, plain1 x = true := by
  induction u using Nat.strongRecOn with
  | ind u ih =>
    by_cases h : u ≤ 127
    · rw [initV_lo h]; intro x hx; cases hx
    · rw [initV_hi h]
      intro x hx
      rcases List.mem_cons.1 hx with rfl | hx
      · rfl
      · exact ih _ (by omega) x hx
theorem initV_len (k : Nat) : ∀ u : Nat, u < 128 ^ (k + 1) → (initV u).length ≤ k := by
  induction k with
  | zero => intro u h; rw [initV_lo (by omega)]; exact Nat.le_refl _
  | succ k ih =>
    intro u h
    by_cases hu : u ≤ 127
    · rw [initV_lo hu]; exact Nat.zero_le _
    · rw [initV_hi hu]
      have := ih (u / 128) (by rw [Nat.pow_succ] at h; omega)
      simp; omega
theorem initV_len9 (u : Nat) (h : u < 2 ^ 64) : (initV u).length ≤ 9 := initV_len 9 u (by omega)
/-- A slice of bytes that is being written: nil, empty, or one's own row. -/
inductive PS where
  | nil
  | emp
  | own (cs : List Value)
def PS.c : PS → List Value
  | .own cs => cs
  | _ => []
def psB : PS → List Blk
  | .nil => []
  | .emp => [.row false 1 []]
  | .own cs => [.row false 1 cs]
def psV (k : Nat) : PS → Value
  | .nil => .slice none 0 0
  | .emp => .slice (some ⟨k, 0, none⟩) 0 0
  | .own cs => .slice (some ⟨k, 0, none⟩) cs.length 1
def invP (k : Nat) (p : PS) (u : Nat) : St := stT [0, 1] [psV k p, .int .u64 (u : Int)] 23 (mkHk k (psB p))
noncomputable def flP (k : Nat) (u : Nat) (p0 p : PS) (u1 : Nat) : List Value → AH → Nat → Option (Bool × XA × St) := fun vs h s => match p0 with
  | .nil => match vs with
    | [.slice none 0 0, .int .u64 u'] => some (tst (u' = (u : Int) ∧ s = 23), .exit 0, invP k p u1)
    | _ => none
  | p0 => match vs with
    | [.slice (some ⟨b, 0, none⟩) n c, .int .u64 u'] => match picksH [b] h with
      | some bs => some (tst (bs = psB p0 ∧ .slice (some ⟨k, 0, none⟩) n c = psV k p0 ∧ u' = (u : Int) ∧ s = 23), .exit 0, invP k p u1)
      | none => none
    | _ => none
noncomputable abbrev lkP {R : Type} (k u : Nat) (p0 p : PS) (u1 : Nat) : LoopK R := lkQ 2 [0, 1] (flP k u p0 p u1) noLK
noncomputable abbrev cA (P : Program) (ins : List Nat) (F : TabF) : CallA := mixA ins (callA P gl0 (regF P gl0) 8 false) (sumG (fun _ => 1) F)
noncomputable abbrev cK {R : Type} (P : Program) (ins : List Nat) (F : TabF) : CK R := mixK ins (inK P gl0 (regF P gl0) 8) (sumGK (fun _ => 1) F)
noncomputable abbrev RB (P : Program) (F : TabF) (fn : Func) (k : Nat) (ts ids : List Nat) (vs : List Value) (h : AH) : Option (XA × List Value × List Blk × Nat) := codeG P gl0 (cA P [] F) (cK P [] F) noLK (loopN fn k) (stT ts vs fn.ntmps h) (finH ts ids)
noncomputable abbrev RX (P : Program) (ins : List Nat) (F : TabF) (LK : LoopK Value) (fn : Func) (ar : List Value) (k : Nat) : Option Value := runGk P (cA P ins F) (cK P ins F) LK 1 fn ar k
theorem hmix : Tryd.prog.follows .mixedOrders = true := by kernel_rfl
theorem ble_t {a b : Nat} (h : a ≤ b) : Nat.ble a b = true := Nat.ble_eq_true_of_le h
theorem beq_t {a b : Nat} (h : a = b) : Nat.beq a b = true := by subst h; exact Nat.beq_refl a
theorem cA_ok {ins : List Nat} {F : TabF} (hF : TabG Tryd.prog F) : CallOK Tryd.prog gl0 (cA Tryd.prog ins F) := mixA_ok (callA_ok (regF_ok hmix) 8).1 (sumG_ok _ hF)
theorem cK_ok {R : Type} {ins : List Nat} {F : TabF} : CKok (R := R) (cA Tryd.prog ins F) (cK Tryd.prog ins F) := mixK_ok (inK_ok 8) (sumGK_ok _ _)
theorem RB_some {F : TabF} {fn : Func} {k : Nat} {ts ids : List Nat} {vs us : List Value} {h : AH} {y : XA} {bs : List Blk} {n : Nat} (hr : RB Tryd.prog F fn k ts ids vs h = some (y, us, bs, n)) :
    ∃ σ1, codeB Tryd.prog gl0 (regF Tryd.prog gl0) (cA Tryd.prog [] F) noLO (loopN fn k) (stT ts vs fn.ntmps h) = some (y, σ1) ∧ picks ts σ1.T = some us ∧ picksH ids σ1.h = some bs ∧ σ1.n = n ∧ σ1.ds = [] := finHG_some cK_ok noLK_ok hr
theorem tP0 (cs : List Value) (u0 : Int) : RB Tryd.prog noG Tryd.f26 0 [0, 1] [2] [.slice (some ⟨0, 0, none⟩) cs.length 1, .int .u64 u0] (mkHk 0 [.row false 1 cs]) = (bif decide (u0 > 127) then bif Nat.ble (List.length cs + 1) 4294967296 then bif Nat.ble (0 + List.length cs * 1) (List.length cs) then bif Nat.beq (0 + List.length cs * 1) (List.length cs) then some (XA.normal, [Value.slice (some { block := 2, off := 0 }) (List.length cs + 1) 1, Value.int IntKind.u64 (Int.fdiv u0 (2 ^ Min.min (Int.toNat 7) 64))], [Blk.row Bool.false 1 (List.take (List.length cs * 1) cs ++ [Value.int IntKind.u8 (IntKind.wrap IntKind.u8 (IntKind.wrap IntKind.u64 (↑(BitVec.toNat (BitVec.ofInt 64 (IntKind.wrap IntKind.u64 (↑(BitVec.toNat (BitVec.ofInt 64 u0 &&& BitVec.ofInt 64 127)) : Int)) ||| BitVec.ofInt 64 128)) : Int)))])], 23) else none else none else none else none) := by kernel_rfl
theorem tP0x (cs : List Value) (u0 : Int) : RB Tryd.prog noG Tryd.f26 0 [0, 1] [0] [.slice (some ⟨0, 0, none⟩) cs.length 1, .int .u64 u0] (mkHk 0 [.row false 1 cs]) = (bif decide (u0 > 127) then bif Nat.ble (List.length cs + 1) 4294967296 then bif Nat.ble (0 + List.length cs * 1) (List.length cs) then bif Nat.beq (0 + List.length cs * 1) (List.length cs) then none else none else none else none else some (XA.exit 0, [Value.slice (some { block := 0, off := 0 }) (List.length cs) 1, Value.int IntKind.u64 u0], [Blk.row Bool.false 1 cs], 23)) := by kernel_rfl
theorem tP1 (cs : List Value) (u0 : Int) : RB Tryd.prog noG Tryd.f26 0 [0, 1] [3] [.slice (some ⟨1, 0, none⟩) cs.length 1, .int .u64 u0] (mkHk 1 [.row false 1 cs]) = (bif decide (u0 > 127) then bif Nat.ble (List.length cs + 1) 4294967296 then bif Nat.ble (0 + List.length cs * 1) (List.length cs) then bif Nat.beq (0 + List.length cs * 1) (List.length cs) then some (XA.normal, [Value.slice (some { block := 3, off := 0 }) (List.length cs + 1) 1, Value.int IntKind.u64 (Int.fdiv u0 (2 ^ Min.min (Int.toNat 7) 64))], [Blk.row Bool.false 1 (List.take (List.length cs * 1) cs ++ [Value.int IntKind.u8 (IntKind.wrap IntKind.u8 (IntKind.wrap IntKind.u64 (↑(BitVec.toNat (BitVec.ofInt 64 (IntKind.wrap IntKind.u64 (↑(BitVec.toNat (BitVec.ofInt 64 u0 &&& BitVec.ofInt 64 127)) : Int)) ||| BitVec.ofInt 64 128)) : Int)))])], 23) else none else none else none else none) := by kernel_rfl
theorem tP1x (cs : List Value) (u0 : Int) : RB Tryd.prog noG Tryd.f26 0 [0, 1] [1] [.slice (some ⟨1, 0, none⟩) cs.length 1, .int .u64 u0] (mkHk 1 [.row false 1 cs]) = (bif decide (u0 > 127) then bif Nat.ble (List.length cs + 1) 4294967296 then bif Nat.ble (0 + List.length cs * 1) (List.length cs) then bif Nat.beq (0 + List.length cs * 1) (List.length cs) then none else none else none else none else some (XA.exit 0, [Value.slice (some { block := 1, off := 0 }) (List.length cs) 1, Value.int IntKind.u64 u0], [Blk.row Bool.false 1 cs], 23)) := by kernel_rfl
theorem tN (u0 : Int) : RB Tryd.prog noG Tryd.f26 0 [0, 1] [1] [.slice none 0 0, .int .u64 u0] (mkHk 0 []) = (bif decide (u0 > 127) then some (XA.normal, [Value.slice (some { block := 1, off := 0 }) 1 1, Value.int IntKind.u64 (Int.fdiv u0 (2 ^ Min.min (Int.toNat 7) 64))], [Blk.row Bool.false 1 [Value.int IntKind.u8 (IntKind.wrap IntKind.u8 (IntKind.wrap IntKind.u64 (↑(BitVec.toNat (BitVec.ofInt 64 (IntKind.wrap IntKind.u64 (↑(BitVec.toNat (BitVec.ofInt 64 u0 &&& BitVec.ofInt 64 127)) : Int)) ||| BitVec.ofInt 64 128)) : Int)))]], 23) else none) := by kernel_rfl
theorem tNx (u0 : Int) : RB Tryd.prog noG Tryd.f26 0 [0, 1] [] [.slice none 0 0, .int .u64 u0] (mkHk 0 []) = (bif decide (u0 > 127) then some (XA.normal, [Value.slice (some { block := 1, off := 0 }) 1 1, Value.int IntKind.u64 (Int.fdiv u0 (2 ^ Min.min (Int.toNat 7) 64))], [], 23) else some (XA.exit 0, [Value.slice none 0 0, Value.int IntKind.u64 u0], [], 23)) := by kernel_rfl
theorem tE (u0 : Int) : RB Tryd.prog noG Tryd.f26 0 [0, 1] [3] [.slice (some ⟨1, 0, none⟩) 0 0, .int .u64 u0] (mkHk 1 [.row false 1 []]) = (bif decide (u0 > 127) then some (XA.normal, [Value.slice (some { block := 3, off := 0 }) 1 1, Value.int IntKind.u64 (Int.fdiv u0 (2 ^ Min.min (Int.toNat 7) 64))], [Blk.row Bool.false 1 [Value.int IntKind.u8 (IntKind.wrap IntKind.u8 (IntKind.wrap IntKind.u64 (↑(BitVec.toNat (BitVec.ofInt 64 (IntKind.wrap IntKind.u64 (↑(BitVec.toNat (BitVec.ofInt 64 u0 &&& BitVec.ofInt 64 127)) : Int)) ||| BitVec.ofInt 64 128)) : Int)))]], 23) else none) := by kernel_rfl
theorem tEx (u0 : Int) : RB Tryd.prog noG Tryd.f26 0 [0, 1] [1] [.slice (some ⟨1, 0, none⟩) 0 0, .int .u64 u0] (mkHk 1 [.row false 1 []]) = (bif decide (u0 > 127) then some (XA.normal, [Value.slice (some { block := 3, off := 0 }) 1 1, Value.int IntKind.u64 (Int.fdiv u0 (2 ^ Min.min (Int.toNat 7) 64))], [Blk.row Bool.false 1 []], 23) else some (XA.exit 0, [Value.slice (some { block := 1, off := 0 }) 0 0, Value.int IntKind.u64 u0], [Blk.row Bool.false 1 []], 23)) := by kernel_rfl
theorem cov_row {k m : Nat} {cs1 : List Value} {L c : Nat} {u : Int} {σ1 : St} (hn : σ1.n = 23) (hd : σ1.ds = []) (hp : picks [0, 1] σ1.T = some [.slice (some ⟨m, 0, none⟩) L c, .int .u64 u]) (hb : picksH [m] σ1.h = some [.row false 1 cs1]) (hg : ∀ x ∈ cs1, GVal x) :
    Covers gl0 ⟨.nil, k⟩ (stT [0, 1] [.slice (some ⟨k, 0, none⟩) L c, .int .u64 u] 23 (mkHk k [.row false 1 cs1])) σ1 := by
  refine covers_Hk (ids := [m]) (dl := [0]) hn hd hp hb rfl ?_ ?_ (by simp) ?_
  · refine .cons ?_ (.cons (.plain _ rfl) .nil)
    have := Ren.slc (ρ := idk k [m]) (δ := idd k [0]) (n := k + 1) k 0 0 L c (by omega) (by unfold idd; rw [if_neg (by omega), Nat.sub_self]; rfl)
    have e : idk k [m] k = m := by unfold idk; rw [if_neg (by omega), Nat.sub_self]; rfl
    rw [e] at this
    exact this
  · intro j b0 b1 h0 h1
    match j with
    | 0 =>
      cases h0; cases h1
      exact ⟨rfl, rfl, Nat.zero_le _, rfl, fun i x y hx hy => by
        rw [show idx [0] 0 = 0 from rfl, List.drop_zero] at hy
        rw [hx] at hy
        cases hy
        exact .gv x (hg x (List.mem_of_getElem? hx))⟩
    | j + 1 => cases h0
  · intro b hb
    rcases List.mem_cons.1 hb with rfl | hb
    · rfl
    · cases hb
theorem cov_nil {u : Int} {σ1 : St} (hn : σ1.n = 23) (hd : σ1.ds = []) (hp : picks [0, 1] σ1.T = some [.slice none 0 0, .int .u64 u]) : Covers gl0 ⟨.nil, 0⟩ (stT [0, 1] [.slice none 0 0, .int .u64 u] 23 (mkHk 0 [])) σ1 := by
  refine covers_Hk (ids := []) (dl := []) hn hd hp rfl rfl (.cons (.plain _ rfl) (.cons (.plain _ rfl) .nil)) (fun j b b1 h => by cases h) (by simp) (fun b hb => by cases hb)
def okP (k : Nat) (p : PS) (u : Nat) : Prop := u < 2 ^ 64 ∧ p.c.length + (initV u).length + 1 ≤ 4294967296 ∧ (∀ x ∈ p.c, GVal x) ∧ (k = 0 ∧ p ≠ .emp ∨ k = 1 ∧ p ≠ .nil)
def finP (p : PS) (u : Nat) : PS := if u ≤ 127 then p else .own (p.c ++ initV u)
theorem finP_own (cs : List Value) (u : Nat) : finP (.own cs) u = .own (cs ++ initV u) := by
  unfold finP
  split
  · rename_i h; rw [initV_lo h, List.append_nil]
  · rfl
theorem bv_gval (x : Nat) : GVal (bv x) := .plain _ rfl
theorem stepP (k : Nat) (x : {q : PS × Nat // okP k q.1 q.2}) : ∃ y σ1, codeB Tryd.prog gl0 (regF Tryd.prog gl0) (cA Tryd.prog [] noG) noLO (loopN Tryd.f26 0) (invP k x.1.1 x.1.2) = some (y, σ1) ∧
    ((y = .normal ∧ ∃ x' : {q : PS × Nat // okP k q.1 q.2}, x'.1.2 < x.1.2 ∧ ((XA.exit 0, invP k (finP x'.1.1 x'.1.2) (lastU x'.1.2)) : XA × St) = (.exit 0, invP k (finP x.1.1 x.1.2) (lastU x.1.2)) ∧ Covers gl0 ⟨.nil, k⟩ (invP k x'.1.1 x'.1.2) σ1) ∨
      (y ≠ .normal ∧ XA.exit 0 = y ∧ Covers gl0 ⟨.nil, k⟩ (invP k (finP x.1.1 x.1.2) (lastU x.1.2)) σ1)) := by
  obtain ⟨⟨p, u⟩, hu, hl, hg, hk⟩ := x
  dsimp only at hu hl hg hk ⊢
  by_cases h : u ≤ 127
  · -- it ends
    have e1 : finP p u = p := by unfold finP; rw [if_pos h]
    rw [e1, lastU_lo h]
    cases p with
    | nil =>
      obtain ⟨rfl, _⟩ : k = 0 ∧ True := ⟨by rcases hk with ⟨h1, _⟩ | ⟨_, h1⟩ <;> first | exact h1 | exact absurd rfl h1, trivial⟩
      have t := tNx (u : Int)
      rw [decide_eq_false (show ¬ (u : Int) > 127 by omega)] at t
      obtain ⟨σ1, g1, g2, g3, g4, g5⟩ := RB_some t
      exact ⟨_, σ1, g1, .inr ⟨by simp, rfl, cov_nil g4 g5 g2⟩⟩
    | emp =>
      obtain rfl : k = 1 := by rcases hk with ⟨_, h1⟩ | ⟨h1, _⟩ <;> first | exact h1 | exact absurd rfl h1
      have t := tEx (u : Int)
      rw [decide_eq_false (show ¬ (u : Int) > 127 by omega)] at t
      obtain ⟨σ1, g1, g2, g3, g4, g5⟩ := RB_some t
      exact ⟨_, σ1, g1, .inr ⟨by simp, rfl, cov_row g4 g5 g2 g3 (fun x hx => by cases hx)⟩⟩
    | own cs =>
      have hk' : k = 0 ∨ k = 1 := hk.imp (·.1) (·.1)
      rcases hk' with rfl | rfl
      · have t := tP0x cs (u : Int)
        rw [decide_eq_false (show ¬ (u : Int) > 127 by omega)] at t
        obtain ⟨σ1, g1, g2, g3, g4, g5⟩ := RB_some t
        exact ⟨_, σ1, g1, .inr ⟨by simp, rfl, cov_row g4 g5 g2 g3 hg⟩⟩
      · have t := tP1x cs (u : Int)
        rw [decide_eq_false (show ¬ (u : Int) > 127 by omega)] at t
        obtain ⟨σ1, g1, g2, g3, g4, g5⟩ := RB_some t
        exact ⟨_, σ1, g1, .inr ⟨by simp, rfl, cov_row g4 g5 g2 g3 hg⟩⟩
  · -- a byte
    have hi := initV_hi h
    have hb := hiE_nat u hu
    have hs := sh7_nat u
    have hlen : p.c.length + 1 + (initV (u / 128)).length + 1 ≤ 4294967296 := by rw [hi, List.length_cons] at hl; omega
    have hfin : ∀ cs : List Value, cs = p.c → finP (.own (cs ++ [bv (u % 128 + 128)])) (u / 128) = finP p u := by
      intro cs e
      subst e
      rw [finP_own]
      unfold finP
      rw [if_neg h, hi, List.append_assoc]; rfl
    have hdec : decide ((u : Int) > 127) = true := decide_eq_true (by omega)
    have gc : ∀ x ∈ p.c ++ [bv (u % 128 + 128)], GVal x := fun x hx => by
      rcases List.mem_append.1 hx with hx | hx
      · exact hg x hx
      · rw [List.mem_singleton.1 hx]; exact bv_gval _
    have next : ∀ (k' : Nat), k = k' → (k' = 0 ∨ k' = 1) → okP k (.own (p.c ++ [bv (u % 128 + 128)])) (u / 128) := fun k' hk' h01 =>
      ⟨by omega, by show (p.c ++ [bv (u % 128 + 128)]).length + (initV (u / 128)).length + 1 ≤ _; rw [List.length_append, List.length_singleton]; exact hlen, gc, by subst hk'; rcases h01 with rfl | rfl; exact .inl ⟨rfl, by simp⟩; exact .inr ⟨rfl, by simp⟩⟩
    have eb : Value.int .u8 (hiE (u : Int)) = bv (u % 128 + 128) := by rw [hb]; rfl
    have out : ∀ (hk01 : k = 0 ∨ k = 1) (σ1 : St) (m : Nat) (cs : List Value), cs = p.c → σ1.n = 23 → σ1.ds = [] → picks [0, 1] σ1.T = some [.slice (some ⟨m, 0, none⟩) (cs.length + 1) 1, .int .u64 (sh7 (u : Int))] → picksH [m] σ1.h = some [.row false 1 (cs ++ [.int .u8 (hiE (u : Int))])] →
        ∃ x' : {q : PS × Nat // okP k q.1 q.2}, x'.1.2 < u ∧ ((XA.exit 0, invP k (finP x'.1.1 x'.1.2) (lastU x'.1.2)) : XA × St) = (.exit 0, invP k (finP p u) (lastU u)) ∧ Covers gl0 ⟨.nil, k⟩ (invP k x'.1.1 x'.1.2) σ1 := by
      intro hk01 σ1 m cs hcs g4 g5 g2 g3
      rw [eb] at g3
      rw [hs] at g2
      refine ⟨⟨(.own (p.c ++ [bv (u % 128 + 128)]), u / 128), next k rfl hk01⟩, (show u / 128 < u by omega), ?_, ?_⟩
      · dsimp only
        rw [hfin p.c rfl, ← lastU_hi h]
      · have cv := cov_row (k := k) g4 g5 g2 g3 (by rw [hcs]; exact gc)
        rw [hcs] at cv
        have e2 : p.c.length + 1 = (p.c ++ [bv (u % 128 + 128)]).length := by simp
        rw [e2] at cv
        exact cv
    cases p with
    | nil =>
      obtain rfl : k = 0 := by rcases hk with ⟨h1, _⟩ | ⟨_, h1⟩ <;> first | exact h1 | exact absurd rfl h1
      have t := tN (u : Int)
      rw [hdec] at t
      obtain ⟨σ1, g1, g2, g3, g4, g5⟩ := RB_some t
      exact ⟨_, σ1, g1, .inl ⟨rfl, out (.inl rfl) σ1 1 [] rfl g4 g5 g2 g3⟩⟩
    | emp =>
      obtain rfl : k = 1 := by rcases hk with ⟨_, h1⟩ | ⟨h1, _⟩ <;> first | exact h1 | exact absurd rfl h1
      have t := tE (u : Int)
      rw [hdec] at t
      obtain ⟨σ1, g1, g2, g3, g4, g5⟩ := RB_some t
      exact ⟨_, σ1, g1, .inl ⟨rfl, out (.inr rfl) σ1 3 [] rfl g4 g5 g2 g3⟩⟩
    | own cs =>
      have hk' : k = 0 ∨ k = 1 := hk.imp (·.1) (·.1)
      have b1 : Nat.ble (cs.length + 1) 4294967296 = true := ble_t (by simp only [PS.c] at hlen; omega)
      have b2 : Nat.ble (0 + cs.length * 1) cs.length = true := ble_t (by omega)
      have b3 : Nat.beq (0 + cs.length * 1) cs.length = true := beq_t (by omega)
      have b4 : List.take (cs.length * 1) cs = cs := by rw [Nat.mul_one, List.take_length]
      rcases hk' with rfl | rfl
      · have t := tP0 cs (u : Int)
        rw [hdec, b1, b2, b3, b4] at t
        obtain ⟨σ1, g1, g2, g3, g4, g5⟩ := RB_some t
        exact ⟨_, σ1, g1, .inl ⟨rfl, out (.inl rfl) σ1 2 cs rfl g4 g5 g2 g3⟩⟩
      · have t := tP1 cs (u : Int)
        rw [hdec, b1, b2, b3, b4] at t
        obtain ⟨σ1, g1, g2, g3, g4, g5⟩ := RB_some t
        exact ⟨_, σ1, g1, .inl ⟨rfl, out (.inr rfl) σ1 3 cs rfl g4 g5 g2 g3⟩⟩
theorem loopP (k : Nat) (p : PS) (u : Nat) (h : okP k p u) : LoopTri Tryd.prog gl0 ⟨.nil, k⟩ (loopN Tryd.f26 0) (invP k p u) (.exit 0) (invP k (finP p u) (lastU u)) :=
  loop_rule (regF_ok hmix) (cA_ok noG_ok) noLO_ok (fun x : {q : PS × Nat // okP k q.1 q.2} => invP k x.1.1 x.1.2) (fun x => x.1.2) (fun x => (.exit 0, invP k (finP x.1.1 x.1.2) (lastU x.1.2))) (stepP k) ⟨(p, u), h⟩
end Go.Proofs.YtjhlfolgadaliaaDoor.AI
