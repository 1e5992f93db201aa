/- Functions of whole numbers, run with numbers that are not known. -/
import Derived.Test.YtjhlfolgadaliaaDoorSXk
import Derived.Laws.BitsLemmas
import Derived.KernelRfl
namespace Go.Proofs.YtjhlfolgadaliaaDoor.AI
open Go Go.RowKit 
set_option linter.unusedVariables false
set_option linter.unusedSimpArgs false
def invR (k : Nat) (p : PS) (u : Nat) : St := stT [5, 1] [psV k p, .int .u64 (u : Int)] 25 (mkHk k (psB p))
noncomputable def flR (k : Nat) (u : Nat) (p0 p : PS) (u1 : Nat) : List Value → AH → Nat → Option (Bool × XA × St) := fun vs h s => match vs with
    | [.slice (some ⟨b, 0, none⟩) n c, .int .u64 u'] => match picksH [b] h with
      | some bs => some (tst (bs = psB p0 ∧ .slice (some ⟨k, 0, none⟩) n c = psV k p0 ∧ u' = (u : Int) ∧ s = 25), .exit 0, invR k p u1)
      | none => none
    | _ => none
noncomputable abbrev lkR {R : Type} (k u : Nat) (p0 p : PS) (u1 : Nat) : LoopK R := lkQ 2 [5, 1] (flR k u p0 p u1) noLK
theorem tQ0 (cs : List Value) (u0 : Int) : RB Tryd.prog noG Tryd.f32 0 [5, 1] [2] [.slice (some ⟨0, 0, none⟩) cs.length 1, .int .u64 u0] (mkHk 0 [.row false 1 cs]) = bif decide (u0 ≥ 128) then bif Nat.ble (List.length cs + 1) 4294967296 then bif Nat.ble (0 + List.length cs * 1) (List.length cs) then bif Nat.beq (0 + List.length cs * 1) (List.length cs) then some (XA.normal, [Value.slice (some { block := 2, off := 0 }) (List.length cs + 1) 1, Value.int IntKind.u64 (IntKind.wrap IntKind.u64 (Int.tdiv u0 128))], [Blk.row Bool.false 1 (List.take (List.length cs * 1) cs ++ [Value.int IntKind.u8 (IntKind.wrap IntKind.u8 (IntKind.wrap IntKind.u64 (Int.tmod u0 128 + 128)))])], 25) else none else none else none else none := by kernel_rfl
theorem tQ0x (cs : List Value) (u0 : Int) : RB Tryd.prog noG Tryd.f32 0 [5, 1] [0] [.slice (some ⟨0, 0, none⟩) cs.length 1, .int .u64 u0] (mkHk 0 [.row false 1 cs]) = bif decide (u0 ≥ 128) then bif Nat.ble (List.length cs + 1) 4294967296 then bif Nat.ble (0 + List.length cs * 1) (List.length cs) then bif Nat.beq (0 + List.length cs * 1) (List.length cs) then none else none else none else none else some (XA.exit 0, [Value.slice (some { block := 0, off := 0 }) (List.length cs) 1, Value.int IntKind.u64 u0], [Blk.row Bool.false 1 cs], 25) := by kernel_rfl
theorem tQ1 (cs : List Value) (u0 : Int) : RB Tryd.prog noG Tryd.f32 0 [5, 1] [3] [.slice (some ⟨1, 0, none⟩) cs.length 1, .int .u64 u0] (mkHk 1 [.row false 1 cs]) = bif decide (u0 ≥ 128) then bif Nat.ble (List.length cs + 1) 4294967296 then bif Nat.ble (0 + List.length cs * 1) (List.length cs) then bif Nat.beq (0 + List.length cs * 1) (List.length cs) then some (XA.normal, [Value.slice (some { block := 3, off := 0 }) (List.length cs + 1) 1, Value.int IntKind.u64 (IntKind.wrap IntKind.u64 (Int.tdiv u0 128))], [Blk.row Bool.false 1 (List.take (List.length cs * 1) cs ++ [Value.int IntKind.u8 (IntKind.wrap IntKind.u8 (IntKind.wrap IntKind.u64 (Int.tmod u0 128 + 128)))])], 25) else none else none else none else none := by kernel_rfl
theorem tQ1x (cs : List Value) (u0 : Int) : RB Tryd.prog noG Tryd.f32 0 [5, 1] [1] [.slice (some ⟨1, 0, none⟩) cs.length 1, .int .u64 u0] (mkHk 1 [.row false 1 cs]) = bif decide (u0 ≥ 128) then bif Nat.ble (List.length cs + 1) 4294967296 then bif Nat.ble (0 + List.length cs * 1) (List.length cs) then bif Nat.beq (0 + List.length cs * 1) (List.length cs) then none else none else none else none else some (XA.exit 0, [Value.slice (some { block := 1, off := 0 }) (List.length cs) 1, Value.int IntKind.u64 u0], [Blk.row Bool.false 1 cs], 25) := by kernel_rfl
theorem tV0 (u0 : Int) : RB Tryd.prog noG Tryd.f32 0 [5, 1] [2] [.slice (some ⟨0, 0, none⟩) 0 0, .int .u64 u0] (mkHk 0 [.row false 1 []]) = bif decide (u0 ≥ 128) then some (XA.normal, [Value.slice (some { block := 2, off := 0 }) 1 1, Value.int IntKind.u64 (IntKind.wrap IntKind.u64 (Int.tdiv u0 128))], [Blk.row Bool.false 1 [Value.int IntKind.u8 (IntKind.wrap IntKind.u8 (IntKind.wrap IntKind.u64 (Int.tmod u0 128 + 128)))]], 25) else none := by kernel_rfl
theorem tV0x (u0 : Int) : RB Tryd.prog noG Tryd.f32 0 [5, 1] [0] [.slice (some ⟨0, 0, none⟩) 0 0, .int .u64 u0] (mkHk 0 [.row false 1 []]) = bif decide (u0 ≥ 128) then some (XA.normal, [Value.slice (some { block := 2, off := 0 }) 1 1, Value.int IntKind.u64 (IntKind.wrap IntKind.u64 (Int.tdiv u0 128))], [Blk.row Bool.false 1 []], 25) else some (XA.exit 0, [Value.slice (some { block := 0, off := 0 }) 0 0, Value.int IntKind.u64 u0], [Blk.row Bool.false 1 []], 25) := by kernel_rfl
theorem tV1 (u0 : Int) : RB Tryd.prog noG Tryd.f32 0 [5, 1] [3] [.slice (some ⟨1, 0, none⟩) 0 0, .int .u64 u0] (mkHk 1 [.row false 1 []]) = bif decide (u0 ≥ 128) then some (XA.normal, [Value.slice (some { block := 3, off := 0 }) 1 1, Value.int IntKind.u64 (IntKind.wrap IntKind.u64 (Int.tdiv u0 128))], [Blk.row Bool.false 1 [Value.int IntKind.u8 (IntKind.wrap IntKind.u8 (IntKind.wrap IntKind.u64 (Int.tmod u0 128 + 128)))]], 25) else none := by kernel_rfl
theorem tV1x (u0 : Int) : RB Tryd.prog noG Tryd.f32 0 [5, 1] [1] [.slice (some ⟨1, 0, none⟩) 0 0, .int .u64 u0] (mkHk 1 [.row false 1 []]) = bif decide (u0 ≥ 128) then some (XA.normal, [Value.slice (some { block := 3, off := 0 }) 1 1, Value.int IntKind.u64 (IntKind.wrap IntKind.u64 (Int.tdiv u0 128))], [Blk.row Bool.false 1 []], 25) else some (XA.exit 0, [Value.slice (some { block := 1, off := 0 }) 0 0, Value.int IntKind.u64 u0], [Blk.row Bool.false 1 []], 25) := by kernel_rfl
theorem covR {k m : Nat} {cs1 : List Value} {L c : Nat} {u : Int} {σ1 : St} (hn : σ1.n = 25) (hd : σ1.ds = []) (hp : picks [5, 1] σ1.T = some [.slice (some ⟨m, 0, none⟩) L c, .int .u64 u]) (hb : picksH [m] σ1.h = some [.row false 1 cs1]) (hg : ∀ x ∈ cs1, GVal x) :
    Covers gl0 ⟨.nil, k⟩ (stT [5, 1] [.slice (some ⟨k, 0, none⟩) L c, .int .u64 u] 25 (mkHk k [.row false 1 cs1])) σ1 := by
  refine covers_Hk (ids := [m]) (dl := [0]) hn hd hp hb rfl ?_ ?_ (by simp) ?_
  · refine .cons ?_ (.cons (.plain _ rfl) .nil)
    have := Ren.slc (ρ := idk k [m]) (δ := idd k [0]) (n := k + 1) k 0 0 L c (by omega) (by unfold idd; rw [if_neg (by omega), Nat.sub_self]; rfl)
    have e : idk k [m] k = m := by unfold idk; rw [if_neg (by omega), Nat.sub_self]; rfl
    rw [e] at this
    exact this
  · intro j b0 b1 h0 h1
    match j with
    | 0 =>
      cases h0; cases h1
      exact ⟨rfl, rfl, Nat.zero_le _, rfl, fun i x y hx hy => by
        rw [show idx [0] 0 = 0 from rfl, List.drop_zero] at hy
        rw [hx] at hy
        cases hy
        exact .gv x (hg x (List.mem_of_getElem? hx))⟩
    | j + 1 => cases h0
  · intro b hb
    rcases List.mem_cons.1 hb with rfl | hb
    · rfl
    · cases hb
def okR (k : Nat) (p : PS) (u : Nat) : Prop := u < 2 ^ 64 ∧ p.c.length + (initV u).length + 1 ≤ 4294967296 ∧ (∀ x ∈ p.c, GVal x) ∧ p ≠ .nil ∧ (k = 0 ∨ k = 1)
theorem hiR (u : Nat) (h : u < 2 ^ 64) : IntKind.wrap IntKind.u8 (IntKind.wrap IntKind.u64 (Int.tmod (u : Int) 128 + 128)) = ((u % 128 + 128 : Nat) : Int) := by
  have e : Int.tmod (u : Int) 128 = ((u % 128 : Nat) : Int) := by rw [Int.tmod_eq_emod_of_nonneg (by omega)]; rfl
  rw [e, u64w, u8w]; omega
theorem shR (u : Nat) (h : u < 2 ^ 64) : IntKind.wrap IntKind.u64 (Int.tdiv (u : Int) 128) = ((u / 128 : Nat) : Int) := by
  have e : Int.tdiv (u : Int) 128 = ((u / 128 : Nat) : Int) := by rw [Int.tdiv_eq_ediv_of_nonneg (by omega)]; rfl
  rw [e, u64w]; omega
theorem stepRP (k : Nat) (x : {q : PS × Nat // okR k q.1 q.2}) : ∃ y σ1, codeB Tryd.prog gl0 (regF Tryd.prog gl0) (cA Tryd.prog [] noG) noLO (loopN Tryd.f32 0) (invR k x.1.1 x.1.2) = some (y, σ1) ∧
    ((y = .normal ∧ ∃ x' : {q : PS × Nat // okR k q.1 q.2}, x'.1.2 < x.1.2 ∧ ((XA.exit 0, invR k (finP x'.1.1 x'.1.2) (lastU x'.1.2)) : XA × St) = (.exit 0, invR k (finP x.1.1 x.1.2) (lastU x.1.2)) ∧ Covers gl0 ⟨.nil, k⟩ (invR k x'.1.1 x'.1.2) σ1) ∨
      (y ≠ .normal ∧ XA.exit 0 = y ∧ Covers gl0 ⟨.nil, k⟩ (invR k (finP x.1.1 x.1.2) (lastU x.1.2)) σ1)) := by
  obtain ⟨⟨p, u⟩, hu, hl, hg, hnn, hk⟩ := x
  dsimp only at hu hl hg hnn hk ⊢
  by_cases h : u ≤ 127
  · have e1 : finP p u = p := by unfold finP; rw [if_pos h]
    rw [e1, lastU_lo h]
    have hdec : decide ((u : Int) ≥ 128) = false := decide_eq_false (by omega)
    cases p with
    | nil => exact absurd rfl hnn
    | emp =>
      rcases hk with rfl | rfl
      · have t := tV0x (u : Int)
        rw [hdec] at t
        obtain ⟨σ1, g1, g2, g3, g4, g5⟩ := RB_some t
        exact ⟨_, σ1, g1, .inr ⟨by simp, rfl, covR g4 g5 g2 g3 (fun x hx => by cases hx)⟩⟩
      · have t := tV1x (u : Int)
        rw [hdec] at t
        obtain ⟨σ1, g1, g2, g3, g4, g5⟩ := RB_some t
        exact ⟨_, σ1, g1, .inr ⟨by simp, rfl, covR g4 g5 g2 g3 (fun x hx => by cases hx)⟩⟩
    | own cs =>
      rcases hk with rfl | rfl
      · have t := tQ0x cs (u : Int)
        rw [hdec] at t
        obtain ⟨σ1, g1, g2, g3, g4, g5⟩ := RB_some t
        exact ⟨_, σ1, g1, .inr ⟨by simp, rfl, covR g4 g5 g2 g3 hg⟩⟩
      · have t := tQ1x cs (u : Int)
        rw [hdec] at t
        obtain ⟨σ1, g1, g2, g3, g4, g5⟩ := RB_some t
        exact ⟨_, σ1, g1, .inr ⟨by simp, rfl, covR g4 g5 g2 g3 hg⟩⟩
  · have hi := initV_hi h
    have hlen : p.c.length + 1 + (initV (u / 128)).length + 1 ≤ 4294967296 := by rw [hi, List.length_cons] at hl; omega
    have hfin : finP (.own (p.c ++ [bv (u % 128 + 128)])) (u / 128) = finP p u := by
      rw [finP_own]
      unfold finP
      rw [if_neg h, hi, List.append_assoc]; rfl
    have hdec : decide ((u : Int) ≥ 128) = true := decide_eq_true (by omega)
    have gc : ∀ x ∈ p.c ++ [bv (u % 128 + 128)], GVal x := fun x hx => by
      rcases List.mem_append.1 hx with hx | hx
      · exact hg x hx
      · rw [List.mem_singleton.1 hx]; exact bv_gval _
    have next : okR k (.own (p.c ++ [bv (u % 128 + 128)])) (u / 128) :=
      ⟨by omega, by show (p.c ++ [bv (u % 128 + 128)]).length + (initV (u / 128)).length + 1 ≤ _; rw [List.length_append, List.length_singleton]; exact hlen, gc, by simp, hk⟩
    have out : ∀ (σ1 : St) (m : Nat) (cs : List Value), cs = p.c → σ1.n = 25 → σ1.ds = [] → picks [5, 1] σ1.T = some [.slice (some ⟨m, 0, none⟩) (cs.length + 1) 1, .int .u64 ((u / 128 : Nat) : Int)] → picksH [m] σ1.h = some [.row false 1 (cs ++ [.int .u8 ((u % 128 + 128 : Nat) : Int)])] →
        ∃ x' : {q : PS × Nat // okR k q.1 q.2}, x'.1.2 < u ∧ ((XA.exit 0, invR k (finP x'.1.1 x'.1.2) (lastU x'.1.2)) : XA × St) = (.exit 0, invR k (finP p u) (lastU u)) ∧ Covers gl0 ⟨.nil, k⟩ (invR k x'.1.1 x'.1.2) σ1 := by
      intro σ1 m cs hcs g4 g5 g2 g3
      subst hcs
      refine ⟨⟨(.own (p.c ++ [bv (u % 128 + 128)]), u / 128), next⟩, (show u / 128 < u by omega), ?_, ?_⟩
      · dsimp only
        rw [hfin, ← lastU_hi h]
      · have cv := covR (k := k) g4 g5 g2 g3 gc
        have e2 : p.c.length + 1 = (p.c ++ [bv (u % 128 + 128)]).length := by simp
        rw [e2] at cv
        exact cv
    cases p with
    | nil => exact absurd rfl hnn
    | emp =>
      rcases hk with rfl | rfl
      · have t := tV0 (u : Int)
        rw [hdec, hiR u hu, shR u hu] at t
        obtain ⟨σ1, g1, g2, g3, g4, g5⟩ := RB_some t
        exact ⟨_, σ1, g1, .inl ⟨rfl, out σ1 2 [] rfl g4 g5 g2 g3⟩⟩
      · have t := tV1 (u : Int)
        rw [hdec, hiR u hu, shR u hu] at t
        obtain ⟨σ1, g1, g2, g3, g4, g5⟩ := RB_some t
        exact ⟨_, σ1, g1, .inl ⟨rfl, out σ1 3 [] rfl g4 g5 g2 g3⟩⟩
    | own cs =>
      have b1 : Nat.ble (cs.length + 1) 4294967296 = true := ble_t (by simp only [PS.c] at hlen; omega)
      have b2 : Nat.ble (0 + cs.length * 1) cs.length = true := ble_t (by omega)
      have b3 : Nat.beq (0 + cs.length * 1) cs.length = true := beq_t (by omega)
      have b4 : List.take (cs.length * 1) cs = cs := by rw [Nat.mul_one, List.take_length]
      rcases hk with rfl | rfl
      · have t := tQ0 cs (u : Int)
        rw [hdec, b1, b2, b3, b4, hiR u hu, shR u hu] at t
        obtain ⟨σ1, g1, g2, g3, g4, g5⟩ := RB_some t
        exact ⟨_, σ1, g1, .inl ⟨rfl, out σ1 2 cs rfl g4 g5 g2 g3⟩⟩
      · have t := tQ1 cs (u : Int)
        rw [hdec, b1, b2, b3, b4, hiR u hu, shR u hu] at t
        obtain ⟨σ1, g1, g2, g3, g4, g5⟩ := RB_some t
        exact ⟨_, σ1, g1, .inl ⟨rfl, out σ1 3 cs rfl g4 g5 g2 g3⟩⟩
theorem loopR (k : Nat) (p : PS) (u : Nat) (h : okR k p u) : LoopTri Tryd.prog gl0 ⟨.nil, k⟩ (loopN Tryd.f32 0) (invR k p u) (.exit 0) (invR k (finP p u) (lastU u)) :=
  loop_rule (regF_ok hmix) (cA_ok noG_ok) noLO_ok (fun x : {q : PS × Nat // okR k q.1 q.2} => invR k x.1.1 x.1.2) (fun x => x.1.2) (fun x => (.exit 0, invR k (finP x.1.1 x.1.2) (lastU x.1.2))) (stepRP k) ⟨(p, u), h⟩
theorem flR_ok (k u : Nat) (p0 : PS) (hk : okR k p0 u) : LoopsOK Tryd.prog gl0 ⟨.nil, k⟩ (loQ 2 [5, 1] (flR k u p0 (finP p0 u) (lastU u)) noLO) (loopsOf (bodyOf Tryd.f32)) := by
  refine loQ_ok (fun c hc _ σ vs x σ' hd hp h => ?_) noLO_ok
  rw [show loopsOf (bodyOf Tryd.f32) = [loopN Tryd.f32 0] by kernel_rfl, List.mem_singleton] at hc
  subst hc
  unfold flR at h
  split at h
  · rename_i b n c u'
    split at h
    · rename_i bs hbs
      simp only [Option.some.injEq, Prod.mk.injEq] at h
      obtain ⟨ht, rfl, rfl⟩ := h
      obtain ⟨rfl, h2, rfl, hs⟩ := of_tst ht
      refine (loopR k p0 u hk).enter ?_
      cases p0 with
      | nil => exact absurd rfl hk.2.2.2.1
      | emp =>
        have := covR (k := k) hs hd hp hbs (fun x hx => by cases hx)
        rw [h2] at this
        exact this
      | own cs =>
        have := covR (k := k) hs hd hp hbs hk.2.2.1
        rw [h2] at this
        exact this
    · cases h
  · cases h
theorem tD1 (u0 : Nat) : RX Tryd.prog [] noG (lkR 0 u0 .emp .emp u0) Tryd.f32 [.slice none 0 0, .int .u64 (u0 : Int)] 0 = bif tst ([Blk.row Bool.false 1 []] = psB PS.emp ∧ Value.slice (some { block := 0, off := 0 }) 0 0 = psV 0 PS.emp ∧ (↑u0 : Int) = (↑u0 : Int) ∧ 25 = 25) then bif tst (∀ (x : Value), x ∈ [Value.int IntKind.u8 (IntKind.wrap IntKind.u8 (↑u0 : Int))] → GVal x) then some (gslV 1 0 Bool.false [Value.int IntKind.u8 (IntKind.wrap IntKind.u8 (↑u0 : Int))]) else none else none := by kernel_rfl
theorem tD2 (u0 u1 : Nat) (iv : List Value) : RX Tryd.prog [] noG (lkR 0 u0 .emp (.own iv) u1) Tryd.f32 [.slice none 0 0, .int .u64 (u0 : Int)] 0 = bif tst ([Blk.row Bool.false 1 []] = psB PS.emp ∧ Value.slice (some { block := 0, off := 0 }) 0 0 = psV 0 PS.emp ∧ (↑u0 : Int) = (↑u0 : Int) ∧ 25 = 25) then bif Nat.ble (List.length iv + 1) 4294967296 then bif Nat.ble (0 + List.length iv * 1) (List.length iv) then bif Nat.beq (0 + List.length iv * 1) (List.length iv) then bif tst (∀ (x : Value), x ∈ List.take (List.length iv * 1) iv ++ [Value.int IntKind.u8 (IntKind.wrap IntKind.u8 (↑u1 : Int))] → GVal x) then some (gslV (List.length iv + 1) 0 Bool.false (List.take (List.length iv * 1) iv ++ [Value.int IntKind.u8 (IntKind.wrap IntKind.u8 (↑u1 : Int))])) else none else none else none else none else none := by kernel_rfl
theorem tF1 (cap u0 : Nat) : RX Tryd.prog [] noG (lkR 1 u0 .emp .emp u0) Tryd.f32 [.slice (some ⟨0, 0, none⟩) 0 (2 * cap), .int .u64 (u0 : Int)] 1 = bif tst ([Blk.row Bool.false 1 []] = psB PS.emp ∧ Value.slice (some { block := 1, off := 0 }) 0 0 = psV 1 PS.emp ∧ (↑u0 : Int) = (↑u0 : Int) ∧ 25 = 25) then bif tst (∀ (x : Value), x ∈ [Value.int IntKind.u8 (IntKind.wrap IntKind.u8 (↑u0 : Int))] → GVal x) then some (gslV 1 0 Bool.false [Value.int IntKind.u8 (IntKind.wrap IntKind.u8 (↑u0 : Int))]) else none else none := by kernel_rfl
theorem tF2 (cap u0 u1 : Nat) (iv : List Value) : RX Tryd.prog [] noG (lkR 1 u0 .emp (.own iv) u1) Tryd.f32 [.slice (some ⟨0, 0, none⟩) 0 (2 * cap), .int .u64 (u0 : Int)] 1 = bif tst ([Blk.row Bool.false 1 []] = psB PS.emp ∧ Value.slice (some { block := 1, off := 0 }) 0 0 = psV 1 PS.emp ∧ (↑u0 : Int) = (↑u0 : Int) ∧ 25 = 25) then bif Nat.ble (List.length iv + 1) 4294967296 then bif Nat.ble (0 + List.length iv * 1) (List.length iv) then bif Nat.beq (0 + List.length iv * 1) (List.length iv) then bif tst (∀ (x : Value), x ∈ List.take (List.length iv * 1) iv ++ [Value.int IntKind.u8 (IntKind.wrap IntKind.u8 (↑u1 : Int))] → GVal x) then some (gslV (List.length iv + 1) 0 Bool.false (List.take (List.length iv * 1) iv ++ [Value.int IntKind.u8 (IntKind.wrap IntKind.u8 (↑u1 : Int))])) else none else none else none else none else none := by kernel_rfl
theorem tG (u0 u1 l off : Nat) (ex : Bool) (cs cs0 iv : List Value) : RX Tryd.prog [] noG (lkR 0 u0 (.own cs0) (.own iv) u1) Tryd.f32 [gslV (l + 1) off ex cs, .int .u64 (u0 : Int)] 0 = bif Nat.ble (off + (l + 1) * 1) (List.length cs) then bif Nat.ble (0 + (l + 1)) 4294967296 then bif tst ([Blk.row Bool.false 1 (List.take ((l + 1) * 1) (List.drop off cs))] = psB (PS.own cs0) ∧ Value.slice (some { block := 0, off := 0 }) (0 + (l + 1)) 1 = psV 0 (PS.own cs0) ∧ (↑u0 : Int) = (↑u0 : Int) ∧ 25 = 25) then bif Nat.ble (List.length iv + 1) 4294967296 then bif Nat.ble (0 + List.length iv * 1) (List.length iv) then bif Nat.beq (0 + List.length iv * 1) (List.length iv) then bif tst (∀ (x : Value), x ∈ List.take (List.length iv * 1) iv ++ [Value.int IntKind.u8 (IntKind.wrap IntKind.u8 (↑u1 : Int))] → GVal x) then some (gslV (List.length iv + 1) 0 Bool.false (List.take (List.length iv * 1) iv ++ [Value.int IntKind.u8 (IntKind.wrap IntKind.u8 (↑u1 : Int))])) else none else none else none else none else none else none else none := by kernel_rfl
theorem rput_nil (u : Nat) (hu : u < 2 ^ 64) : ConG Tryd.prog 32 [.slice none 0 0, .int .u64 (u : Int)] (gslV (putV u).length 0 false (putV u)) := by
  have hk : okR 0 .emp u := ⟨hu, by have := initV_len9 u hu; simp only [PS.c, List.length_nil]; omega, fun x hx => (by cases hx), by simp, .inl rfl⟩
  refine conG hmix (cA_ok (ins := []) noG_ok) (cK_ok (ins := [])) (lkQ_ok noLK_ok) Tryd.func32 rfl (by kernel_rfl) (flR_ok 0 u .emp hk) (d := 1) ?_
  by_cases h : u ≤ 127
  · have e1 : finP .emp u = .emp := by unfold finP; rw [if_pos h]
    rw [e1, lastU_lo h]
    refine (tD1 u).trans ?_
    have e : IntKind.u8.wrap (u : Int) = u := by rw [u8w]; omega
    rw [tst_of ⟨rfl, rfl, rfl, rfl⟩, e, tst_of (gv_one _ rfl)]
    unfold putV
    rw [initV_lo h, lastU_lo h]
    rfl
  · have e1 : finP .emp u = .own (initV u) := by unfold finP; rw [if_neg h]; rfl
    rw [e1]
    refine (tD2 u (lastU u) (initV u)).trans ?_
    rw [tst_of ⟨rfl, rfl, rfl, rfl⟩]
    refine (own_run _ _ (gv_plain (initV_plain u)) (by have := initV_len9 u hu; omega) (lastU_le u)).trans ?_
    rw [putV_hi_len h]
    rfl
theorem rput_con (l off : Nat) (ex : Bool) (cs : List Value) (u : Nat) (hu : u < 2 ^ 64) (hl : off + l ≤ cs.length) (hb : l + 11 ≤ 4294967296) (hg : ∀ x ∈ cs, GVal x) :
    ConG Tryd.prog 32 [gslV l off ex cs, .int .u64 (u : Int)] (gslV (l + (putV u).length) 0 false ((cs.drop off).take l ++ putV u)) := by
  have h9 := initV_len9 u hu
  refine conG_gsl (fun hl0 => ?_) (fun hl0 cap w S μ hμ args hargs => ?_) (fun hl0 => ?_)
  · subst hl0
    rw [Nat.zero_add, List.take_zero, List.nil_append]
    exact rput_nil u hu
  · subst hl0
    rw [Nat.zero_add, List.take_zero, List.nil_append]
    have hk : okR 1 .emp u := ⟨hu, by simp only [PS.c, List.length_nil]; omega, fun x hx => (by cases hx), by simp, .inr rfl⟩
    refine conGk (k := 1) hmix (cA_ok (ins := []) noG_ok) (cK_ok (ins := [])) (lkQ_ok noLK_ok) Tryd.func32 rfl (by kernel_rfl) (flR_ok 1 u .emp hk) (d := 1) (ar := [.slice (some ⟨0, 0, none⟩) 0 (2 * cap), .int .u64 (u : Int)]) ?_ w S μ hμ args hargs
    by_cases h : u ≤ 127
    · have e1 : finP .emp u = .emp := by unfold finP; rw [if_pos h]
      rw [e1, lastU_lo h]
      refine (tF1 cap u).trans ?_
      have e : IntKind.u8.wrap (u : Int) = u := by rw [u8w]; omega
      rw [tst_of ⟨rfl, rfl, rfl, rfl⟩, e, tst_of (gv_one _ rfl)]
      unfold putV
      rw [initV_lo h, lastU_lo h]
      rfl
    · have e1 : finP .emp u = .own (initV u) := by unfold finP; rw [if_neg h]; rfl
      rw [e1]
      refine (tF2 cap u (lastU u) (initV u)).trans ?_
      rw [tst_of ⟨rfl, rfl, rfl, rfl⟩]
      refine (own_run _ _ (gv_plain (initV_plain u)) (by omega) (lastU_le u)).trans ?_
      rw [putV_hi_len h]
      rfl
  · obtain ⟨m, rfl⟩ : ∃ m, l = m + 1 := ⟨l - 1, by omega⟩
    have hlen : ((cs.drop off).take (m + 1)).length = m + 1 := by rw [List.length_take, List.length_drop]; omega
    have hgs : ∀ x ∈ (cs.drop off).take (m + 1), GVal x := gv_sub hg fun x hx => List.mem_of_mem_drop (List.mem_of_mem_take hx)
    have hk : okR 0 (.own ((cs.drop off).take (m + 1))) u := ⟨hu, by simp only [PS.c, hlen]; omega, hgs, by simp, .inl rfl⟩
    refine conG hmix (cA_ok (ins := []) noG_ok) (cK_ok (ins := [])) (lkQ_ok noLK_ok) Tryd.func32 rfl (by kernel_rfl) (flR_ok 0 u _ hk) (d := 1) ?_
    rw [finP_own]
    refine (tG u (lastU u) m off ex cs ((cs.drop off).take (m + 1)) ((cs.drop off).take (m + 1) ++ initV u)).trans ?_
    have e3 : ((cs.drop off).take (m + 1) ++ initV u).length + 1 = m + 1 + (putV u).length := by rw [List.length_append, hlen]; simp only [putV, List.length_append, List.length_singleton]; omega
    rw [ble_t (show off + (m + 1) * 1 ≤ cs.length by omega), ble_t (show 0 + (m + 1) ≤ 4294967296 by omega), tst_of ⟨by rw [Nat.mul_one]; rfl, by simp only [psV, hlen, Nat.zero_add], rfl, rfl⟩]
    refine (own_run _ _ (gv_app hgs (gv_plain (initV_plain u))) (by rw [List.length_append, hlen]; omega) (lastU_le u)).trans ?_
    rw [e3, List.append_assoc]
    rfl
end Go.Proofs.YtjhlfolgadaliaaDoor.AI
