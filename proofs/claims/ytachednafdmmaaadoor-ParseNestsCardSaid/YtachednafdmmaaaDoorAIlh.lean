/- The abstract interpreter: loops that are unrolled; arguments that are slices. -/
import Derived.Test.YtachednafdmmaaaDoorAIlg
namespace Go.Proofs.YtachednafdmmaaaDoor.AI
open Go Go.RowKit
set_option linter.unusedVariables false
set_option linter.unusedSimpArgs false

variable {P : Program} {gl : Nat → Option Nat} {reg : CallA → Array Oper → St → Option St} {call : CallA}

/-- A loop is gone through, so many rounds at most; the loops in it as told. -/
def loIt (P : Program) (gl : Nat → Option Nat) (call : CallA) (LO : LoopA) (fuel : Nat) : LoopA := fun c σ => iterA (fun σ => codeB P gl (regF P gl) call LO c σ) fuel σ
def lkIt {R : Type} (P : Program) (gl : Nat → Option Nat) (call : CallA) (callK : CK R) (LK : LoopK R) (fuel : Nat) : LoopK R := fun c σ k => iterK (fun σ k => codeG P gl call callK LK c σ k) fuel σ k
theorem lkIt_ok {R : Type} {callK : CK R} (hc : CKok call callK) {LO : LoopA} {LK : LoopK R} (hL : LKok LO LK) (fuel : Nat) : LKok (loIt P gl call LO fuel) (lkIt P gl call callK LK fuel) := fun c σ k => iterK_eq (fun σ k => codeG_eq hc hL c σ k) fuel σ k

theorem loIt_ok (hm : P.follows .mixedOrders = true) (hcall : CallOK P gl call) {hE : AH} {LO : LoopA} {l : List Code} (hl : ∀ c ∈ l, LoopsOK P gl hE LO (loopsOf c)) (fuel : Nat) : LoopsOK P gl hE (loIt P gl call LO fuel) l := by
  intro c hc σ x σ' hr μE wE μ a w hE0 hs hf
  refine wp_loop_rounds fuel ?_
  have key : ∀ (k : Nat) (σ : St) (μ : Mu) (a : Act) (w : World), iterA (fun σ => codeB P gl (regF P gl) call LO c σ) k σ = some (x, σ') → SRel gl μ σ a w → Fr μE hE wE μ σ.h w → Code.rounds P c (PostE gl μE hE wE x σ') k a w := by
    intro k
    induction k with
    | zero => intro σ μ a w hk; cases hk
    | succ k ihk =>
      intro σ μ a w hk h f
      rw [rounds_succ]
      simp only [iterA] at hk
      split at hk
      · rename_i σ1 h1
        refine wp_mono (codeB_ok (regF_ok hm) hcall c (hl c hc) σ .normal σ1 h1 μE wE μ a w hE0 h f) ?_
        rintro e a1 w1 ⟨rfl, μ1, hs1, hf1⟩
        exact ihk σ1 μ1 a1 w1 hk hs1 hf1
      · rename_i hne
        refine wp_mono (codeB_ok (regF_ok hm) hcall c (hl c hc) σ x σ' hk μE wE μ a w hE0 h f) ?_
        rintro e a1 w1 ⟨rfl, μ1, hs1, hf1⟩
        cases x with
        | normal => exact absurd hk (hne σ')
        | exit id' => exact ⟨rfl, μ1, hs1, hf1⟩
        | ret => exact ⟨rfl, μ1, hs1, hf1⟩
  exact key fuel σ μ a w hr hs hf

/-- Calls by a table, or, where it says nothing, gone into. -/
def isIn (ins : List Nat) (g : FuncId) : Bool := ins.any (Nat.beq g)
def mixA (ins : List Nat) (c1 c2 : CallA) : CallA := fun g ar h => bif isIn ins g then c1 g ar h else c2 g ar h
def mixK {R : Type} (ins : List Nat) (c1 c2 : CK R) : CK R := fun g ar h k => bif isIn ins g then c1 g ar h k else c2 g ar h k
theorem mixK_ok {R : Type} {ins : List Nat} {c1 c2 : CallA} {k1 k2 : CK R} (h1 : CKok c1 k1) (h2 : CKok c2 k2) : CKok (mixA ins c1 c2) (mixK ins k1 k2) := by
  intro g ar h k
  unfold mixA mixK
  cases isIn ins g
  · exact h2 g ar h k
  · exact h1 g ar h k
theorem mixA_ok {ins : List Nat} {c1 c2 : CallA} (h1 : CallOK P gl c1) (h2 : CallOK P gl c2) : CallOK P gl (mixA ins c1 c2) := by
  intro g ar h v h' hc
  unfold mixA at hc
  cases hi : isIn ins g with
  | true => rw [hi] at hc; exact h1 g ar h v h' hc
  | false => rw [hi] at hc; exact h2 g ar h v h' hc

/-- A slice that may be nil, may be empty, may hold something. -/
theorem conG_gsl {g : FuncId} {l off : Nat} {ex : Bool} {cs rest : List Value} {v : Value} (h0 : l = 0 → ConG P g (.slice none 0 0 :: rest) v)
    (h1 : l = 0 → ∀ (cap : Nat) (w : World) (S : Nat → Prop) (μ : Mu) (hμ : μ.fr = (muS w S).fr) (args : Array Value) (hargs : LRel μ 1 (.slice (some ⟨0, 0, none⟩) 0 (2 * cap) :: rest) args.toList),
      Calls P g args w fun e w' => ∃ c, e = .returned c ∧ Below w.heap.size w w' ∧ VRel (muS w' fun B => S B ∨ w.heap.size ≤ B) 0 v c)
    (h2 : l ≠ 0 → ConG P g (gslV l off ex cs :: rest) v) : ConG P g (gslV l off ex cs :: rest) v := by
  by_cases hl : l = 0
  · subst hl
    intro w S args hargs
    obtain ⟨al⟩ := args
    cases al with
    | nil => have := hargs.1; simp at this
    | cons a r =>
      obtain ⟨p, cap, B, o, C, e, g1, g2, g3, g4, _, _⟩ := (hargs.head).gslI
      subst e
      cases p with
      | none =>
        have := g4 rfl
        subst this
        exact h0 rfl w S _ (.cons (.plain _ rfl) hargs.tail)
      | some q =>
        obtain ⟨qb, qo, qs⟩ := q
        have : qs = none := g3 _ rfl
        subst this
        refine h1 rfl cap w S ⟨fun _ => ⟨qb, qo, 0⟩, (muS w S).fr⟩ rfl _ (.cons ?_ ?_)
        · have := VRel.slc (μ := ⟨fun _ => ⟨qb, qo, 0⟩, (muS w S).fr⟩) (n := 1) 0 0 0 (2 * cap) (by omega)
          have e : 0 + 2 * cap / 2 + 2 * cap % 2 * 0 = cap := by omega
          simp only [Nat.add_zero] at this
          rw [show 0 + 2 * cap / 2 + 2 * cap % 2 * 0 = cap from e] at this
          exact this
        · exact ⟨hargs.tail.1, fun i x y hx hy => VRel.closed (μ := muS w S) (μ' := ⟨fun _ => ⟨qb, qo, 0⟩, (muS w S).fr⟩) (fun B C hB => hB) (hargs.tail.2 i x y hx hy)⟩
  · exact h2 hl


/-- A heap of these blocks, behind k names of which nothing is known. -/
def mkHk (k : Nat) (l : List Blk) : AH := ⟨mkHF k l .nil, k + l.length⟩
theorem mkHk_get (k : Nat) (l : List Blk) (j : Nat) : (mkHk k l).get j = if k ≤ j then l[j - k]? else none := by
  show (mkHF k l .nil).get j = _
  rw [mkHF_get, Tr.get_nil]
  by_cases h : k ≤ j
  · rw [if_pos h]
    by_cases h2 : j < k + l.length
    · rw [if_pos ⟨h, h2⟩]
    · rw [if_neg (by omega), List.getElem?_eq_none (by omega)]
  · rw [if_neg h, if_neg (by omega)]
def idk (k : Nat) (ids : List Nat) (i : Nat) : Nat := if i < k then i else idx ids (i - k)
def idd (k : Nat) (dl : List Nat) (i : Nat) : Nat := if i < k then 0 else idx dl (i - k)

theorem covers_Hk {k : Nat} {ts ids dl : List Nat} {vs1 vs2 : List Value} {bs1 bs2 : List Blk} {σ1 : St} {n : Nat} (hn : σ1.n = n) (hd : σ1.ds = []) (hp : picks ts σ1.T = some vs1) (hb : picksH ids σ1.h = some bs1) (hlen : bs2.length = bs1.length)
    (hv : RenL (idk k ids) (idd k dl) (k + bs2.length) vs2 vs1) (hB : ∀ (i : Nat) (b b1 : Blk), bs2[i]? = some b → bs1[i]? = some b1 → RenB (idk k ids) (idd k dl) (k + bs2.length) (idx dl i) b b1) (hnd : ids.Nodup) (hro : ∀ b ∈ bs2, b.ro = false) :
    Covers gl0 ⟨.nil, k⟩ (stT ts vs2 n (mkHk k bs2)) σ1 := by
  obtain ⟨k1, k2⟩ := picksH_get hb
  have hid : ∀ (i : Nat), i < bs2.length → ids[i]? = some (idx ids i) := by
    intro i hi
    have : i < ids.length := by rw [← k1, ← hlen]; exact hi
    simp [idx, List.getElem?_eq_getElem this]
  have hat : ∀ (i : Nat) (b : Blk), (stT ts vs2 n (mkHk k bs2)).h.get i = some b → k ≤ i ∧ bs2[i - k]? = some b ∧ i - k < bs2.length := fun i b hi => by
    have hi' : (mkHk k bs2).get i = some b := hi
    rw [mkHk_get] at hi'
    split at hi'
    · rename_i h; exact ⟨h, hi', (List.getElem?_eq_some_iff.1 hi').1⟩
    · cases hi'
  refine Cov.covers (ρ := idk k ids) (δ := idd k dl) ⟨hn, fun t v ht => ?_, fun i b hi => ?_, fun i b hi => ?_, fun i j bi bj hi hj he => ?_, rfl, hd, fun g i hg => (by cases hg), fun i hi => ?_, Nat.le_add_right _ _, fun i b hi => (by simp [AH.get, Tr.get_nil] at hi), fun i b hi hr => ?_⟩
  · obtain ⟨j, v1, h1, h2, h3⟩ := picks_get hp vs2 hv.1 t v ht
    exact ⟨v1, h3, hv.2 j v v1 h1 h2⟩
  · obtain ⟨h1, h2, h3⟩ := hat i b hi
    show i < k + bs2.length
    omega
  · obtain ⟨h1, h2, h3⟩ := hat i b hi
    have hlt1 : i - k < bs1.length := by omega
    have hg := List.getElem?_eq_getElem hlt1
    obtain ⟨i', g1, g2⟩ := k2 _ _ hg
    rw [hid _ h3] at g1
    cases g1
    refine ⟨_, by unfold idk; rw [if_neg (by omega)]; exact g2, ?_⟩
    have := hB (i - k) b _ h2 hg
    unfold idd at this ⊢
    rw [if_neg (by omega)]
    exact this
  · obtain ⟨h1, h2, l1⟩ := hat i bi hi
    obtain ⟨h3, h4, l2⟩ := hat j bj hj
    have e1 := hid _ l1
    have e2 := hid _ l2
    unfold idk at he
    rw [if_neg (by omega), if_neg (by omega)] at he
    rw [he] at e1
    have m1 : i - k < ids.length := by rw [← k1, ← hlen]; exact l1
    have m2 : j - k < ids.length := by rw [← k1, ← hlen]; exact l2
    rw [List.getElem?_eq_getElem m1] at e1
    rw [List.getElem?_eq_getElem m2] at e2
    have := (List.getElem_inj hnd).1 ((Option.some.inj e1).trans (Option.some.inj e2).symm)
    omega
  · have hi' : i < k := hi
    unfold idk idd
    rw [if_pos hi', if_pos hi']
    exact ⟨rfl, rfl⟩
  · obtain ⟨h1, h2, h3⟩ := hat i b hi
    rw [hro b (List.mem_of_getElem? h2)] at hr
    cases hr

theorem finHG_some {callK : CK (XA × List Value × List Blk × Nat)} (hK : CKok call callK) {LO : LoopA} {LK : LoopK (XA × List Value × List Blk × Nat)} (hL : LKok LO LK) {c : Code} {σ : St} {ts ids : List Nat} {y : XA} {vs : List Value} {bs : List Blk} {n : Nat}
    (hr : codeG P gl call callK LK c σ (finH ts ids) = some (y, vs, bs, n)) :
    ∃ σ1, codeB P gl (regF P gl) call LO c σ = some (y, σ1) ∧ picks ts σ1.T = some vs ∧ picksH ids σ1.h = some bs ∧ σ1.n = n ∧ σ1.ds = [] := by
  rw [codeG_eq hK hL] at hr
  split at hr
  · rename_i x σ1 hc
    unfold finH at hr
    split at hr
    · rename_i hd
      split at hr
      · rename_i ws hw
        split at hr
        · rename_i cs hcs
          cases hr
          exact ⟨σ1, hc, hw, hcs, rfl, hd⟩
        · cases hr
      · cases hr
    · cases hr
  · cases hr


/-- A law's own code, in a world that holds tables. -/
noncomputable def runT (P : Program) (l : Tabs) (call : CallA) (callK : CK Value) (LK : LoopK Value) (fn : Func) (ar : List Value) : Option Value :=
  codeG P (glT l) call callK LK (bodyOf fn) ⟨argsT 0 ar .nil, ar.length + (fn.ntmps - ar.length), hT l, []⟩ (finV P fn)

theorem lawG {l : Tabs} (hm : P.follows .mixedOrders = true) {call : CallA} (hcall : CallOK P (glT l) call) {callK : CK Value} (hK : CKok call callK) {LO : LoopA} {LK : LoopK Value} (hL : LKok LO LK) {g : FuncId} {fn : Func} {c : Code} {ar : List Value} {v : Value}
    (hfn : P.funcs[g]? = some fn) (hb : fn.body = some c) (hname : (fn.name == "runtime.NumGoroutine") = false) (hLO : LoopsOK P (glT l) (hT l) LO (loopsOf (bodyOf fn))) (hrun : runT P l call callK LK fn ar = some v) (hv : plainV v = true) (w : World) (hw : ∀ x ∈ l, Holds w x)
    (args : Array Value) (hargs : LRel (mu0 w) 0 ar args.toList) : Calls P g args w fun e w' => e = .returned v ∧ Below w.heap.size w w' := by
  have hbody : bodyOf fn = c := by unfold bodyOf; rw [hb]
  unfold runT at hrun
  rw [codeG_eq hK hL] at hrun
  split at hrun
  · rename_i x σ hcode
    rw [hbody] at hcode hLO
    obtain ⟨h', hfin⟩ := valOf_some hrun
    have hk : codeBK P (glT l) (regF P (glT l)) call (toK call) (toLK LO) c ⟨argsT 0 ar .nil, ar.length + (fn.ntmps - ar.length), hT l, []⟩ (finK P fn) = some (v, h') := by
      rw [codeBK_eq (toK_ok call) (toLK_ok LO), hcode]
      exact hfin
    refine ((oneB_ok (regF_ok hm) hcall (toK_ok call) (toLK_ok LO) hLO hfn hb hname hk).2 (muT l w) w args (.tabs hw) ⟨hargs.1, fun i x y hx hy => VRel.closed (μ := mu0 w) (μ' := muT l w) (fun B C hB => hB) (hargs.2 i x y hx hy)⟩).mono ?_
    rintro e w' ⟨c', μ', rfl, g1, g2, g3⟩
    refine ⟨by rw [g3.plainV_eq hv], g2.below fun i b hb => ?_⟩
    obtain ⟨x, _, rfl⟩ := hT_get hb
    rfl
  · cases hrun

end Go.Proofs.YtachednafdmmaaaDoor.AI
