/- The abstract interpreter: loops by induction. -/
import Derived.Test.YtachednafdmmaaaDoorAIla
namespace Go.Proofs.YtachednafdmmaaaDoor.AI
open Go Go.RowKit
set_option linter.unusedVariables false
set_option linter.unusedSimpArgs false

/-- Forgets that a slice is as long as its room. -/
def exF (v : Value) : Value := match v with
  | .iface ty (.tuple ⟨.slice none l off :: .bool true :: cs⟩) => bif Nat.beq ty 4294967296 then gslV l off false cs else .iface ty (.tuple ⟨.slice none l off :: .bool true :: cs⟩)
  | v => v
theorem VRel.exF {μ : Mu} {n : Nat} {v c : Value} (h : VRel μ n v c) : VRel μ n (exF v) c := by
  unfold AI.exF
  split
  · rename_i ty l off cs
    cases hb : Nat.beq ty 4294967296 with
    | false => exact h
    | true =>
      have := Nat.eq_of_beq_eq_true hb
      subst this
      obtain ⟨a, cap, B, o, C, rfl, h1, h2, h3, h4, h5, h6⟩ := VRel.gslI (l := l) (off := off) (ex := true) (cs := cs) h
      exact .gsl l off false cs a cap B o C (fun h => by cases h) h2 h3 h4 h5 h6
  · exact h
theorem gv_ex {l off : Nat} {cs : List Value} (h : GVal (gslV l off false cs)) : GVal (gslV l off true cs) := by
  generalize hv : gslV l off false cs = v at h
  cases h with
  | gsl l' off' ex' cs' h' =>
    obtain ⟨rfl, rfl, rfl, rfl⟩ := gslV_inj hv
    exact .gsl _ _ _ _ h'
  | gptr => unfold gslV gptrV at hv; injection hv with h; exact absurd h (by decide)
  | iface t v ht hv' => unfold gslV at hv; injection hv with h; subst h; exact absurd ht (by decide)
  | plain v hp => subst hv; simp [gslV, plain1] at hp
  | _ => simp [gslV] at hv
theorem exF_gv {v : Value} (h : GVal (exF v)) : GVal v := by
  unfold exF at h
  split at h
  · rename_i ty l off cs
    cases hb : Nat.beq ty 4294967296 with
    | false => rw [hb] at h; exact h
    | true =>
      rw [hb] at h
      have := Nat.eq_of_beq_eq_true hb
      subst this
      exact gv_ex h
  · exact h
/-- A value whose blocks go by other names, and begin elsewhere (the new one first). -/
inductive Ren (ρ δ : Nat → Nat) (n : Nat) : Value → Value → Prop where
  | plain (v : Value) : plain1 v = true → Ren ρ δ n v v
  | gv (v : Value) : GVal v → Ren ρ δ n v v
  | nil : Ren ρ δ n (gslV 0 0 false []) (.slice none 0 0)
  | ex (v : Value) : GVal v → Ren ρ δ n (exF v) v
  | ptr (b o o' : Nat) : b < n → o' = o + δ b → Ren ρ δ n (.pointer (some ⟨b, o, none⟩)) (.pointer (some ⟨ρ b, o', none⟩))
  | slc (b o o' l c : Nat) : b < n → o' = o + δ b → Ren ρ δ n (.slice (some ⟨b, o, none⟩) l c) (.slice (some ⟨ρ b, o', none⟩) l c)
  | mp (b : Nat) : b < n → Ren ρ δ n (.map (some b)) (.map (some (ρ b)))
  | func (fn : Fn) (f f' c c' : Array Value) : f.toList.length = f'.toList.length → (∀ (i : Nat) (x y : Value), f.toList[i]? = some x → f'.toList[i]? = some y → Ren ρ δ n x y) →
      c.toList.length = c'.toList.length → (∀ (i : Nat) (x y : Value), c.toList[i]? = some x → c'.toList[i]? = some y → Ren ρ δ n x y) → Ren ρ δ n (.func fn f c) (.func fn f' c')
  | iface (t : TypeId) (v v' : Value) : Nat.ble gT t = false → Ren ρ δ n v v' → Ren ρ δ n (.iface t v) (.iface t v')
  | agg (c c' : Array Value) : c.toList.length = c'.toList.length → (∀ (i : Nat) (x y : Value), c.toList[i]? = some x → c'.toList[i]? = some y → Ren ρ δ n x y) → Ren ρ δ n (.agg c) (.agg c')
  | tuple (c c' : Array Value) : c.toList.length = c'.toList.length → (∀ (i : Nat) (x y : Value), c.toList[i]? = some x → c'.toList[i]? = some y → Ren ρ δ n x y) → Ren ρ δ n (.tuple c) (.tuple c')

def RenL (ρ δ : Nat → Nat) (n : Nat) (xs ys : List Value) : Prop := xs.length = ys.length ∧ ∀ (i : Nat) (x y : Value), xs[i]? = some x → ys[i]? = some y → Ren ρ δ n x y

theorem RenL.nil {ρ δ : Nat → Nat} {n : Nat} : RenL ρ δ n [] [] := ⟨rfl, fun i x y h _ => by simp at h⟩
theorem RenL.cons {ρ δ : Nat → Nat} {n : Nat} {x y : Value} {xs ys : List Value} (h : Ren ρ δ n x y) (t : RenL ρ δ n xs ys) : RenL ρ δ n (x :: xs) (y :: ys) := by
  refine ⟨by simp [t.1], fun i a b ha hb => ?_⟩
  cases i with
  | zero => simp at ha hb; subst ha hb; exact h
  | succ i => exact t.2 i a b (by simpa using ha) (by simpa using hb)
theorem RenL.plain {ρ δ : Nat → Nat} {n : Nat} {cs : List Value} (h : ∀ v ∈ cs, plain1 v = true) : RenL ρ δ n cs cs := by
  refine ⟨rfl, fun i x y hx hy => ?_⟩
  rw [hx] at hy
  cases hy
  exact .plain x (h x (List.mem_of_getElem? hx))
theorem Ren.plainV {ρ δ : Nat → Nat} {n : Nat} {v : Value} (h : AI.plainV v = true) : Ren ρ δ n v v := by
  cases v with
  | agg cs => exact .agg cs cs rfl (RenL.plain (fun v hv => List.all_eq_true.1 h v hv)).2
  | tuple cs => exact .tuple cs cs rfl (RenL.plain (fun v hv => List.all_eq_true.1 h v hv)).2
  | iface t v => exact .gv _ (.plainV h)
  | _ => exact .plain _ h

/-- Where the blocks lie by their new names. -/
def renM (ρ δ : Nat → Nat) (μ : Mu) : Mu := ⟨fun i => ⟨(μ (ρ i)).b, (μ (ρ i)).o + δ i, (μ (ρ i)).s⟩, μ.fr⟩
theorem Ren.vrel {ρ δ : Nat → Nat} {n : Nat} {μ : Mu} {n1 : Nat} {v2 v1 : Value} (h : Ren ρ δ n v2 v1) : ∀ {c : Value}, VRel μ n1 v1 c → VRel (renM ρ δ μ) n v2 c := by
  have arr : ∀ (c c' d : Array Value), c.toList.length = c'.toList.length → (∀ (i : Nat) (x y : Value), c.toList[i]? = some x → c'.toList[i]? = some y → ∀ {z : Value}, VRel μ n1 y z → VRel (renM ρ δ μ) n x z) → LRel μ n1 c'.toList d.toList →
      LRel (renM ρ δ μ) n c.toList d.toList := by
    intro c c' d hl hi hd
    refine ⟨hl.trans hd.1, fun i x z hx hz => ?_⟩
    have hi' : i < c'.toList.length := by rw [← hl]; exact (List.getElem?_eq_some_iff.1 hx).1
    exact hi i x _ hx (List.getElem?_eq_getElem hi') (hd.2 i _ z (List.getElem?_eq_getElem hi') hz)
  induction h with
  | plain v hv =>
    intro c hc
    rw [hc.plain_eq hv]
    exact .plain v hv
  | gv v hv => intro c hc; exact hv.vrel (μ := μ) (μ' := renM ρ δ μ) (fun _ _ h => h) hc
  | ex v hv => intro c hc; exact (hv.vrel (μ := μ) (μ' := renM ρ δ μ) (n' := n) (fun _ _ h => h) hc).exF
  | nil =>
    intro c hc
    rw [hc.plain_eq rfl]
    exact .gsl 0 0 false [] none 0 0 0 #[] (fun h => by cases h) (Nat.le_refl 0) (fun p h => by cases h) (fun _ => rfl) (fun h => absurd rfl h) (fun j x y h => absurd rfl h)
  | ptr b o o' hb ho =>
    intro c hc
    obtain ⟨_, rfl⟩ := hc.pointer
    have := VRel.ptr (μ := renM ρ δ μ) b o hb
    have e : (renM ρ δ μ b).o + o = (μ (ρ b)).o + o' := by simp only [renM]; omega
    rw [e] at this
    exact this
  | slc b o o' l k hb ho =>
    intro c hc
    have e : (renM ρ δ μ b).o + o = (μ (ρ b)).o + o' := by simp only [renM]; omega
    cases hc with
    | plain v hv => simp [plain1] at hv
    | slc b' o1 l' k' hb' =>
      have := VRel.slc (μ := renM ρ δ μ) b o l k hb
      rw [e] at this
      exact this
    | slc0 b' o1 o'' hb' hs => exact VRel.slc0 (μ := renM ρ δ μ) b o o'' hb (fun h => by rw [e]; exact hs h)
  | mp b hb =>
    intro c hc
    obtain ⟨_, rfl⟩ := hc.mapI
    exact VRel.mp (μ := renM ρ δ μ) b hb
  | func fn f f' k k' l1 h1 l2 h2 ih1 ih2 =>
    intro c hc
    obtain ⟨g, d, rfl, g1, g2⟩ := hc.funcI
    have a1 := arr f f' g l1 (fun i x y hx hy z hz => ih1 i x y hx hy hz) g1
    have a2 := arr k k' d l2 (fun i x y hx hy z hz => ih2 i x y hx hy hz) g2
    exact .func fn _ _ _ _ a1.1 a1.2 a2.1 a2.2
  | iface t v v' ht h ih =>
    intro c hc
    obtain ⟨u, rfl, hu⟩ := hc.ifaceI ht
    exact .iface t _ _ ht (ih hu)
  | agg k k' l h ih =>
    intro c hc
    obtain ⟨g, rfl, g1⟩ := hc.aggI
    have a1 := arr k k' g l (fun i x y hx hy z hz => ih i x y hx hy hz) g1
    exact .agg _ _ a1.1 a1.2
  | tuple k k' l h ih =>
    intro c hc
    obtain ⟨g, rfl, g1⟩ := hc.tupleI
    have a1 := arr k k' g l (fun i x y hx hy z hz => ih i x y hx hy hz) g1
    exact .tuple _ _ a1.1 a1.2

theorem RenL.lrel {ρ δ : Nat → Nat} {n : Nat} {μ : Mu} {n1 : Nat} {xs ys zs : List Value} (h : RenL ρ δ n xs ys) (g : LRel μ n1 ys zs) : LRel (renM ρ δ μ) n xs zs := by
  refine ⟨h.1.trans g.1, fun i x z hx hz => ?_⟩
  have hi : i < ys.length := by rw [← h.1]; exact (List.getElem?_eq_some_iff.1 hx).1
  exact (h.2 i x _ hx (List.getElem?_eq_getElem hi)).vrel (g.2 i _ z (List.getElem?_eq_getElem hi) hz)

/-- d: so many cells at the old row's begin are left out. -/
def RenB (ρ δ : Nat → Nat) (n d : Nat) : Blk → Blk → Prop
  | .row r z cs, .row r' z' cs' => r = r' ∧ z = z' ∧ d ≤ cs'.length ∧ RenL ρ δ n cs (cs'.drop d)
  | .mp r es, .mp r' es' => r = r' ∧ RenL ρ δ n (es.map (·.1)) (es'.map (·.1)) ∧ RenL ρ δ n (es.map (·.2)) (es'.map (·.2))
  | _, _ => False

theorem RenB.ro {ρ δ : Nat → Nat} {n d : Nat} {b b1 : Blk} (h : RenB ρ δ n d b b1) : b1.ro = b.ro := by
  cases b <;> cases b1 <;> first | exact h.elim | exact h.1.symm

/-- A state that knows less than another (the second), and may call its blocks otherwise. -/
structure Cov (gl : Nat → Option Nat) (hE : AH) (ρ δ : Nat → Nat) (σ2 σ1 : St) : Prop where
  n : σ1.n = σ2.n
  T : ∀ (t : Nat) (v : Value), σ2.T.get t = some v → ∃ v1, σ1.T.get t = some v1 ∧ Ren ρ δ σ2.h.next v v1
  dom : ∀ (i : Nat) (b : Blk), σ2.h.get i = some b → i < σ2.h.next
  blk : ∀ (i : Nat) (b : Blk), σ2.h.get i = some b → ∃ b1, σ1.h.get (ρ i) = some b1 ∧ RenB ρ δ σ2.h.next (δ i) b b1
  inj : ∀ (i j : Nat) (bi bj : Blk), σ2.h.get i = some bi → σ2.h.get j = some bj → ρ i = ρ j → i = j
  ds2 : σ2.ds = []
  ds1 : σ1.ds = []
  glob : ∀ (g i : Nat), gl g = some i → i < σ2.h.next ∧ ρ i = i ∧ δ i = 0
  fix : ∀ i, i < hE.next → ρ i = i ∧ δ i = 0
  next : hE.next ≤ σ2.h.next
  ro : ∀ (i : Nat) (b : Blk), hE.get i = some b → b.ro = true → σ2.h.get i = some b
  ron : ∀ (i : Nat) (b : Blk), σ2.h.get i = some b → b.ro = true → hE.get i = some b

variable {P : Program} {gl : Nat → Option Nat} {reg : CallA → Array Oper → St → Option St} {call : CallA}

theorem Cov.apply {hE : AH} {ρ δ : Nat → Nat} {σ2 σ1 : St} (cv : Cov gl hE ρ δ σ2 σ1) {μE μ1 : Mu} {wE w : World} {a : Act} (hs : SRel gl μ1 σ1 a w) (f : Fr μE hE wE μ1 σ1.h w) :
    SRel gl (renM ρ δ μ1) σ2 a w ∧ Fr μE hE wE (renM ρ δ μ1) σ2.h w := by
  refine ⟨⟨hs.size.trans cv.n, fun t v ht => ?_, ⟨⟨cv.dom, fun i b hb => ?_, fun i j bi bj hi hj hne hr => ?_, fun g i hg => ?_⟩, fun B C hB => ⟨(hs.heap.fz B C hB).1, fun ⟨i, b, hi, hr, hb⟩ => ?_⟩⟩, ?_⟩,
    ⟨f.os, f.tape, f.output, f.size, cv.next, ⟨fun i hi => ?_, f.ext.fr, f.ext.new⟩, f.keep, fun B hB => ?_, cv.ro, cv.ron⟩⟩
  · obtain ⟨v1, h1, h2⟩ := cv.T t v ht
    obtain ⟨c, h3, h4⟩ := hs.tmps t v1 h1
    exact ⟨c, h3, h2.vrel h4⟩
  · obtain ⟨b1, h1, h2⟩ := cv.blk i b hb
    have hat := hs.heap.blk _ _ h1
    cases b with
    | row r z cs =>
      cases b1 with
      | mp r' es' => exact h2.elim
      | row r' z' cs' =>
        obtain ⟨rfl, rfl, hd, h3⟩ := h2
        obtain ⟨C, e, fz, hr⟩ := hat
        have hl : cs.length = cs'.length - δ i := by rw [h3.1, List.length_drop]
        refine ⟨C, e, fz, hr.at_, ?_, fun j v hj => ?_, hr.fr, fun g1 g2 => (by have := hr.ex g1 g2; simp only [renM]; omega)⟩
        · have := hr.fits
          simp only [renM]
          omega
        · have hj' : j < (cs'.drop (δ i)).length := by rw [← h3.1]; exact (List.getElem?_eq_some_iff.1 hj).1
          have hg : (cs'.drop (δ i))[j]? = some (cs'.drop (δ i))[j] := List.getElem?_eq_getElem hj'
          have hg2 := hg
          rw [List.getElem?_drop] at hg2
          obtain ⟨c, g1, g2⟩ := hr.cells _ _ hg2
          refine ⟨c, ?_, (h3.2 j v _ hj hg).vrel g2⟩
          simp only [renM]
          rw [Nat.add_assoc]; exact g1
    | mp r es =>
      cases b1 with
      | row r' z' cs' => exact h2.elim
      | mp r' es' =>
        obtain ⟨rfl, h3, h4⟩ := h2
        obtain ⟨E, clock, g1, g2, g3⟩ := hat
        exact ⟨E, clock, g1, h3.lrel g2, h4.lrel g3⟩
  · obtain ⟨b1, h1, h2⟩ := cv.blk i bi hi
    obtain ⟨b2, h3, h4⟩ := cv.blk j bj hj
    exact hs.heap.sep _ _ b1 b2 h1 h3 (fun e => hne (cv.inj i j bi bj hi hj e)) (h2.ro.trans hr)
  · obtain ⟨h1, h2, h3⟩ := cv.glob g i hg
    obtain ⟨_, h4, h5⟩ := hs.heap.glob g i hg
    refine ⟨h1, ?_, ?_⟩
    · simp only [renM, h2]; exact h4
    · simp only [renM, h2, h3]; omega
  · obtain ⟨b1, h1, h2⟩ := cv.blk i b hi
    exact (hs.heap.fz B C hB).2 ⟨ρ i, b1, h1, h2.ro.trans hr, hb⟩
  · have := hs.ds
    rw [cv.ds1] at this
    rw [cv.ds2, this.nilInv]
    exact .nil
  · obtain ⟨h1, h2⟩ := cv.fix i hi
    simp only [renM, h1, h2, Nat.add_zero]
    exact f.ext.loc i hi
  · obtain ⟨i, b, hi, hr, hb⟩ := hB
    obtain ⟨b1, h1, h2⟩ := cv.blk i b hi
    exact f.own B ⟨ρ i, b1, h1, h2.ro.trans hr, hb⟩

/-- What is told of the one state holds where the other is (its blocks named otherwise, perhaps). -/
def Covers (gl : Nat → Option Nat) (hE : AH) (σ2 σ1 : St) : Prop := ∀ (μE μ1 : Mu) (wE w : World) (a : Act), HRel gl μE hE wE → SRel gl μ1 σ1 a w → Fr μE hE wE μ1 σ1.h w → ∃ μ2, SRel gl μ2 σ2 a w ∧ Fr μE hE wE μ2 σ2.h w

theorem Cov.covers {hE : AH} {ρ δ : Nat → Nat} {σ2 σ1 : St} (cv : Cov gl hE ρ δ σ2 σ1) : Covers gl hE σ2 σ1 := fun μE μ1 wE w a _ hs f => ⟨_, cv.apply hs f⟩

/-- Temporaries alone are forgotten. -/
theorem covers_T {hE : AH} {σ2 σ1 : St} (hn : σ1.n = σ2.n) (hT : ∀ (t : Nat) (v : Value), σ2.T.get t = some v → σ1.T.get t = some v) (hh : σ2.h = σ1.h) (hd : σ2.ds = σ1.ds) : Covers gl hE σ2 σ1 := by
  intro μE μ1 wE w a _ hs f
  obtain ⟨T2, n2, h2, d2⟩ := σ2
  obtain ⟨T1, n1, h1, d1⟩ := σ1
  dsimp only at hn hT hh hd
  subst hn hh hd
  exact ⟨μ1, ⟨hs.size, fun t v ht => hs.tmps t v (hT t v ht), hs.heap, hs.ds⟩, f⟩

theorem loop_rule (hreg : RegOK P gl reg) (hcall : CallOK P gl call) {hE : AH} {LO : LoopA} {c : Code} (hl : LoopsOK P gl hE LO (loopsOf c)) {X : Type} (inv : X → St) (m : X → Nat) (out : X → XA × St)
    (step : ∀ x, ∃ y σ1, codeB P gl reg call LO c (inv x) = some (y, σ1) ∧
      ((y = .normal ∧ ∃ x', m x' < m x ∧ out x' = out x ∧ Covers gl hE (inv x') σ1) ∨ (y ≠ .normal ∧ (out x).1 = y ∧ Covers gl hE (out x).2 σ1))) :
    ∀ x, LoopTri P gl hE c (inv x) (out x).1 (out x).2 := by
  intro x μE wE μ a w hE0 hs hf
  refine wp_loop_rounds (m x + 1) ?_
  have key : ∀ (k : Nat) (x : X) (μ : Mu) (a : Act) (w : World), m x < k → SRel gl μ (inv x) a w → Fr μE hE wE μ (inv x).h w → Code.rounds P c (PostE gl μE hE wE (out x).1 (out x).2) k a w := by
    intro k
    induction k with
    | zero => intro x μ a w hk; omega
    | succ k ih =>
      intro x μ a w hk hs hf
      rw [rounds_succ]
      obtain ⟨y, σ1, hc, hy⟩ := step x
      refine wp_mono (codeB_ok hreg hcall c hl _ _ _ hc μE wE μ a w hE0 hs hf) ?_
      rintro e a1 w1 ⟨rfl, μ1, hs1, hf1⟩
      rcases hy with ⟨rfl, x', h1, h2, h3⟩ | ⟨h1, h2, h3⟩
      · obtain ⟨μ2, g1, g2⟩ := h3 μE μ1 wE w1 a1 hE0 hs1 hf1
        rw [← h2]
        exact ih x' _ a1 w1 (by omega) g1 g2
      · obtain ⟨μ2, g1, g2⟩ := h3 μE μ1 wE w1 a1 hE0 hs1 hf1
        have fin : PostE gl μE hE wE (out x).1 (out x).2 y.to a1 w1 := ⟨by rw [h2], _, g1, g2⟩
        cases y with
        | normal => exact absurd rfl h1
        | exit id => exact fin
        | ret => exact fin
  exact key _ x μ a w (Nat.lt_succ_self _) hs hf

/-- Into a loop, from a state that knows more. -/
theorem LoopTri.enter {hE : AH} {c : Code} {σ0 σ : St} {x : XA} {σ' : St} (h : LoopTri P gl hE c σ0 x σ') (cv : Covers gl hE σ0 σ) : LoopTri P gl hE c σ x σ' := by
  intro μE wE μ a w hE0 hs hf
  obtain ⟨μ2, g1, g2⟩ := cv μE μ wE w a hE0 hs hf
  exact h μE wE _ a w hE0 g1 g2

/-- States of which some temporaries are known. -/
def mkT : List Nat → List Value → Tr Value
  | t :: ts, v :: vs => (mkT ts vs).set t (some v)
  | _, _ => .nil
def stT (ts : List Nat) (vs : List Value) (n : Nat) (h : AH) : St := ⟨mkT ts vs, n, h, []⟩
def picks : List Nat → Tr Value → Option (List Value)
  | [], _ => some []
  | t :: ts, T => match T.get t with
    | some v => match picks ts T with
      | some vs => some (v :: vs)
      | none => none
    | none => none

theorem picks_mkT : ∀ {ts : List Nat} {vs : List Value} {T : Tr Value}, picks ts T = some vs → ∀ (t : Nat) (v : Value), (mkT ts vs).get t = some v → T.get t = some v := by
  intro ts
  induction ts with
  | nil =>
    intro vs T h t v hv
    cases h
    simp [mkT, Tr.get_nil] at hv
  | cons u ts ih =>
    intro vs T h t v hv
    unfold picks at h
    split at h
    · rename_i x hx
      split at h
      · rename_i ws hw
        cases h
        rw [mkT, Tr.get_set] at hv
        split at hv
        · rename_i he
          cases hv
          rw [he]; exact hx
        · exact ih hw t v hv
      · cases h
    · cases h

/-- What a piece of code leaves, of some temporaries. -/
def finT (ts : List Nat) (x : XA) (σ : St) : Option (XA × List Value × AH × Nat) :=
  match σ.ds with
  | [] => match picks ts σ.T with
    | some vs => some (x, vs, σ.h, σ.n)
    | none => none
  | _ :: _ => none
def bodyRun (P : Program) (gl : Nat → Option Nat) (reg : CallA → Array Oper → St → Option St) (call : CallA) (LK : LoopK (XA × List Value × AH × Nat)) (c : Code) (σ : St) (ts : List Nat) : Option (XA × List Value × AH × Nat) :=
  codeBK P gl reg call (toK call) LK c σ (finT ts)

theorem bodyRun_some {LO : LoopA} {LK : LoopK (XA × List Value × AH × Nat)} (hL : LKok LO LK) {c : Code} {σ : St} {ts : List Nat} {y : XA} {vs : List Value} {h : AH} {n : Nat} (hr : bodyRun P gl reg call LK c σ ts = some (y, vs, h, n)) :
    ∃ σ1, codeB P gl reg call LO c σ = some (y, σ1) ∧ picks ts σ1.T = some vs ∧ σ1.h = h ∧ σ1.n = n ∧ σ1.ds = [] := by
  unfold bodyRun at hr
  rw [codeBK_eq (toK_ok call) hL] at hr
  split at hr
  · rename_i x σ1 hc
    unfold finT at hr
    split at hr
    · rename_i hd
      split at hr
      · rename_i ws hw
        cases hr
        exact ⟨σ1, hc, hw, rfl, rfl, hd⟩
      · cases hr
    · cases hr
  · cases hr

def mkHF : Nat → List Blk → Tr Blk → Tr Blk
  | _, [], t => t
  | i, b :: r, t => mkHF (i + 1) r (t.set i (some b))
theorem mkHF_get : ∀ (l : List Blk) (i : Nat) (t : Tr Blk) (j : Nat), (mkHF i l t).get j = if i ≤ j ∧ j < i + l.length then l[j - i]? else t.get j := by
  intro l
  induction l with
  | nil => intro i t j; simp only [mkHF, List.length_nil]; rw [if_neg (by omega)]
  | cons b r ih =>
    intro i t j
    simp only [mkHF, List.length_cons]
    rw [ih, Tr.get_set]
    by_cases h1 : i + 1 ≤ j ∧ j < i + 1 + r.length
    · rw [if_pos h1, if_pos (by omega)]
      have : j - i = (j - (i + 1)) + 1 := by omega
      rw [this, List.getElem?_cons_succ]
    · rw [if_neg h1]
      by_cases h2 : j = i
      · subst h2
        rw [if_pos rfl, if_pos (by omega), Nat.sub_self]; rfl
      · rw [if_neg h2, if_neg (by omega)]

def picksH : List Nat → AH → Option (List Blk)
  | [], _ => some []
  | i :: r, h => match h.get i with
    | some b => match picksH r h with
      | some l => some (b :: l)
      | none => none
    | none => none

theorem picksH_get : ∀ {ids : List Nat} {h : AH} {bs : List Blk}, picksH ids h = some bs → bs.length = ids.length ∧ ∀ (j : Nat) (b : Blk), bs[j]? = some b → ∃ i, ids[j]? = some i ∧ h.get i = some b := by
  intro ids
  induction ids with
  | nil => intro h bs hp; cases hp; exact ⟨rfl, fun j b hb => by simp at hb⟩
  | cons i r ih =>
    intro h bs hp
    unfold picksH at hp
    split at hp
    · rename_i b hb
      split at hp
      · rename_i l hl
        cases hp
        obtain ⟨h1, h2⟩ := ih hl
        refine ⟨by simp [h1], fun j c hc => ?_⟩
        cases j with
        | zero => simp at hc; subst hc; exact ⟨i, rfl, hb⟩
        | succ j => simpa using h2 j c (by simpa using hc)
      · cases hp
    · cases hp

theorem picks_get : ∀ {ts : List Nat} {vs : List Value} {T : Tr Value}, picks ts T = some vs → ∀ (us : List Value), us.length = vs.length → ∀ (t : Nat) (v : Value), (mkT ts us).get t = some v → ∃ (j : Nat) (v1 : Value), us[j]? = some v ∧ vs[j]? = some v1 ∧ T.get t = some v1 := by
  intro ts
  induction ts with
  | nil => intro vs T h us hl t v hv; cases us <;> simp [mkT, Tr.get_nil] at hv
  | cons u ts ih =>
    intro vs T h us hl t v hv
    unfold picks at h
    split at h
    · rename_i x hx
      split at h
      · rename_i ws hw
        cases h
        cases us with
        | nil => simp at hl
        | cons y us =>
          rw [mkT, Tr.get_set] at hv
          split at hv
          · rename_i he
            cases hv
            exact ⟨0, x, rfl, rfl, by rw [he]; exact hx⟩
          · obtain ⟨j, v1, h1, h2, h3⟩ := ih hw us (by simpa using hl) t v hv
            exact ⟨j + 1, v1, by simpa using h1, by simpa using h2, h3⟩
      · cases h
    · cases h

/-- What a piece of code leaves, of some temporaries and some blocks. -/
def finH (ts ids : List Nat) (x : XA) (σ : St) : Option (XA × List Value × List Blk × Nat) :=
  match σ.ds with
  | [] => match picks ts σ.T with
    | some vs => match picksH ids σ.h with
      | some bs => some (x, vs, bs, σ.n)
      | none => none
    | none => none
  | _ :: _ => none

def idx (l : List Nat) (i : Nat) : Nat := (l[i]?).getD 0

/-- The first region's number of a code. -/
def regId : Code → Option Nat
  | .region id _ _ => some id
  | .seq a b => match regId a with
    | some i => some i
    | none => regId b
  | .block _ c => regId c
  | .cond _ a b => match regId a with
    | some i => some i
    | none => regId b
  | .loop c => regId c
  | _ => none
def isReg (k : Nat) (c : Code) : Bool := match regId c with
  | some i => Nat.beq i k
  | none => false

/-- No loop is known. -/
def noLO : LoopA := fun _ _ => none
theorem noLO_ok {hE : AH} {l : List Code} : LoopsOK P gl hE noLO l := fun c _ σ x σ' h => by cases h

end Go.Proofs.YtachednafdmmaaaDoor.AI
