/- Shapes. -/
import Derived.Test.YtjmmdpfmnnemoaaSXb
import Derived.KernelRfl
namespace Go.Proofs.Ytjmmdpfmnnemoaa.AI
open Go Go.RowKit 
set_option linter.unusedVariables false
set_option linter.unusedSimpArgs false
theorem at3 (j : Nat) : 0 + Int.toNat (j : Int) * 3 = 3 * j := by rw [Int.toNat_natCast]; omega
theorem intAt_of {cs : List Value} {o : Nat} {kd : IntKind} {x : Int} (h : cs[o]? = some (.int kd x)) : isInt kd cs o = true ∧ intAt cs o = x := by
  refine ⟨?_, ?_⟩
  · unfold isInt; rw [h]; exact decide_eq_true rfl
  · unfold intAt; rw [h]
theorem el {S : List Sh} {j : Nat} {s : Sh} (h : S[j]? = some s) :
    isInt .i64 (flt S) (0 + Int.toNat (j : Int) * 3) = true ∧ isInt .i64 (flt S) (0 + Int.toNat (j : Int) * 3 + 1) = true ∧ isInt .u64 (flt S) (0 + Int.toNat (j : Int) * 3 + 1 + 1) = true ∧
    intAt (flt S) (0 + Int.toNat (j : Int) * 3) = s.1 ∧ intAt (flt S) (0 + Int.toNat (j : Int) * 3 + 1) = s.2.1 ∧ intAt (flt S) (0 + Int.toNat (j : Int) * 3 + 1 + 1) = (s.2.2 : Int) := by
  obtain ⟨h1, h2, h3⟩ := flt_cell h
  rw [at3]
  have a1 := intAt_of h1
  have a2 := intAt_of h2
  have a3 := intAt_of h3
  exact ⟨a1.1, a2.1, a3.1, a1.2, a2.2, a3.2⟩
abbrev xs3 (s : Sh) : List Value := [Value.int .i64 s.1, Value.int .i64 s.2.1, Value.int .u64 (s.2.2 : Int)]
theorem tT : tst True = true := tst_of trivial
/-- A state with shapes known, with other names for its blocks. -/
theorem covS {L n a b : Nat} {c cs ds : List Value} {i : Int} {es : List (Value × Value)} {σ1 : St} (hc : ∀ x ∈ c, GVal x) (hcs : ∀ x ∈ cs, GVal x) (hds : ∀ x ∈ ds, GVal x) (hes : ∀ e ∈ es, GVal e.1 ∧ GVal e.2) (hn : σ1.n = 144) (hd : σ1.ds = []) (hab : [0, 1, a, b].Nodup)
    (hp : picks [0,3,4,5] σ1.T = some [gslV L 0 false c, p0, .slice (some ⟨b, 0, none⟩) n 1, iv i]) (hb : picksH [0, 1, a, b] σ1.h = some [.row false 1 [.slice (some ⟨a, 0, none⟩) n 1, .map (some 1)], .mp false es, .row false 3 cs, .row false 3 ds]) :
    Covers (glV lq) (hV lq) (stT [0,3,4,5] [gslV L 0 false c, p0, kn n, iv i] 144 (mkHV lq (b1 n es cs ds))) σ1 := by
  refine covers_HV (l := lq) lq_g (ids := [0, 1, a, b]) (dl := [0, 0, 0, 0]) hn hd hp hb rfl ?_ ?_ hab (fun i _ => Nat.zero_le i) ?_
  · exact .cons (.gv _ (.gsl _ _ _ _ hc)) (.cons (.ptr 0 0 0 (show 0 < 4 by decide) rfl) (.cons (.slc 3 0 0 n 1 (show 3 < 4 by decide) rfl) (.cons (.plain _ rfl) .nil)))
  · intro j x0 x1 h0 h1
    match j with
    | 0 => cases h0; cases h1; exact ⟨rfl, rfl, Nat.zero_le _, .cons (.slc 2 0 0 n 1 (show 2 < 4 by decide) rfl) (.cons (.mp 1 (show 1 < 4 by decide)) .nil)⟩
    | 1 => cases h0; cases h1; exact ⟨rfl, ⟨rfl, fun i x y hx hy => by rw [hx] at hy; cases hy; obtain ⟨e, he, rfl⟩ := List.mem_map.1 (List.mem_of_getElem? hx); exact .gv _ (hes e he).1⟩, ⟨rfl, fun i x y hx hy => by rw [hx] at hy; cases hy; obtain ⟨e, he, rfl⟩ := List.mem_map.1 (List.mem_of_getElem? hx); exact .gv _ (hes e he).2⟩⟩
    | 2 => cases h0; cases h1; exact ⟨rfl, rfl, Nat.zero_le _, ⟨rfl, fun i x y hx hy => by have hy : cs[i]? = some y := hy; rw [hx] at hy; cases hy; exact .gv _ (hcs _ (List.mem_of_getElem? hx))⟩⟩
    | 3 => cases h0; cases h1; exact ⟨rfl, rfl, Nat.zero_le _, ⟨rfl, fun i x y hx hy => by have hy : ds[i]? = some y := hy; rw [hx] at hy; cases hy; exact .gv _ (hds _ (List.mem_of_getElem? hx))⟩⟩
    | j + 4 => cases h0
  · intro x hx
    simp only [List.mem_cons, List.not_mem_nil, or_false] at hx
    rcases hx with rfl | rfl | rfl | rfl <;> rfl
theorem covS0 {L : Nat} {c : List Value} {i : Int} {σ1 : St} (hc : ∀ x ∈ c, GVal x) (hn : σ1.n = 144) (hd : σ1.ds = []) (hp : picks [0,3,4,5] σ1.T = some [gslV L 0 false c, p0, .slice none 0 0, iv i]) (hb : picksH [0, 1] σ1.h = some b0) :
    Covers (glV lq) (hV lq) (stT [0,3,4,5] [gslV L 0 false c, p0, .slice none 0 0, iv i] 144 (mkHV lq b0)) σ1 := by
  refine covers_HV (l := lq) lq_g (ids := [0, 1]) (dl := [0, 0]) hn hd hp hb rfl ?_ ?_ (by decide) (fun i _ => Nat.zero_le i) ?_
  · exact .cons (.gv _ (.gsl _ _ _ _ hc)) (.cons (.ptr 0 0 0 (show 0 < 2 by decide) rfl) (.cons (.plain _ rfl) (.cons (.plain _ rfl) .nil)))
  · intro j x0 x1 h0 h1
    match j with
    | 0 => cases h0; cases h1; exact ⟨rfl, rfl, Nat.zero_le _, .cons (.plain _ rfl) (.cons (.mp 1 (show 1 < 2 by decide)) .nil)⟩
    | 1 => cases h0; cases h1; exact ⟨rfl, .nil, .nil⟩
    | j + 2 => cases h0
  · intro x hx
    simp only [List.mem_cons, List.not_mem_nil, or_false] at hx
    rcases hx with rfl | rfl <;> rfl
/-- The state when the shapes K are known, at the i-th shape of S. -/
def SS (S : List Sh) (K : List Sh) (i : Nat) : St := match K with
  | [] => stT [0,3,4,5] [gslV S.length 0 false (flt S), p0, .slice none 0 0, iv (i : Int)] 144 (mkHV lq b0)
  | s :: K => stT [0,3,4,5] [gslV S.length 0 false (flt S), p0, kn (s :: K).length, iv (i : Int)] 144 (mkHV lq (b1 (s :: K).length (ents 0 (s :: K)) (flt (s :: K)) (flt (s :: K))))
theorem SS_ne {S K : List Sh} {i : Nat} (h : K ≠ []) : SS S K i = stT [0,3,4,5] [gslV S.length 0 false (flt S), p0, kn K.length, iv (i : Int)] 144 (mkHV lq (b1 K.length (ents 0 K) (flt K) (flt K))) := by
  cases K with
  | nil => exact absurd rfl h
  | cons s K => rfl
/-- A shape more. -/
noncomputable def nx (s : Sh) (K : List Sh) : List Sh := bif gd s.1 s.2.1 (s.2.2 : Int) then (if s ∈ K then K else K ++ [s]) else K
noncomputable abbrev CBk (call : CallA) (LO : LoopA) (σ : St) := codeB Try.prog (glV lq) (regF Try.prog (glV lq)) call LO (loopN Try.f5 0) σ
theorem wj (j : Nat) (h : j < 2 ^ 62) : IntKind.wrap IntKind.i64 ((j : Int) + 1) = ((j + 1 : Nat) : Int) := by rw [i64w]; omega
/-- A shape that is bad. -/
theorem stepX {S K : List Sh} {j : Nat} {s : Sh} (h : S[j]? = some s) (hS : S.length ≤ 60) (hm : s.2.2 < 2 ^ 64) (hg : gd s.1 s.2.1 (s.2.2 : Int) = false) :
    ∃ σ1, CBk (cAb false) noLO (SS S K j) = some (.normal, σ1) ∧ Covers (glV lq) (hV lq) (SS S K (j + 1)) σ1 := by
  have hj : j < S.length := (List.getElem?_eq_some_iff.1 h).1
  obtain ⟨a1, a2, a3, a4, a5, a6⟩ := el h
  have ht : tst (0 ≤ (s.2.2 : Int) ∧ (s.2.2 : Int) < 2 ^ 64 ∧ gd s.1 s.2.1 (s.2.2 : Int) = false) = true := tst_of ⟨by omega, by omega, hg⟩
  have d1 : decide ((j : Int) < (S.length : Int)) = true := decide_eq_true (by omega)
  have d2 : decide ((0 : Int) ≤ (j : Int)) = true := decide_eq_true (by omega)
  have i2 : intAt (xs3 s) 2 = (s.2.2 : Int) := rfl
  have i1 : intAt (xs3 s) 1 = s.2.1 := rfl
  have i0 : intAt (xs3 s) 0 = s.1 := rfl
  have c9 := wj j (by omega)
  cases K with
  | nil =>
    have hh := tX0 S.length (flt S) (j : Int)
    simp only [a1, a2, a3, a4, a5, a6, d1, d2, i0, i1, i2, ht, Bool.and_self, Bool.and_true, cond_true, cond_false, c9, bne_self_eq_false] at hh
    obtain ⟨σ1, g1, g2, g3, g4, g5⟩ := finHG_some (cKb_ok false) noLK_ok hh
    exact ⟨σ1, g1, covS0 (flt_g S) g4 g5 g2 g3⟩
  | cons t K =>
    have hh := tX S.length (t :: K).length (flt S) (flt (t :: K)) (flt (t :: K)) (j : Int) (ents 0 (t :: K))
    simp only [a1, a2, a3, a4, a5, a6, d1, d2, i0, i1, i2, ht, Bool.and_self, Bool.and_true, cond_true, cond_false, c9, bne_self_eq_false] at hh
    obtain ⟨σ1, g1, g2, g3, g4, g5⟩ := finHG_some (cKb_ok false) noLK_ok hh
    exact ⟨σ1, g1, covS (flt_g S) (flt_g _) (flt_g _) (ents_g _ _) g4 g5 (by decide) g2 g3⟩
/-- The end. -/
theorem stepZ {S K : List Sh} : ∃ σ1, CBk (cAb false) noLO (SS S K S.length) = some (.exit 0, σ1) ∧ Covers (glV lq) (hV lq) (SS S K S.length) σ1 := by
  have d1 : decide ((S.length : Int) < (S.length : Int)) = false := decide_eq_false (Int.lt_irrefl _)
  cases K with
  | nil =>
    have hh := tX0 S.length (flt S) (S.length : Int)
    simp only [d1, cond_false] at hh
    obtain ⟨σ1, g1, g2, g3, g4, g5⟩ := finHG_some (cKb_ok false) noLK_ok hh
    exact ⟨σ1, g1, covS0 (flt_g S) g4 g5 g2 g3⟩
  | cons t K =>
    have hh := tX S.length (t :: K).length (flt S) (flt (t :: K)) (flt (t :: K)) (S.length : Int) (ents 0 (t :: K))
    simp only [d1, cond_false] at hh
    obtain ⟨σ1, g1, g2, g3, g4, g5⟩ := finHG_some (cKb_ok false) noLK_ok hh
    exact ⟨σ1, g1, covS (flt_g S) (flt_g _) (flt_g _) (ents_g _ _) g4 g5 (by decide) g2 g3⟩
/-- A state of the inner loop. -/
abbrev vI (l : Value) (n : Nat) (i N a k : Int) : List Value := [l, p0, kn n, iv i, iv N, iv a, iv k]
theorem inner_reg : loopsOf (loopN Try.f5 0) = [inn] := by kernel_rfl
theorem inn_loops : loopsOf inn = [] := by kernel_rfl
theorem covI {L m n b : Nat} {c cs ds : List Value} {i N a k : Int} {es : List (Value × Value)} {σ1 : St} (hc : ∀ x ∈ c, GVal x) (hcs : ∀ x ∈ cs, GVal x) (hds : ∀ x ∈ ds, GVal x) (hes : ∀ e ∈ es, GVal e.1 ∧ GVal e.2) (hn : σ1.n = 144) (hd : σ1.ds = []) (hab : [0, 1, b, 3].Nodup)
    (hp : picks tsI σ1.T = some (vI (gslV L 0 false c) n i N a k)) (hb : picksH [0, 1, b, 3] σ1.h = some [.row false 1 [.slice (some ⟨b, 0, none⟩) m 1, .map (some 1)], .mp false es, .row false 3 cs, .row false 3 ds]) :
    Covers (glV lq) (hV lq) (stT tsI (vI (gslV L 0 false c) n i N a k) 144 (mkHV lq (b2 m n es cs ds))) σ1 := by
  refine covers_HV (l := lq) lq_g (ids := [0, 1, b, 3]) (dl := [0, 0, 0, 0]) hn hd hp hb rfl ?_ ?_ hab (fun i _ => Nat.zero_le i) ?_
  · exact .cons (.gv _ (.gsl _ _ _ _ hc)) (.cons (.ptr 0 0 0 (show 0 < 4 by decide) rfl) (.cons (.slc 3 0 0 n 1 (show 3 < 4 by decide) rfl) (.cons (.plain _ rfl) (.cons (.plain _ rfl) (.cons (.plain _ rfl) (.cons (.plain _ rfl) .nil))))))
  · intro j x0 x1 h0 h1
    match j with
    | 0 => cases h0; cases h1; exact ⟨rfl, rfl, Nat.zero_le _, .cons (.slc 2 0 0 m 1 (show 2 < 4 by decide) rfl) (.cons (.mp 1 (show 1 < 4 by decide)) .nil)⟩
    | 1 => cases h0; cases h1; exact ⟨rfl, ⟨rfl, fun i x y hx hy => by rw [hx] at hy; cases hy; obtain ⟨e, he, rfl⟩ := List.mem_map.1 (List.mem_of_getElem? hx); exact .gv _ (hes e he).1⟩, ⟨rfl, fun i x y hx hy => by rw [hx] at hy; cases hy; obtain ⟨e, he, rfl⟩ := List.mem_map.1 (List.mem_of_getElem? hx); exact .gv _ (hes e he).2⟩⟩
    | 2 => cases h0; cases h1; exact ⟨rfl, rfl, Nat.zero_le _, ⟨rfl, fun i x y hx hy => by have hy : cs[i]? = some y := hy; rw [hx] at hy; cases hy; exact .gv _ (hcs _ (List.mem_of_getElem? hx))⟩⟩
    | 3 => cases h0; cases h1; exact ⟨rfl, rfl, Nat.zero_le _, ⟨rfl, fun i x y hx hy => by have hy : ds[i]? = some y := hy; rw [hx] at hy; cases hy; exact .gv _ (hds _ (List.mem_of_getElem? hx))⟩⟩
    | j + 4 => cases h0
  · intro x hx
    simp only [List.mem_cons, List.not_mem_nil, or_false] at hx
    rcases hx with rfl | rfl | rfl | rfl <;> rfl
/-- What the inner loop finds. -/
def fa (s : Sh) (K : List Sh) : Int := if s ∈ K then ((pos s K : Nat) : Int) else -1
def fk (s : Sh) (K : List Sh) : Int := if s ∈ K then ((pos s K + 1 : Nat) : Int) else (K.length : Int)
theorem before_pos {s : Sh} : ∀ {K : List Sh} {k : Nat} {t : Sh}, k < pos s K → K[k]? = some t → t ≠ s := by
  intro K
  induction K with
  | nil => intro k t h; exact absurd h (Nat.not_lt_zero k)
  | cons u K ih =>
    intro k t h ht
    rw [pos_cons] at h
    by_cases e : u = s
    · rw [if_pos e] at h; exact absurd h (Nat.not_lt_zero k)
    · rw [if_neg e] at h
      cases k with
      | zero => cases ht; exact e
      | succ k => exact ih (k := k) (by omega) (by simpa using ht)
theorem loopI {S K : List Sh} {j : Nat} {s : Sh} (h : S[j]? = some s) (hS : S.length ≤ 60) (hK : K.length ≤ 60) (m : Nat) (N : Int) {cs : List Value} {es : List (Value × Value)} (hcs : ∀ x ∈ cs, GVal x) (hes : ∀ e ∈ es, GVal e.1 ∧ GVal e.2) :
    LoopTri Try.prog (glV lq) (hV lq) inn (stT tsI (vI (gslV S.length 0 false (flt S)) K.length (j : Int) N (-1) 0) 144 (mkHV lq (b2 m K.length es cs (flt K)))) (.exit 2) (stT tsI (vI (gslV S.length 0 false (flt S)) K.length (j : Int) N (fa s K) (fk s K)) 144 (mkHV lq (b2 m K.length es cs (flt K)))) := by
  have hj : j < S.length := (List.getElem?_eq_some_iff.1 h).1
  obtain ⟨a1, a2, a3, a4, a5, a6⟩ := el h
  have d1 : decide ((j : Int) < (S.length : Int)) = true := decide_eq_true (by omega)
  have d2 : decide ((0 : Int) ≤ (j : Int)) = true := decide_eq_true (by omega)
  have hP := pos_le s K
  have hl : LoopsOK Try.prog (glV lq) (hV lq) noLO (loopsOf inn) := noLO_ok
  -- how a round goes
  have hstop : ∀ (a k : Int), (¬ k < (K.length : Int) ∨ ¬ a < 0) → RIn tsI [0,1,2,3] (vI (gslV S.length 0 false (flt S)) K.length j N a k) (mkHV lq (b2 m K.length es cs (flt K))) = some (.exit 2, vI (gslV S.length 0 false (flt S)) K.length j N a k, b2 m K.length es cs (flt K), 144) := by
    intro a k hak
    refine (tI S.length m K.length (flt S) cs (flt K) j N a k es).trans ?_
    by_cases hk : k < (K.length : Int)
    · have ha : ¬ a < 0 := hak.resolve_left fun h => h hk
      rw [decide_eq_true hk, decide_eq_false ha]; rfl
    · rw [decide_eq_false hk]; rfl
  have hgo : ∀ (k : Nat) (t : Sh), K[k]? = some t → RIn tsI [0,1,2,3] (vI (gslV S.length 0 false (flt S)) K.length j N (-1) k) (mkHV lq (b2 m K.length es cs (flt K))) =
      some (.normal, vI (gslV S.length 0 false (flt S)) K.length j N (if t = s then (k : Int) else -1) ((k + 1 : Nat) : Int), b2 m K.length es cs (flt K), 144) := by
    intro k t ht
    have hk : k < K.length := (List.getElem?_eq_some_iff.1 ht).1
    refine (tI S.length m K.length (flt S) cs (flt K) j N (-1) k es).trans ?_
    have e1 : Nat.ble (0 + Int.toNat (k : Int) * 3 + 3) (flt K).length = true := ble_t (by rw [at3, flt_len]; omega)
    have e2 : List.take 3 (List.drop (0 + Int.toNat (k : Int) * 3) (flt K)) = cl t := by rw [at3]; exact flt_at ht
    have e3 := eqOk_is t s
    have e4 := eqB_is t s
    have c9 := wj k (by omega)
    have d3 : decide ((k : Int) < (K.length : Int)) = true := decide_eq_true (by omega)
    have d4 : decide ((0 : Int) ≤ (k : Int)) = true := decide_eq_true (by omega)
    have d5 : decide ((-1 : Int) < 0) = true := by decide
    simp only [d1, d2, d3, d4, d5, a1, a2, a3, a4, a5, a6, e1, e2, c9, Bool.and_self, Bool.and_true, cond_true]
    rw [show eqOkB Try.prog _ (cl t) [Value.int IntKind.i64 s.1, Value.int IntKind.i64 s.2.1, Value.int IntKind.u64 (s.2.2 : Int)] = true from e3, show eqB Try.prog _ (cl t) [Value.int IntKind.i64 s.1, Value.int IntKind.i64 s.2.1, Value.int IntKind.u64 (s.2.2 : Int)] = decide (t = s) from e4]
    by_cases e : t = s
    · rw [if_pos e, decide_eq_true e]; rfl
    · rw [if_neg e, decide_eq_false e]; rfl
  have cov : ∀ {a k : Int} {σ1 : St}, σ1.n = 144 → σ1.ds = [] → picks tsI σ1.T = some (vI (gslV S.length 0 false (flt S)) K.length j N a k) → picksH [0,1,2,3] σ1.h = some (b2 m K.length es cs (flt K)) →
      Covers (glV lq) (hV lq) (stT tsI (vI (gslV S.length 0 false (flt S)) K.length j N a k) 144 (mkHV lq (b2 m K.length es cs (flt K)))) σ1 :=
    fun hn hd hp hb => covI (flt_g S) hcs (flt_g K) hes hn hd (by decide) hp hb
  have main := loop_rule (P := Try.prog) (X := Option {k : Nat // k ≤ pos s K}) (regF_ok hmix) cA5_ok hl (c := inn) (hE := hV lq)
    (fun x => match x with
      | some k => stT tsI (vI (gslV S.length 0 false (flt S)) K.length (j : Int) N (-1) (k.1 : Int)) 144 (mkHV lq (b2 m K.length es cs (flt K)))
      | none => stT tsI (vI (gslV S.length 0 false (flt S)) K.length (j : Int) N ((pos s K : Nat) : Int) ((pos s K + 1 : Nat) : Int)) 144 (mkHV lq (b2 m K.length es cs (flt K))))
    (fun x => match x with
      | some k => pos s K + 1 - k.1
      | none => 0)
    (fun x => match x with
      | some _ => (.exit 2, stT tsI (vI (gslV S.length 0 false (flt S)) K.length (j : Int) N (fa s K) (fk s K)) 144 (mkHV lq (b2 m K.length es cs (flt K))))
      | none => (.exit 2, stT tsI (vI (gslV S.length 0 false (flt S)) K.length (j : Int) N (if s ∈ K then fa s K else ((pos s K : Nat) : Int)) (if s ∈ K then fk s K else ((pos s K + 1 : Nat) : Int))) 144 (mkHV lq (b2 m K.length es cs (flt K)))))
    ?_ (some ⟨0, Nat.zero_le _⟩)
  · exact main
  · rintro (_ | ⟨k, hk⟩)
    · dsimp only
      obtain ⟨σ1, g1, g2, g3, g4, g5⟩ := finHG_some cK5_ok noLK_ok (hstop ((pos s K : Nat) : Int) ((pos s K + 1 : Nat) : Int) (.inr (by omega)))
      refine ⟨_, σ1, g1, .inr ⟨by simp, rfl, ?_⟩⟩
      by_cases hs : s ∈ K
      · rw [if_pos hs, if_pos hs]
        unfold fa fk
        rw [if_pos hs, if_pos hs]
        exact cov g4 g5 g2 g3
      · rw [if_neg hs, if_neg hs]; exact cov g4 g5 g2 g3
    · dsimp only
      by_cases hkn : k < K.length
      · obtain ⟨t, ht⟩ : ∃ t, K[k]? = some t := ⟨_, List.getElem?_eq_getElem hkn⟩
        have hg := hgo k t ht
        by_cases e : t = s
        · have hs : s ∈ K := e ▸ List.mem_of_getElem? ht
          have hkp : k = pos s K := by
            by_cases hlt : k < pos s K
            · exact absurd e (before_pos hlt ht)
            · omega
          rw [if_pos e] at hg
          obtain ⟨σ1, g1, g2, g3, g4, g5⟩ := finHG_some cK5_ok noLK_ok hg
          refine ⟨_, σ1, g1, .inl ⟨rfl, none, by dsimp only; omega, ?_, ?_⟩⟩
          · dsimp only; rw [if_pos hs, if_pos hs]
          · subst hkp
            exact cov g4 g5 g2 g3
        · have hkp : k < pos s K := by
            have h1 : k ≠ pos s K := fun e1 => by
              by_cases hs : s ∈ K
              · have := (pos_lt hs).2
                rw [← e1, ht] at this
                exact e (Option.some.inj this)
              · rw [pos_no hs] at e1; omega
            omega
          rw [if_neg e] at hg
          obtain ⟨σ1, g1, g2, g3, g4, g5⟩ := finHG_some cK5_ok noLK_ok hg
          refine ⟨_, σ1, g1, .inl ⟨rfl, some ⟨k + 1, hkp⟩, by dsimp only; omega, rfl, ?_⟩⟩
          exact cov g4 g5 g2 g3
      · have hs : s ∉ K := fun hs => by have := (pos_lt hs).1; omega
        have hkK : k = K.length := by omega
        obtain ⟨σ1, g1, g2, g3, g4, g5⟩ := finHG_some cK5_ok noLK_ok (hstop (-1) (k : Int) (.inl (by omega)))
        refine ⟨_, σ1, g1, .inr ⟨by simp, rfl, ?_⟩⟩
        unfold fa fk
        rw [if_neg hs, if_neg hs, show (K.length : Int) = (k : Int) by omega]
        exact cov g4 g5 g2 g3
theorem loI_ok {S K : List Sh} {j : Nat} {s : Sh} (h : S[j]? = some s) (hS : S.length ≤ 60) (hK : K.length ≤ 60) (m b : Nat) (N : Int) {cs : List Value} {es : List (Value × Value)} (hcs : ∀ x ∈ cs, GVal x) (hes : ∀ e ∈ es, GVal e.1 ∧ GVal e.2) (hab : [0, 1, b, 3].Nodup) :
    LoopsOK Try.prog (glV lq) (hV lq) (loI [0, 1, b, 3] (vI (gslV S.length 0 false (flt S)) K.length (j : Int) N (-1) 0) [.row false 1 [.slice (some ⟨b, 0, none⟩) m 1, .map (some 1)], .mp false es, .row false 3 cs, .row false 3 (flt K)]
      (vI (gslV S.length 0 false (flt S)) K.length (j : Int) N (fa s K) (fk s K)) (b2 m K.length es cs (flt K))) (loopsOf (loopN Try.f5 0)) := by
  refine loQ_ok (fun c' hc _ σ vs x' σ' hd hp h' => ?_) noLO_ok
  rw [inner_reg, List.mem_singleton] at hc
  subst hc
  unfold fI at h'
  split at h'
  · rename_i xs hx
    simp only [Option.some.injEq, Prod.mk.injEq] at h'
    obtain ⟨ht, rfl, rfl⟩ := h'
    obtain ⟨rfl, rfl, hn⟩ := of_tst ht
    exact (loopI h hS hK m N hcs hes).enter (covI (flt_g S) hcs (flt_g K) hes hn hd hab hp hx)
  · cases h'
theorem stepD {S K : List Sh} {j : Nat} {s : Sh} (h : S[j]? = some s) (hS : S.length ≤ 60) (hK : K.length ≤ 60) (hm : s.2.2 < 2 ^ 64) (hg : gd s.1 s.2.1 (s.2.2 : Int) = true) (hs : s ∈ K) :
    ∃ LO, LoopsOK Try.prog (glV lq) (hV lq) LO (loopsOf (loopN Try.f5 0)) ∧ ∃ σ1, CBk (cAb true) LO (SS S K j) = some (.normal, σ1) ∧ Covers (glV lq) (hV lq) (SS S K (j + 1)) σ1 := by
  have hj : j < S.length := (List.getElem?_eq_some_iff.1 h).1
  have hne : K ≠ [] := fun e => by rw [e] at hs; simp at hs
  obtain ⟨a1, a2, a3, a4, a5, a6⟩ := el h
  obtain ⟨hp1, hp2⟩ := pos_lt hs
  have ht : tst (0 ≤ (s.2.2 : Int) ∧ (s.2.2 : Int) < 2 ^ 64 ∧ gd s.1 s.2.1 (s.2.2 : Int) = true) = true := tst_of ⟨by omega, by omega, hg⟩
  have d1 : decide ((j : Int) < (S.length : Int)) = true := decide_eq_true (by omega)
  have d2 : decide ((0 : Int) ≤ (j : Int)) = true := decide_eq_true (by omega)
  have d3 : decide (((pos s K : Nat) : Int) ≥ (K.length : Int)) = false := decide_eq_false (by omega)
  have d4 : decide (((pos s K : Nat) : Int) < (K.length : Int)) = true := decide_eq_true (by omega)
  have i2 : intAt (xs3 s) 2 = (s.2.2 : Int) := rfl
  have i1 : intAt (xs3 s) 1 = s.2.1 := rfl
  have i0 : intAt (xs3 s) 0 = s.1 := rfl
  have c9 := wj j (by omega)
  have m1 : fMiss Try.prog 32 (Value.agg ⟨xs3 s⟩) (ents 0 K) = false := by
    have := miss_is s K
    rw [decide_eq_true hs] at this
    exact this
  have m2 : fGot Try.prog 32 (Value.agg ⟨xs3 s⟩) (ents 0 K) = [Value.int .i64 ((pos s K : Nat) : Int)] := got_is hs
  have m3 : isInt .i64 [Value.int .i64 ((pos s K : Nat) : Int)] 0 = true := rfl
  have m4 : intAt [Value.int .i64 ((pos s K : Nat) : Int)] 0 = ((pos s K : Nat) : Int) := rfl
  have g1 : List.take 3 (List.drop (0 + Int.toNat ((pos s K : Nat) : Int) * 3) (flt K)) = xs3 s := by rw [at3]; exact flt_at hp2
  have g0 : Nat.ble (0 + Int.toNat ((pos s K : Nat) : Int) * 3 + 3) (flt K).length = true := ble_t (by rw [at3, flt_len]; omega)
  have g2 : (xs3 s).length = 3 := rfl
  have g3 : List.drop (0 + 3) [Value.int .i64 0, Value.int .i64 0, Value.int .u64 0] = [] := rfl
  have g4 : List.take 3 (xs3 s) = xs3 s := rfl
  have g5 : (xs3 s).all one1 = true := rfl
  have b33 : Nat.beq 3 3 = true := rfl
  have l33 : Nat.ble 3 3 = true := rfl
  have l03 : Nat.ble (0 + 3) 3 = true := rfl
  have q1 : eqOkB Try.prog fds (xs3 s) (xs3 s) = true := eqOk_is s s
  have q2 : eqB Try.prog fds (xs3 s) (xs3 s) = true := by have := eqB_is s s; rw [decide_eq_true rfl] at this; exact this
  have hh := tD S.length K.length (flt S) (flt K) (flt K) (j : Int) ((pos s K + 1 : Nat) : Int) (pos s K) (pos s K) (ents 0 K) (vI (gslV S.length 0 false (flt S)) K.length (j : Int) ((pos s K : Nat) : Int) (-1) 0) (b1 K.length (ents 0 K) (flt K) (flt K))
  simp only [a1, a2, a3, a4, a5, a6, d1, d2, d3, d4, i0, i1, i2, ht, m1, m2, m3, m4, g0, g1, g2, g3, g4, g5, b33, l33, l03, q1, q2, List.append_nil, eq_self_iff_true, and_self, tT, Bool.and_self, Bool.and_true, Bool.not_true, cond_true, cond_false, c9, bne_self_eq_false] at hh
  have hl := loI_ok h hS hK K.length 2 ((pos s K : Nat) : Int) (flt_g K) (ents_g K 0) (by decide)
  have e1 : fa s K = ((pos s K : Nat) : Int) := if_pos hs
  have e2 : fk s K = ((pos s K + 1 : Nat) : Int) := if_pos hs
  rw [e1, e2] at hl
  refine ⟨_, hl, ?_⟩
  rw [SS_ne hne, SS_ne hne]
  obtain ⟨σ1, w1, w2, w3, w4, w5⟩ := finHG_some (cKb_ok true) (lkQ_ok noLK_ok) hh
  exact ⟨σ1, w1, covS (flt_g S) (flt_g _) (flt_g _) (ents_g _ _) w4 w5 (by decide) w2 w3⟩
theorem stepE {S K : List Sh} {j : Nat} {s : Sh} (h : S[j]? = some s) (hS : S.length ≤ 60) (hK : K.length ≤ 60) (hm : s.2.2 < 2 ^ 64) (hg : gd s.1 s.2.1 (s.2.2 : Int) = true) (hs : s ∉ K) (hne : K ≠ []) :
    ∃ LO, LoopsOK Try.prog (glV lq) (hV lq) LO (loopsOf (loopN Try.f5 0)) ∧ ∃ σ1, CBk (cAb true) LO (SS S K j) = some (.normal, σ1) ∧ Covers (glV lq) (hV lq) (SS S (K ++ [s]) (j + 1)) σ1 := by
  have hj : j < S.length := (List.getElem?_eq_some_iff.1 h).1
  have hne2 : K ++ [s] ≠ [] := by simp
  have hlen : (K ++ [s]).length = K.length + 1 := by simp
  obtain ⟨a1, a2, a3, a4, a5, a6⟩ := el h
  have ht : tst (0 ≤ (s.2.2 : Int) ∧ (s.2.2 : Int) < 2 ^ 64 ∧ gd s.1 s.2.1 (s.2.2 : Int) = true) = true := tst_of ⟨by omega, by omega, hg⟩
  have d1 : decide ((j : Int) < (S.length : Int)) = true := decide_eq_true (by omega)
  have d2 : decide ((0 : Int) ≤ (j : Int)) = true := decide_eq_true (by omega)
  have d3 : decide ((K.length : Int) ≥ ((K.length + 1 : Nat) : Int)) = false := decide_eq_false (by omega)
  have d4 : decide ((K.length : Int) < ((K.length + 1 : Nat) : Int)) = true := decide_eq_true (by omega)
  have d5 : ((K.length : Int) == 65536) = false := by rw [beq_eq_false_iff_ne]; omega
  have i2 : intAt (xs3 s) 2 = (s.2.2 : Int) := rfl
  have i1 : intAt (xs3 s) 1 = s.2.1 := rfl
  have i0 : intAt (xs3 s) 0 = s.1 := rfl
  have c9 := wj j (by omega)
  have c8 : IntKind.wrap IntKind.i64 (((K.length + 1 : Nat) : Int) - 1) = (K.length : Int) := by rw [i64w]; omega
  have m1 : fMiss Try.prog 32 (Value.agg ⟨xs3 s⟩) (ents 0 K) = true := by
    have := miss_is s K
    rw [decide_eq_false hs] at this
    exact this
  have m2 : ents 0 K ++ [(Value.agg ⟨xs3 s⟩, Value.int .i64 (K.length : Int))] = ents 0 (K ++ [s]) := by
    have := ents_snoc K 0 s
    rw [Nat.zero_add] at this
    exact this
  have n1 : Nat.ble (K.length + 1) 4294967296 = true := ble_t (by omega)
  have n2 : Nat.ble (0 + K.length * 3) (flt K).length = true := ble_t (by rw [flt_len]; omega)
  have n3 : Nat.beq (0 + K.length * 3) (flt K).length = true := beq_t (by rw [flt_len]; omega)
  have n4 : List.take (K.length * 3) (flt K) = flt K := List.take_of_length_le (by rw [flt_len]; omega)
  have n5 : flt K ++ xs3 s = flt (K ++ [s]) := by rw [flt_append]; rfl
  have hat : (K ++ [s])[K.length]? = some s := by simp
  have g1 : List.take 3 (List.drop (0 + Int.toNat (K.length : Int) * 3) (flt (K ++ [s]))) = xs3 s := by rw [at3]; exact flt_at hat
  have g0 : Nat.ble (0 + Int.toNat (K.length : Int) * 3 + 3) (flt (K ++ [s])).length = true := ble_t (by rw [at3, flt_len, hlen]; omega)
  have g2 : (xs3 s).length = 3 := rfl
  have g3 : List.drop (0 + 3) [Value.int .i64 0, Value.int .i64 0, Value.int .u64 0] = [] := rfl
  have g4 : List.take 3 (xs3 s) = xs3 s := rfl
  have g5 : (xs3 s).all one1 = true := rfl
  have b33 : Nat.beq 3 3 = true := rfl
  have l33 : Nat.ble 3 3 = true := rfl
  have l03 : Nat.ble (0 + 3) 3 = true := rfl
  have q1 : eqOkB Try.prog fds (xs3 s) (xs3 s) = true := eqOk_is s s
  have q2 : eqB Try.prog fds (xs3 s) (xs3 s) = true := by have := eqB_is s s; rw [decide_eq_true rfl] at this; exact this
  have hh := tE S.length K.length (flt S) (flt K) (flt K) (j : Int) (K.length : Int) K.length (ents 0 K) (ents 0 (K ++ [s])) (flt (K ++ [s])) (vI (gslV S.length 0 false (flt S)) K.length (j : Int) (K.length : Int) (-1) 0)
    [.row false 1 [.slice (some ⟨6, 0, none⟩) (K.length + 1) 1, .map (some 1)], .mp false (ents 0 (K ++ [s])), .row false 3 (flt (K ++ [s])), .row false 3 (flt K)]
  simp only [a1, a2, a3, a4, a5, a6, d1, d2, d3, d4, d5, i0, i1, i2, ht, m1, m2, n1, n2, n3, n4, n5, g0, g1, g2, g3, g4, g5, b33, l33, l03, q1, q2, List.append_nil, eq_self_iff_true, and_self, tT, Bool.and_self, Bool.and_true, Bool.not_true, cond_true, cond_false, c8, c9, bne_self_eq_false] at hh
  have hl := loI_ok h hS hK (K.length + 1) 6 (K.length : Int) (flt_g (K ++ [s])) (ents_g (K ++ [s]) 0) (by decide)
  have e1 : fa s K = -1 := if_neg hs
  have e2 : fk s K = (K.length : Int) := if_neg hs
  rw [e1, e2] at hl
  refine ⟨_, hl, ?_⟩
  rw [SS_ne hne, SS_ne hne2, hlen]
  obtain ⟨σ1, w1, w2, w3, w4, w5⟩ := finHG_some (cKb_ok true) (lkQ_ok noLK_ok) hh
  exact ⟨σ1, w1, covS (flt_g S) (flt_g _) (flt_g _) (ents_g _ _) w4 w5 (by decide) w2 w3⟩
abbrev v0 (l : Value) (i N : Int) : List Value := [l, p0, .slice none 0 0, iv i, iv N, iv (-1), iv 0]
theorem covI0 {L b : Nat} {c cs : List Value} {i N : Int} {es : List (Value × Value)} {σ1 : St} (hc : ∀ x ∈ c, GVal x) (hcs : ∀ x ∈ cs, GVal x) (hes : ∀ e ∈ es, GVal e.1 ∧ GVal e.2) (hn : σ1.n = 144) (hd : σ1.ds = []) (hab : [0, 1, b].Nodup)
    (hp : picks tsI σ1.T = some (v0 (gslV L 0 false c) i N)) (hb : picksH [0, 1, b] σ1.h = some [.row false 1 [.slice (some ⟨b, 0, none⟩) 1 1, .map (some 1)], .mp false es, .row false 3 cs]) :
    Covers (glV lq) (hV lq) (stT tsI (v0 (gslV L 0 false c) i N) 144 (mkHV lq (b3 es cs))) σ1 := by
  refine covers_HV (l := lq) lq_g (ids := [0, 1, b]) (dl := [0, 0, 0]) hn hd hp hb rfl ?_ ?_ hab (fun i _ => Nat.zero_le i) ?_
  · exact .cons (.gv _ (.gsl _ _ _ _ hc)) (.cons (.ptr 0 0 0 (show 0 < 3 by decide) rfl) (.cons (.plain _ rfl) (.cons (.plain _ rfl) (.cons (.plain _ rfl) (.cons (.plain _ rfl) (.cons (.plain _ rfl) .nil))))))
  · intro j x0 x1 h0 h1
    match j with
    | 0 => cases h0; cases h1; exact ⟨rfl, rfl, Nat.zero_le _, .cons (.slc 2 0 0 1 1 (show 2 < 3 by decide) rfl) (.cons (.mp 1 (show 1 < 3 by decide)) .nil)⟩
    | 1 => cases h0; cases h1; exact ⟨rfl, ⟨rfl, fun i x y hx hy => by rw [hx] at hy; cases hy; obtain ⟨e, he, rfl⟩ := List.mem_map.1 (List.mem_of_getElem? hx); exact .gv _ (hes e he).1⟩, ⟨rfl, fun i x y hx hy => by rw [hx] at hy; cases hy; obtain ⟨e, he, rfl⟩ := List.mem_map.1 (List.mem_of_getElem? hx); exact .gv _ (hes e he).2⟩⟩
    | 2 => cases h0; cases h1; exact ⟨rfl, rfl, Nat.zero_le _, ⟨rfl, fun i x y hx hy => by have hy : cs[i]? = some y := hy; rw [hx] at hy; cases hy; exact .gv _ (hcs _ (List.mem_of_getElem? hx))⟩⟩
    | j + 3 => cases h0
  · intro x hx
    simp only [List.mem_cons, List.not_mem_nil, or_false] at hx
    rcases hx with rfl | rfl | rfl <;> rfl
theorem loopI0 {L : Nat} {c cs : List Value} {i N : Int} {es : List (Value × Value)} (hc : ∀ x ∈ c, GVal x) (hcs : ∀ x ∈ cs, GVal x) (hes : ∀ e ∈ es, GVal e.1 ∧ GVal e.2) :
    LoopTri Try.prog (glV lq) (hV lq) inn (stT tsI (v0 (gslV L 0 false c) i N) 144 (mkHV lq (b3 es cs))) (.exit 2) (stT tsI (v0 (gslV L 0 false c) i N) 144 (mkHV lq (b3 es cs))) := by
  have hl : LoopsOK Try.prog (glV lq) (hV lq) noLO (loopsOf inn) := noLO_ok
  refine loop_rule (P := Try.prog) (X := Unit) (regF_ok hmix) cA5_ok hl (c := inn) (hE := hV lq) (fun _ => stT tsI (v0 (gslV L 0 false c) i N) 144 (mkHV lq (b3 es cs))) (fun _ => 0) (fun _ => (.exit 2, stT tsI (v0 (gslV L 0 false c) i N) 144 (mkHV lq (b3 es cs)))) (fun _ => ?_) ()
  obtain ⟨σ1, g1, g2, g3, g4, g5⟩ := finHG_some cK5_ok noLK_ok (tI0 L 1 c cs i N es)
  exact ⟨_, σ1, g1, .inr ⟨by simp, rfl, covI0 hc hcs hes g4 g5 (by decide) g2 g3⟩⟩
theorem loI0_ok {L b : Nat} {c cs : List Value} {i N : Int} {es : List (Value × Value)} (hc : ∀ x ∈ c, GVal x) (hcs : ∀ x ∈ cs, GVal x) (hes : ∀ e ∈ es, GVal e.1 ∧ GVal e.2) (hab : [0, 1, b].Nodup) :
    LoopsOK Try.prog (glV lq) (hV lq) (loI [0, 1, b] (v0 (gslV L 0 false c) i N) [.row false 1 [.slice (some ⟨b, 0, none⟩) 1 1, .map (some 1)], .mp false es, .row false 3 cs]
      (v0 (gslV L 0 false c) i N) (b3 es cs)) (loopsOf (loopN Try.f5 0)) := by
  refine loQ_ok (fun c' hc' _ σ vs x' σ' hd hp h' => ?_) noLO_ok
  rw [inner_reg, List.mem_singleton] at hc'
  subst hc'
  unfold fI at h'
  split at h'
  · rename_i xs hx
    simp only [Option.some.injEq, Prod.mk.injEq] at h'
    obtain ⟨ht, rfl, rfl⟩ := h'
    obtain ⟨rfl, rfl, hn⟩ := of_tst ht
    exact (loopI0 hc hcs hes).enter (covI0 hc hcs hes hn hd hab hp hx)
  · cases h'
theorem stepC {S : List Sh} {j : Nat} {s : Sh} (h : S[j]? = some s) (hS : S.length ≤ 60) (hm : s.2.2 < 2 ^ 64) (hg : gd s.1 s.2.1 (s.2.2 : Int) = true) :
    ∃ LO, LoopsOK Try.prog (glV lq) (hV lq) LO (loopsOf (loopN Try.f5 0)) ∧ ∃ σ1, CBk (cAb true) LO (SS S [] j) = some (.normal, σ1) ∧ Covers (glV lq) (hV lq) (SS S [s] (j + 1)) σ1 := by
  have hj : j < S.length := (List.getElem?_eq_some_iff.1 h).1
  obtain ⟨a1, a2, a3, a4, a5, a6⟩ := el h
  have ht : tst (0 ≤ (s.2.2 : Int) ∧ (s.2.2 : Int) < 2 ^ 64 ∧ gd s.1 s.2.1 (s.2.2 : Int) = true) = true := tst_of ⟨by omega, by omega, hg⟩
  have d1 : decide ((j : Int) < (S.length : Int)) = true := decide_eq_true (by omega)
  have d2 : decide ((0 : Int) ≤ (j : Int)) = true := decide_eq_true (by omega)
  have d3 : decide ((0 : Int) < 0) = false := rfl
  have d4 : ((0 : Int) != 0) = false := rfl
  have d5 : decide ((0 : Int) ≥ 1) = false := rfl
  have d6 : decide ((0 : Int) ≤ 0) = true := rfl
  have d7 : decide ((0 : Int) < 1) = true := rfl
  have i2 : intAt (xs3 s) 2 = (s.2.2 : Int) := rfl
  have i1 : intAt (xs3 s) 1 = s.2.1 := rfl
  have i0 : intAt (xs3 s) 0 = s.1 := rfl
  have c9 := wj j (by omega)
  have c8 : IntKind.wrap IntKind.i64 (1 - 1) = 0 := rfl
  have g1 : List.take 3 (List.drop (0 + Int.toNat 0 * 3) (xs3 s)) = xs3 s := rfl
  have g0 : Nat.ble (0 + Int.toNat 0 * 3 + 3) 3 = true := rfl
  have g2 : (xs3 s).length = 3 := rfl
  have g3 : List.drop (0 + 3) [Value.int .i64 0, Value.int .i64 0, Value.int .u64 0] = [] := rfl
  have g4 : List.take 3 (xs3 s) = xs3 s := rfl
  have g5 : (xs3 s).all one1 = true := rfl
  have b33 : Nat.beq 3 3 = true := rfl
  have l33 : Nat.ble 3 3 = true := rfl
  have l03 : Nat.ble (0 + 3) 3 = true := rfl
  have q1 : eqOkB Try.prog fds (xs3 s) (xs3 s) = true := eqOk_is s s
  have q2 : eqB Try.prog fds (xs3 s) (xs3 s) = true := by have := eqB_is s s; rw [decide_eq_true rfl] at this; exact this
  have hh := tC S.length (flt S) (j : Int) 0 [(Value.agg ⟨xs3 s⟩, Value.int .i64 0)] (xs3 s) (v0 (gslV S.length 0 false (flt S)) (j : Int) 0)
    [.row false 1 [.slice (some ⟨4, 0, none⟩) 1 1, .map (some 1)], .mp false [(Value.agg ⟨xs3 s⟩, Value.int .i64 0)], .row false 3 (xs3 s)]
  simp only [a1, a2, a3, a4, a5, a6, d1, d2, d3, d4, d5, d6, d7, i0, i1, i2, ht, g0, g1, g2, g3, g4, g5, b33, l33, l03, q1, q2, List.append_nil, eq_self_iff_true, and_self, tT, Bool.and_self, Bool.and_true, Bool.not_true, cond_true, cond_false, c8, c9, bne_self_eq_false] at hh
  have hl := loI0_ok (L := S.length) (b := 4) (c := flt S) (cs := xs3 s) (i := (j : Int)) (N := 0) (es := [(Value.agg ⟨xs3 s⟩, Value.int .i64 0)]) (flt_g S) (flt_g [s]) (ents_g [s] 0) (by decide)
  refine ⟨_, hl, ?_⟩
  obtain ⟨σ1, w1, w2, w3, w4, w5⟩ := finHG_some (cKb_ok true) (lkQ_ok noLK_ok) hh
  exact ⟨σ1, w1, covS (n := 1) (es := ents 0 [s]) (cs := flt [s]) (ds := flt [s]) (flt_g S) (flt_g _) (flt_g _) (ents_g _ _) w4 w5 (by decide) w2 w3⟩
/-- All that is known at the end. -/
noncomputable def fin : List Sh → List Sh → List Sh
  | [], K => K
  | s :: r, K => fin r (nx s K)
theorem nx_len (s : Sh) (K : List Sh) : (nx s K).length ≤ K.length + 1 := by
  unfold nx
  cases gd s.1 s.2.1 (s.2.2 : Int) with
  | false => simp
  | true =>
    simp only [cond_true]
    split <;> simp
theorem fin_len : ∀ (r K : List Sh), (fin r K).length ≤ K.length + r.length := by
  intro r
  induction r with
  | nil => intro K; exact Nat.le_refl _
  | cons s r ih =>
    intro K
    have h1 := ih (nx s K)
    have h2 := nx_len s K
    show (fin r (nx s K)).length ≤ _
    simp only [List.length_cons]
    omega
theorem loop1 {S : List Sh} (hS : S.length ≤ 60) (hm : ∀ s ∈ S, s.2.2 < 2 ^ 64) : LoopTri Try.prog (glV lq) (hV lq) (loopN Try.f5 0) (SS S [] 0) (.exit 0) (SS S (fin S []) S.length) := by
  have := loop_rule2 (P := Try.prog) (gl := glV lq) hmix (c := loopN Try.f5 0) (hE := hV lq) (X := {p : Nat × List Sh // p.1 ≤ S.length ∧ p.2.length ≤ p.1}) (fun p => SS S p.1.2 p.1.1) (fun p => S.length - p.1.1) (fun p => (.exit 0, SS S (fin (S.drop p.1.1) p.1.2) S.length)) ?_ ⟨(0, []), Nat.zero_le _, Nat.le_refl _⟩
  · exact this
  · rintro ⟨⟨j, K⟩, hj, hK⟩
    dsimp only at hj hK ⊢
    by_cases hlt : j < S.length
    · obtain ⟨s, hs⟩ : ∃ s, S[j]? = some s := ⟨_, List.getElem?_eq_getElem hlt⟩
      have hd : S.drop j = s :: S.drop (j + 1) := by
        rw [List.drop_eq_getElem_cons hlt]
        rw [List.getElem?_eq_getElem hlt] at hs
        cases hs; rfl
      have hsm := hm s (List.mem_of_getElem? hs)
      have key : ∃ call LO, CallOK Try.prog (glV lq) call ∧ LoopsOK Try.prog (glV lq) (hV lq) LO (loopsOf (loopN Try.f5 0)) ∧ ∃ σ1, CBk call LO (SS S K j) = some (.normal, σ1) ∧ Covers (glV lq) (hV lq) (SS S (nx s K) (j + 1)) σ1 := by
        unfold nx
        cases hg : gd s.1 s.2.1 (s.2.2 : Int) with
        | false =>
          obtain ⟨σ1, h1, h2⟩ := stepX (K := K) hs hS hsm hg
          exact ⟨_, _, cAb_ok false, noLO_ok, σ1, h1, h2⟩
        | true =>
          simp only [cond_true]
          by_cases hin : s ∈ K
          · rw [if_pos hin]
            obtain ⟨LO, h0, σ1, h1, h2⟩ := stepD (K := K) hs hS (by omega) hsm hg hin
            exact ⟨_, LO, cAb_ok true, h0, σ1, h1, h2⟩
          · rw [if_neg hin]
            cases K with
            | nil =>
              obtain ⟨LO, h0, σ1, h1, h2⟩ := stepC hs hS hsm hg
              exact ⟨_, LO, cAb_ok true, h0, σ1, h1, h2⟩
            | cons t K =>
              obtain ⟨LO, h0, σ1, h1, h2⟩ := stepE (K := t :: K) hs hS (by omega) hsm hg hin (by simp)
              exact ⟨_, LO, cAb_ok true, h0, σ1, h1, h2⟩
      obtain ⟨call, LO, h1, h2, σ1, h3, h4⟩ := key
      refine ⟨call, LO, h1, h2, .normal, σ1, h3, .inl ⟨rfl, ⟨(j + 1, nx s K), hlt, ?_⟩, by dsimp only; omega, ?_, h4⟩⟩
      · have := nx_len s K
        dsimp only
        omega
      · dsimp only
        rw [hd]; rfl
    · obtain rfl : j = S.length := by omega
      obtain ⟨σ1, h1, h2⟩ := stepZ (S := S) (K := K)
      refine ⟨_, _, cAb_ok false, noLO_ok, .exit 0, σ1, h1, .inr ⟨by simp, rfl, ?_⟩⟩
      rw [List.drop_length]
      exact h2
end Go.Proofs.Ytjmmdpfmnnemoaa.AI
