/- Calls upon calls keep their own slots: the two loops by their rounds, and the whole. -/
import Derived.Test.YtnlfhfpccpokpaaSXd0
import Derived.Test.YtnlfhfpccpokpaaSXd1
import Derived.Test.YtnlfhfpccpokpaaSXd2
import Derived.Test.YtnlfhfpccpokpaaSXd3
import Derived.Test.YtnlfhfpccpokpaaSXd4
import Derived.Test.YtnlfhfpccpokpaaSXd5
import Derived.Test.YtnlfhfpccpokpaaSXd6
import Derived.KernelRfl
import Derived.Laws.BitsLemmas
namespace Go.Proofs.Ytnlfhfpccpokpaa.AI
open Go Go.RowKit
set_option linter.unusedVariables false
set_option linter.unusedSimpArgs false
set_option maxRecDepth 100000
theorem regOK : RegOK Try.prog gl0 (regF Try.prog gl0) := regF_ok (by kernel_rfl)
noncomputable abbrev CB5 (j : Nat) (σ : St) := codeB Try.prog gl0 (regF Try.prog gl0) (callA Try.prog gl0 (regF Try.prog gl0) 60 false) noLO (loopN Try.f5 j) σ
theorem finN5 {j : Nat} {σ : St} {ts ids : List Nat} {y : XA} {vs : List Value} {bs : List Blk} {nx n : Nat} (hr : B5 j σ (finN ts ids) = some (y, vs, bs, nx, n)) :
    ∃ σ1, CB5 j σ = some (y, σ1) ∧ picks ts σ1.T = some vs ∧ picksH ids σ1.h = some bs ∧ σ1.h.next = nx ∧ σ1.n = n ∧ σ1.ds = [] := finN_some (inK_ok 60) (toLK_ok noLO) hr
theorem finT5 {j : Nat} {σ : St} {ts : List Nat} {y : XA} {vs : List Value} {h : AH} {n : Nat} (hr : B5 j σ (finT ts) = some (y, vs, h, n)) :
    ∃ σ1, CB5 j σ = some (y, σ1) ∧ picks ts σ1.T = some vs ∧ σ1.h = h ∧ σ1.n = n ∧ σ1.ds = [] := by
  unfold B5 at hr
  rw [codeBK_eq (inK_ok 60) (toLK_ok noLO)] at hr
  split at hr
  · rename_i x σ1 hc
    unfold finT at hr
    split at hr
    · rename_i hd
      split at hr
      · rename_i ws hw
        cases hr
        exact ⟨σ1, hc, hw, rfl, rfl, hd⟩
      · cases hr
    · cases hr
  · cases hr
theorem Covers.trans {hE : AH} {σ3 σ2 σ1 : St} (a : Covers gl0 hE σ3 σ2) (b : Covers gl0 hE σ2 σ1) : Covers gl0 hE σ3 σ1 := by
  intro μE μ1 wE w x hE0 hs f
  obtain ⟨μ2, g1, g2⟩ := b μE μ1 wE w x hE0 hs f
  exact a μE μ2 wE w x hE0 g1 g2

theorem UPall (k : Nat) (h1 : 1 ≤ k) (h2 : k < 300) : UP k := by
  by_cases h : k < 130
  · have := all_up_0 (k - 1) (by omega); rwa [show 1 + (k - 1) = k from by omega] at this
  by_cases h' : k < 195
  · have := all_up_1 (k - 130) (by omega); rwa [show 130 + (k - 130) = k from by omega] at this
  by_cases h'' : k < 256
  · have := all_up_2 (k - 195) (by omega); rwa [show 195 + (k - 195) = k from by omega] at this
  · have := all_up_3 (k - 256) (by omega); rwa [show 256 + (k - 256) = k from by omega] at this
theorem DNall (k : Nat) (h1 : 2 ≤ k) (h2 : k ≤ 256) : DN k := by
  by_cases h : k < 150
  · have := all_dn_4 (k - 2) (by omega); rwa [show 2 + (k - 2) = k from by omega] at this
  · have := all_dn_5 (k - 150) (by omega); rwa [show 150 + (k - 150) = k from by omega] at this
theorem UXall (k : Nat) (h1 : 1 ≤ k) (h2 : k ≤ 300) : UX k := by
  have := all_ux_6 (k - 1) (by omega); rwa [show 1 + (k - 1) = k from by omega] at this
theorem dnx (v : Int) (h : AH) : B5 1 ⟨mkT [1, 5, 10] (vd v 0), 104, h, []⟩ (finT [1, 5, 10]) = some (.exit 2, vd v 0, h, 104) := by kernel_rfl

theorem cov_su {m k nx : Nat} {n v : Int} {σ1 : St} (g2 : picks [0, 1, 5, 7] σ1.T = some (vu n v k)) (g3 : picksH (idk (fid m) m) σ1.h = some (blk (fid m) m m (capk m) v)) (g4 : σ1.h.next = nx) (g5 : σ1.n = 104) (g6 : σ1.ds = []) :
    Covers gl0 h0 (su m k nx n v) σ1 := covers_sub g5 (picks_mkT g2) g4 (picksH_mkL g3) rfl g6
def inv1 (n : Nat) (v : Int) (k : Nat) : St := su (mm k) k (nxx k) n v
theorem step1 (n : Nat) (hn : n ≤ 300) (v : Int) (k : Nat) (h1 : 1 ≤ k) (hk : k ≤ n) : ∃ y σ1, CB5 0 (inv1 n v k) = some (y, σ1) ∧
    ((y = .normal ∧ k + 1 ≤ n ∧ Covers gl0 h0 (inv1 n v (k + 1)) σ1) ∨ (y = .exit 0 ∧ k = n ∧ Covers gl0 h0 (inv1 n v n) σ1)) := by
  by_cases hlt : k < n
  · have h := UPall k h1 (by omega) n v
    rw [decide_eq_true (by omega : (k : Int) < n)] at h
    obtain ⟨σ1, g1, g2, g3, g4, g5, g6⟩ := finN5 h
    exact ⟨_, σ1, g1, .inl ⟨rfl, hlt, cov_su g2 g3 g4 g5 g6⟩⟩
  · obtain rfl : k = n := by omega
    obtain ⟨σ1, g1, g2, g3, g4, g5⟩ := finT5 (UXall k h1 hn v (inv1 k v k).h)
    exact ⟨_, σ1, g1, .inr ⟨rfl, rfl, covers_sub g4 (picks_mkT g2) (by rw [g3]) (fun i b h => by rw [g3]; exact h) rfl g5⟩⟩

theorem sid_get : ∀ (n s j x : Nat), (sid s n)[j]? = some x → j < n ∧ x = 84 + 14 * (s + j) := by
  intro n
  induction n with
  | zero => intro s j x h; simp [sid] at h
  | succ n ih =>
    intro s j x h
    cases j with
    | zero => simp [sid] at h; exact ⟨by omega, by omega⟩
    | succ j => have := ih (s + 1) j x (by simpa [sid] using h); exact ⟨by omega, by omega⟩
theorem sidh_get : ∀ (n s j x : Nat), (sidh s n)[j]? = some x → j < n ∧ x = 41 + 7 * (s + j) := by
  intro n
  induction n with
  | zero => intro s j x h; simp [sidh] at h
  | succ n ih =>
    intro s j x h
    cases j with
    | zero => simp [sidh] at h; exact ⟨by omega, by omega⟩
    | succ j => have := ih (s + 1) j x (by simpa [sidh] using h); exact ⟨by omega, by omega⟩
theorem sls_get (v : Int) : ∀ (n s j : Nat) (b : Blk), (sls v s n)[j]? = some b → b = slot v (s + j) := by
  intro n
  induction n with
  | zero => intro s j b h; simp [sls] at h
  | succ n ih =>
    intro s j b h
    cases j with
    | zero => simp [sls] at h; exact h.symm
    | succ j => have := ih (s + 1) j b (by simpa [sls] using h); rw [this]; congr 1; omega
theorem mkL_sid (v : Int) : ∀ (n s j : Nat), j < n → (mkL (sid s n) (sls v s n)).get (84 + 14 * (s + j)) = some (slot v (s + j)) := by
  intro n
  induction n with
  | zero => intro s j h; omega
  | succ n ih =>
    intro s j h
    rw [sid, sls, mkL, Tr.get_set]
    cases j with
    | zero => rw [Nat.add_zero, if_pos rfl]
    | succ j => rw [if_neg (by omega), show s + (j + 1) = s + 1 + j from by omega]; exact ih (s + 1) j (by omega)
theorem mkL_sidh (v : Int) : ∀ (n s j : Nat), j < n → (mkL (sidh s n) (sls v s n)).get (41 + 7 * (s + j)) = some (slot v (s + j)) := by
  intro n
  induction n with
  | zero => intro s j h; omega
  | succ n ih =>
    intro s j h
    rw [sidh, sls, mkL, Tr.get_set]
    cases j with
    | zero => rw [Nat.add_zero, if_pos rfl]
    | succ j => rw [if_neg (by omega), show s + (j + 1) = s + 1 + j from by omega]; exact ih (s + 1) j (by omega)
theorem frs_ren {ρ ε : Nat → Nat} {N : Nat} : ∀ (n s : Nat), (∀ j, j < s + n → 84 + 14 * j < N ∧ ρ (84 + 14 * j) = 84 + 14 * j ∧ ε (84 + 14 * j) = 0) → RenEL ρ ε N (frs s n) (frs s n) := by
  intro n
  induction n with
  | zero => intro s h; exact .nil
  | succ n ih =>
    intro s h
    obtain ⟨h1, h2, h3⟩ := h s (by omega)
    refine .cons (.plain _ rfl) (.cons (.plain _ rfl) (.cons ?_ (ih (s + 1) fun j hj => h j (by omega))))
    have := RenE.slc (ρ := ρ) (ε := ε) (n := N) (84 + 14 * s) 0 2 4 4 h1 (by decide) (by intro s'; rw [h3]; rfl)
    rw [h2] at this
    exact this
theorem frs_snoc : ∀ (n s : Nat), frs s (n + 1) = frs s n ++ frs (s + n) 1 := by
  intro n
  induction n with
  | zero => intro s; rfl
  | succ n ih =>
    intro s
    rw [frs, ih (s + 1), show s + 1 + n = s + (n + 1) from by omega]
    rfl
theorem slot_plain (v : Int) (j : Nat) {ρ ε : Nat → Nat} {N e : Nat} (he : e = 0) : RenEB ρ ε N e (slot v j) (slot v j) := by
  subst he
  cases j with
  | zero => exact ⟨rfl, rfl, _, [], (List.append_nil _).symm, .cons (.plain _ rfl) (.cons (.plain _ rfl) .nil), by simp⟩
  | succ j => exact ⟨rfl, rfl, _, [], (List.append_nil _).symm, .cons (.plain _ rfl) (.cons (.plain _ rfl) .nil), by simp⟩

/-- m frames, the fixed blocks apart from the slots. -/
def hm (m : Nat) (v : Int) : AH := ⟨.node none ((Tr.nil.set 43 (some (stb 85 m (capk m)))).set 42 (some (.row false 3 (frs 0 m)))) (mkL (sidh 0 m) (sls v 0 m)), 4000⟩
def sm (m n : Nat) (v : Int) : St := ⟨mkT [0, 1, 5] [.int .i64 (n : Int), .int .i64 v, dp], 104, hm m v, []⟩
theorem hm_odd (m : Nat) (v : Int) (k : Nat) (h : k % 2 = 0) : (hm m v).get (k + 1) = ((Tr.nil.set 43 (some (stb 85 m (capk m)))).set 42 (some (.row false 3 (frs 0 m)))).get (k / 2) := by
  show Tr.get (.node none _ _) (k + 1) = _
  rw [Tr.get, h]; rfl
theorem hm_even (m : Nat) (v : Int) (k : Nat) (h : k % 2 = 1) : (hm m v).get (k + 1) = (mkL (sidh 0 m) (sls v 0 m)).get (k / 2) := by
  show Tr.get (.node none _ _) (k + 1) = _
  rw [Tr.get, h]; rfl
theorem hm_get {m : Nat} {v : Int} {i : Nat} {b : Blk} (h : (hm m v).get i = some b) : (i = 87 ∧ b = stb 85 m (capk m)) ∨ (i = 85 ∧ b = .row false 3 (frs 0 m)) ∨ ∃ j, j < m ∧ i = 84 + 14 * j ∧ b = slot v j := by
  cases i with
  | zero => cases h
  | succ k =>
    by_cases hk : k % 2 = 0
    · rw [hm_odd m v k hk, Tr.get_set] at h
      split at h
      · cases h; exact .inr (.inl ⟨by omega, rfl⟩)
      · rw [Tr.get_set] at h
        split at h
        · cases h; exact .inl ⟨by omega, rfl⟩
        · rw [Tr.get_nil] at h; cases h
    · rw [hm_even m v k (by omega)] at h
      obtain ⟨j, h1, h2⟩ := mkL_get _ _ h
      obtain ⟨h3, h4⟩ := sidh_get _ _ _ _ h1
      have h5 := sls_get v _ _ _ _ h2
      rw [Nat.zero_add] at h4 h5
      exact .inr (.inr ⟨j, h3, by omega, h5⟩)
theorem hm_slot (m : Nat) (v : Int) (j : Nat) (h : j < m) : (hm m v).get (84 + 14 * j) = some (slot v j) := by
  rw [show 84 + 14 * j = (83 + 14 * j) + 1 from by omega, hm_even m v _ (by omega), show (83 + 14 * j) / 2 = 41 + 7 * (0 + j) from by omega, mkL_sidh v m 0 j h, Nat.zero_add]
theorem hm_87 (m : Nat) (v : Int) : (hm m v).get 87 = some (stb 85 m (capk m)) := by
  rw [show 87 = 86 + 1 from rfl, hm_odd m v 86 rfl, Tr.get_set, if_neg (by decide), Tr.get_set, if_pos (by decide)]
theorem hm_85 (m : Nat) (v : Int) : (hm m v).get 85 = some (.row false 3 (frs 0 m)) := by
  rw [show 85 = 84 + 1 from rfl, hm_odd m v 84 rfl, Tr.get_set, if_pos (by decide)]
theorem fid_ne (m : Nat) (hm : 1 ≤ m) : fid m ≠ 87 ∧ fid m ≠ 85 ∧ ∀ j, fid m ≠ 84 + 14 * j := by
  match m, hm with
  | 1, _ => refine ⟨by decide, by decide, fun j => ?_⟩; simp only [fid]; omega
  | m + 2, _ => refine ⟨?_, ?_, fun j => ?_⟩ <;> simp only [fid] <;> omega
theorem mkT3 {n v : Int} {d : Value} {t : Nat} {x : Value} (h : (mkT [0, 1, 5] [.int .i64 n, .int .i64 v, d]).get t = some x) : (t = 0 ∧ x = .int .i64 n) ∨ (t = 1 ∧ x = .int .i64 v) ∨ (t = 5 ∧ x = d) := by
  simp only [mkT, Tr.get_set, Tr.get_nil] at h
  split at h
  · cases h; exact .inl ⟨by assumption, rfl⟩
  · split at h
    · cases h; exact .inr (.inl ⟨by assumption, rfl⟩)
    · split at h
      · cases h; exact .inr (.inr ⟨by assumption, rfl⟩)
      · cases h
theorem cov_sm (m : Nat) (h1 : 1 ≤ m) (h2 : m ≤ 256) (n k nx : Nat) (v : Int) : Covers gl0 h0 (sm m n v) (su m k nx n v) := by
  obtain ⟨f1, f2, f3⟩ := fid_ne m h1
  refine covers_E (ρ := fun i => if i = 85 then fid m else i) (ε := fun _ => 0) rfl (fun t x ht => ?_) (fun i b hb => ?_) (fun i b hb => ?_) (fun i j bi bj hi hj he => ?_) rfl rfl
  · rcases mkT3 ht with ⟨rfl, rfl⟩ | ⟨rfl, rfl⟩ | ⟨rfl, rfl⟩
    · exact ⟨_, rfl, .plain _ rfl⟩
    · exact ⟨_, rfl, .plain _ rfl⟩
    · exact ⟨_, rfl, RenE.ptr (ρ := fun i => if i = 85 then fid m else i) 87 0 (show 87 < 4000 by decide)⟩
  · rcases hm_get hb with ⟨rfl, rfl⟩ | ⟨rfl, rfl⟩ | ⟨j, hj, rfl, rfl⟩ <;> show _ < 4000 <;> omega
  · have key : ∀ i, (su m k nx n v).h.get i = (mkL (idk (fid m) m) (blk (fid m) m m (capk m) v)).get i := fun i => rfl
    rcases hm_get hb with ⟨rfl, rfl⟩ | ⟨rfl, rfl⟩ | ⟨j, hj, rfl, rfl⟩
    · refine ⟨stb (fid m) m (capk m), ?_, rfl, rfl, _, [], (List.append_nil _).symm, .cons ?_ .nil, by simp⟩
      · rw [if_neg (by decide), key, idk, blk, mkL, Tr.get_set, if_pos rfl]
      · have := RenE.slc (ρ := fun i => if i = 85 then fid m else i) (ε := fun _ => 0) (n := 4000) 85 0 m (capk m) (capk m) (by decide) (by omega) (fun s => rfl)
        exact this
    · refine ⟨.row false 3 (frs 0 m), ?_, rfl, rfl, _, [], (List.append_nil _).symm, frs_ren m 0 (fun j hj => ⟨?_, ?_, rfl⟩), by simp⟩
      · rw [if_pos rfl, key, idk, blk, mkL, Tr.get_set, if_neg f1, mkL, Tr.get_set, if_pos rfl]
      · show 84 + 14 * j < 4000; omega
      · rw [if_neg (by omega)]
    · refine ⟨slot v j, ?_, slot_plain v j rfl⟩
      rw [if_neg (by omega), key, idk, blk, mkL, Tr.get_set, if_neg (by omega), mkL, Tr.get_set, if_neg (fun e => f3 j e.symm)]
      have := mkL_sid v m 0 j hj
      rw [Nat.zero_add] at this
      exact this
  · rcases hm_get hi with ⟨rfl, _⟩ | ⟨rfl, _⟩ | ⟨a, ha, rfl, _⟩ <;> rcases hm_get hj with ⟨rfl, _⟩ | ⟨rfl, _⟩ | ⟨b, hb, rfl, _⟩ <;> first | rfl | skip
    · rw [if_neg (by decide), if_pos rfl] at he; exact absurd he.symm f1
    · rw [if_neg (by decide), if_neg (by omega)] at he; exact he
    · rw [if_pos rfl, if_neg (by decide)] at he; exact absurd he f1
    · rw [if_pos rfl, if_neg (by omega)] at he; exact absurd he (f3 b)
    · rw [if_neg (by omega), if_neg (by decide)] at he; exact he
    · rw [if_neg (by omega), if_pos rfl] at he; exact absurd he.symm (f3 a)
    · rw [if_neg (by omega), if_neg (by omega)] at he; exact he
theorem loop1 (n : Nat) (h1 : 1 ≤ n) (hn : n ≤ 300) (v : Int) : LoopTri Try.prog gl0 h0 (loopN Try.f5 0) (inv1 n v 1) (.exit 0) (sm (mm n) n v) := by
  have hmm : 1 ≤ mm n ∧ mm n ≤ 256 := by
    unfold mm
    cases hb : Nat.ble n 256 with
    | true => exact ⟨h1, Nat.le_of_ble_eq_true hb⟩
    | false => exact ⟨(show 1 ≤ 256 by decide), Nat.le_refl 256⟩
  refine loop_rule (P := Try.prog) (X := {k : Nat // 1 ≤ k ∧ k ≤ n}) regOK (callA_ok regOK 60).1 noLO_ok (fun k => inv1 n v k.1) (fun k => n - k.1) (fun _ => (.exit 0, sm (mm n) n v)) (fun k => ?_) ⟨1, Nat.le_refl _, h1⟩
  obtain ⟨k, hk1, hk⟩ := k
  obtain ⟨y, σ1, g1, g2⟩ := step1 n hn v k hk1 hk
  refine ⟨y, σ1, g1, ?_⟩
  rcases g2 with ⟨rfl, h3, h4⟩ | ⟨rfl, h3, h4⟩
  · exact .inl ⟨rfl, ⟨k + 1, by omega, h3⟩, by show n - (k + 1) < n - k; omega, rfl, h4⟩
  · exact .inr ⟨(by intro h; cases h), rfl, Covers.trans (cov_sm _ hmm.1 hmm.2 n n (nxx n) v) h4⟩

theorem mkTd {v : Int} {d : Value} {k : Int} {t : Nat} {x : Value} (h : (mkT [1, 5, 10] [.int .i64 v, d, .int .i64 k]).get t = some x) : x = .int .i64 v ∨ x = d ∨ x = .int .i64 k := by
  simp only [mkT, Tr.get_set, Tr.get_nil] at h
  split at h
  · cases h; exact .inl rfl
  · split at h
    · cases h; exact .inr (.inl rfl)
    · split at h
      · cases h; exact .inr (.inr rfl)
      · cases h
theorem sd_get {m l c : Nat} {v : Int} {i : Nat} {b : Blk} (h : (mkL (idk 85 m) (blk 85 m l c v)).get i = some b) : (i = 87 ∧ b = stb 85 l c) ∨ (i = 85 ∧ b = .row false 3 (frs 0 m)) ∨ ∃ j, j < m ∧ i = 84 + 14 * j ∧ b = slot v j := by
  obtain ⟨j, h1, h2⟩ := mkL_get _ _ h
  match j with
  | 0 => cases h1; cases h2; exact .inl ⟨rfl, rfl⟩
  | 1 => cases h1; cases h2; exact .inr (.inl ⟨rfl, rfl⟩)
  | j + 2 =>
    obtain ⟨h3, h4⟩ := sid_get m 0 j i h1
    have h5 := sls_get v m 0 j b h2
    rw [Nat.zero_add] at h4 h5
    exact .inr (.inr ⟨j, h3, h4, h5⟩)
theorem odd_room (m : Nat) (s : Nat) : (2 * m + 1) / 2 + (2 * m + 1) % 2 * (s + (if 85 = 85 then 1 else 0)) = (2 * (m + 1) + 1) / 2 + (2 * (m + 1) + 1) % 2 * s := by
  have e1 : (2 * m + 1) % 2 = 1 := by omega
  have e2 : (2 * (m + 1) + 1) % 2 = 1 := by omega
  rw [e1, e2, if_pos rfl]; omega
theorem cov_down (m : Nat) (h1 : 1 ≤ m) (h2 : m < 256) {v : Int} {σ1 : St} (g2 : picks [1, 5, 10] σ1.T = some (vd v (m - 1))) (g3 : picksH (idk 85 (m + 1)) σ1.h = some (blk 85 (m + 1) m (2 * (m + 1) + 1) v)) (g5 : σ1.n = 104) (g6 : σ1.ds = []) : Covers gl0 h0 (sd m v) σ1 := by
  have old := picksH_mkL g3
  refine covers_E (ρ := fun i => i) (ε := fun i => if i = 85 then 1 else 0) g5 (fun t x ht => ⟨x, picks_mkT g2 t x ht, ?_⟩) (fun i b hb => ?_) (fun i b hb => ?_) (fun i j bi bj hi hj he => he) rfl g6
  · rcases mkTd ht with rfl | rfl | rfl
    · exact .plain _ rfl
    · exact RenE.ptr (ρ := fun i => i) 87 0 (show 87 < 4000 by decide)
    · exact .plain _ rfl
  · rcases sd_get hb with ⟨rfl, rfl⟩ | ⟨rfl, rfl⟩ | ⟨j, hj, rfl, rfl⟩ <;> show _ < 4000 <;> omega
  · rcases sd_get hb with ⟨rfl, rfl⟩ | ⟨rfl, rfl⟩ | ⟨j, hj, rfl, rfl⟩
    · refine ⟨stb 85 m (2 * (m + 1) + 1), old _ _ ?_, rfl, rfl, _, [], (List.append_nil _).symm, .cons ?_ .nil, by simp⟩
      · rw [idk, blk, mkL, Tr.get_set, if_pos rfl]
      · exact RenE.slc (ρ := fun i => i) (ε := fun i => if i = 85 then 1 else 0) (n := 4000) 85 0 m (2 * m + 1) (2 * (m + 1) + 1) (by decide) (by omega) (odd_room m)
    · refine ⟨.row false 3 (frs 0 (m + 1)), old _ _ ?_, rfl, rfl, frs 0 m, frs (0 + m) 1, frs_snoc m 0, frs_ren m 0 (fun j hj => ⟨?_, rfl, ?_⟩), ?_⟩
      · rw [idk, blk, mkL, Tr.get_set, if_neg (by decide), mkL, Tr.get_set, if_pos rfl]
      · show 84 + 14 * j < 4000; omega
      · rw [if_neg (by omega)]
      · rw [if_pos rfl]; exact Nat.le_refl 3
    · refine ⟨slot v j, old _ _ ?_, slot_plain v j (if_neg (by omega))⟩
      rw [idk, blk, mkL, Tr.get_set, if_neg (by omega), mkL, Tr.get_set, if_neg (by omega)]
      have := mkL_sid v (m + 1) 0 j (by omega)
      rw [Nat.zero_add] at this
      exact this
theorem loop2 (m : Nat) (h1 : 2 ≤ m) (hm : m ≤ 256) (v : Int) : LoopTri Try.prog gl0 h0 (loopN Try.f5 1) (sd m v) (.exit 2) (sd 1 v) := by
  refine loop_rule (P := Try.prog) (X := {k : Nat // 1 ≤ k ∧ k ≤ 256}) regOK (callA_ok regOK 60).1 noLO_ok (fun k => sd k.1 v) (fun k => k.1) (fun _ => (.exit 2, sd 1 v)) (fun k => ?_) ⟨m, by omega, hm⟩
  obtain ⟨k, hk1, hk⟩ := k
  by_cases h : k = 1
  · subst h
    obtain ⟨σ1, g1, g2, g3, g4, g5⟩ := finT5 (dnx v (sd 1 v).h)
    exact ⟨_, σ1, g1, .inr ⟨(by intro h; cases h), rfl, covers_sub g4 (picks_mkT g2) (by rw [g3]) (fun i b h => by rw [g3]; exact h) rfl g5⟩⟩
  · obtain ⟨l, rfl⟩ : ∃ l, k = l + 1 := ⟨k - 1, by omega⟩
    have hr := DNall (l + 1) (by omega) hk v
    rw [bne_self_eq_false] at hr
    obtain ⟨σ1, g1, g2, g3, g4, g5, g6⟩ := finN5 hr
    exact ⟨_, σ1, g1, .inl ⟨rfl, ⟨l, by omega, by omega⟩, Nat.lt_succ_self l, rfl, cov_down l (by omega) (by omega) g2 g3 g5 g6⟩⟩

noncomputable def e1 (m n : Nat) (v : Int) : List Value → AH → Nat → Option (Bool × XA × St) := fun vs h s => match picksH [87, 86, 84] h with
  | some bs => some (tst (vs = vu n v 1 ∧ bs = blk 86 1 1 2 v ∧ h.next = 88 ∧ s = 104), .exit 0, sm m n v)
  | none => none
noncomputable def e2 (m : Nat) (v : Int) : List Value → AH → Nat → Option (Bool × XA × St) := fun vs h s => some (tst (vs = vd v (m - 1) ∧ h = hm m v ∧ s = 104), .exit 2, sd 1 v)
noncomputable def e3 (v : Int) : List Value → AH → Nat → Option (Bool × XA × St) := fun vs h s => some (tst (vs = vd v 0 ∧ h = hm 1 v ∧ s = 104), .exit 2, ⟨mkT [1, 5, 10] (vd v 0), 104, hm 1 v, []⟩)
theorem loops5 : loopsOf (bodyOf Try.f5) = [loopN Try.f5 0, loopN Try.f5 1] := by kernel_rfl
theorem isRegs : (isReg 9 (loopN Try.f5 0), isReg 22 (loopN Try.f5 0), isReg 9 (loopN Try.f5 1), isReg 22 (loopN Try.f5 1)) = (true, false, false, true) := by kernel_rfl
theorem is9 {c : Code} (hc : c ∈ loopsOf (bodyOf Try.f5)) (h : isReg 9 c = true) : c = loopN Try.f5 0 := by
  rw [loops5] at hc
  rcases List.mem_cons.1 hc with rfl | hc
  · rfl
  · rcases List.mem_cons.1 hc with rfl | hc
    · have := congrArg (fun p => p.2.2.1) isRegs
      rw [h] at this; cases this
    · cases hc
theorem is22 {c : Code} (hc : c ∈ loopsOf (bodyOf Try.f5)) (h : isReg 22 c = true) : c = loopN Try.f5 1 := by
  rw [loops5] at hc
  rcases List.mem_cons.1 hc with rfl | hc
  · have := congrArg (fun p => p.2.1) isRegs
    rw [h] at this; cases this
  · rcases List.mem_cons.1 hc with rfl | hc
    · rfl
    · cases hc
theorem e1_ok (n : Nat) (h1 : 1 ≤ n) (hn : n ≤ 300) (v : Int) (σ : St) (vs : List Value) (x : XA) (σ' : St) (hd : σ.ds = []) (hp : picks [0, 1, 5, 7] σ.T = some vs) (h : e1 (mm n) n v vs σ.h σ.n = some (true, x, σ')) :
    LoopTri Try.prog gl0 h0 (loopN Try.f5 0) σ x σ' := by
  unfold e1 at h
  split at h
  · rename_i bs hb
    simp only [Option.some.injEq, Prod.mk.injEq] at h
    obtain ⟨ht, rfl, rfl⟩ := h
    obtain ⟨rfl, rfl, hx, hs⟩ := of_tst ht
    exact (loop1 n h1 hn v).enter (cov_su (m := 1) hp hb hx hs hd)
  · cases h
theorem e2_ok (m : Nat) (h1 : 2 ≤ m) (hm2 : m ≤ 256) (v : Int) (σ : St) (vs : List Value) (x : XA) (σ' : St) (hd : σ.ds = []) (hp : picks [1, 5, 10] σ.T = some vs) (h : e2 m v vs σ.h σ.n = some (true, x, σ')) :
    LoopTri Try.prog gl0 h0 (loopN Try.f5 1) σ x σ' := by
  unfold e2 at h
  simp only [Option.some.injEq, Prod.mk.injEq] at h
  obtain ⟨ht, rfl, rfl⟩ := h
  obtain ⟨rfl, hx, hs⟩ := of_tst ht
  have hc : capk m = 2 * m + 1 := by
    obtain ⟨k, rfl⟩ : ∃ k, m = k + 2 := ⟨m - 2, by omega⟩
    rfl
  refine (loop2 m h1 hm2 v).enter (covers_sub hs (picks_mkT hp) (by rw [hx]; rfl) (fun i b hb => ?_) rfl hd)
  rw [hx]
  rcases sd_get hb with ⟨rfl, rfl⟩ | ⟨rfl, rfl⟩ | ⟨j, hj, rfl, rfl⟩
  · rw [hm_87, hc]
  · exact hm_85 m v
  · exact hm_slot m v j hj
theorem e3_ok (v : Int) (σ : St) (vs : List Value) (x : XA) (σ' : St) (hd : σ.ds = []) (hp : picks [1, 5, 10] σ.T = some vs) (h : e3 v vs σ.h σ.n = some (true, x, σ')) :
    LoopTri Try.prog gl0 h0 (loopN Try.f5 1) σ x σ' := by
  unfold e3 at h
  simp only [Option.some.injEq, Prod.mk.injEq] at h
  obtain ⟨ht, rfl, rfl⟩ := h
  obtain ⟨rfl, hx, hs⟩ := of_tst ht
  refine LoopTri.enter (σ0 := ⟨mkT [1, 5, 10] (vd v 0), 104, hm 1 v, []⟩) ?_ (covers_sub hs (picks_mkT hp) (by rw [hx]) (fun i b hb => by rw [hx]; exact hb) rfl hd)
  refine loop_rule (P := Try.prog) (X := Unit) regOK (callA_ok regOK 60).1 noLO_ok (fun _ => ⟨mkT [1, 5, 10] (vd v 0), 104, hm 1 v, []⟩) (fun _ => 0) (fun _ => (.exit 2, ⟨mkT [1, 5, 10] (vd v 0), 104, hm 1 v, []⟩)) (fun _ => ?_) ()
  obtain ⟨σ1, g1, g2, g3, g4, g5⟩ := finT5 (dnx v (hm 1 v))
  exact ⟨_, σ1, g1, .inr ⟨(by intro h; cases h), rfl, covers_sub g4 (picks_mkT g2) (by rw [g3]) (fun i b h => by rw [g3]; exact h) rfl g5⟩⟩

theorem many_run (m n : Nat) (v : Int) (hn : n ≤ 300) (hmm : m = mm n) (h2 : 2 ≤ m) : runLI Try.prog gl0 (regF Try.prog gl0) 60 (lkQ 9 [0, 1, 5, 7] (e1 m n v) (lkQ 22 [1, 5, 10] (e2 m v) noLK)) Try.f5 [.int .i64 (n : Int), .int .i64 v] h0 = some (.bool true) := by
  have e : runLI Try.prog gl0 (regF Try.prog gl0) 60 (lkQ 9 [0, 1, 5, 7] (e1 m n v) (lkQ 22 [1, 5, 10] (e2 m v) noLK)) Try.f5 [.int .i64 (n : Int), .int .i64 v] h0 =
    (bif decide ((n : Int) < 1) then some (Value.bool true) else bif decide ((n : Int) > 300) then some (Value.bool true) else bif tst (vu n v 1 = vu n v 1 ∧ blk 86 1 1 2 v = blk 86 1 1 2 v ∧ 88 = 88 ∧ 104 = 104) then
      (bif decide ((n : Int) > 256) then bif (m : Int) != 256 then some (Value.bool false) else bif tst ([Value.int IntKind.i64 v, dp, Value.int IntKind.i64 (IntKind.wrap IntKind.i64 (256 - 1))] = vd v (m - 1) ∧ hm m v = hm m v ∧ 104 = 104) then bif v == v then some (Value.bool true) else some (Value.bool false) else none
       else bif (m : Int) != (n : Int) then some (Value.bool false) else bif tst ([Value.int IntKind.i64 v, dp, Value.int IntKind.i64 (IntKind.wrap IntKind.i64 ((n : Int) - 1))] = vd v (m - 1) ∧ hm m v = hm m v ∧ 104 = 104) then bif v == v then some (Value.bool true) else some (Value.bool false) else none) else none) := by kernel_rfl
  have hn2 : 2 ≤ n := by
    have : mm n ≤ n := by
      unfold mm
      cases hb : Nat.ble n 256 with
      | true => exact Nat.le_refl _
      | false => rw [← Bool.not_eq_true] at hb; have : ¬ n ≤ 256 := fun h => hb (Nat.ble_eq_true_of_le h); simp only [cond_false]; omega
    omega
  rw [e, decide_eq_false (by omega), decide_eq_false (by omega), tst_of ⟨rfl, rfl, rfl, rfl⟩]
  show (bif decide ((n : Int) > 256) then _ else _) = _
  by_cases h : n ≤ 256
  · have hmn : m = n := by rw [hmm, mm, Nat.ble_eq_true_of_le h]; rfl
    subst hmn
    have hw : IntKind.wrap IntKind.i64 ((m : Int) - 1) = ((m - 1 : Nat) : Int) := by rw [IntKind.wrap_i64]; omega
    rw [decide_eq_false (by omega)]
    show (bif (m : Int) != (m : Int) then _ else bif tst ([Value.int IntKind.i64 v, dp, Value.int IntKind.i64 (IntKind.wrap IntKind.i64 ((m : Int) - 1))] = _ ∧ _) then _ else _) = _
    rw [bne_self_eq_false, hw, tst_of ⟨rfl, rfl, rfl⟩, beq_self_eq_true]; rfl
  · have hmn : m = 256 := by
      have : Nat.ble n 256 = false := by rw [← Bool.not_eq_true]; exact fun hb => h (Nat.le_of_ble_eq_true hb)
      rw [hmm, mm, this]; rfl
    have hb : ((m : Int) != 256) = false := by rw [hmn]; rfl
    have hw : IntKind.wrap IntKind.i64 (256 - 1) = ((m - 1 : Nat) : Int) := by rw [hmn]; decide
    rw [decide_eq_true (by omega)]
    show (bif (m : Int) != 256 then _ else bif tst ([Value.int IntKind.i64 v, dp, Value.int IntKind.i64 (IntKind.wrap IntKind.i64 (256 - 1))] = _ ∧ _) then _ else _) = _
    rw [hb, hw, tst_of ⟨rfl, rfl, rfl⟩, beq_self_eq_true]; rfl
theorem one_run (v : Int) : runLI Try.prog gl0 (regF Try.prog gl0) 60 (lkQ 9 [0, 1, 5, 7] (e1 1 1 v) (lkQ 22 [1, 5, 10] (e3 v) noLK)) Try.f5 [.int .i64 1, .int .i64 v] h0 = some (.bool true) := by
  have e : runLI Try.prog gl0 (regF Try.prog gl0) 60 (lkQ 9 [0, 1, 5, 7] (e1 1 1 v) (lkQ 22 [1, 5, 10] (e3 v) noLK)) Try.f5 [.int .i64 1, .int .i64 v] h0 =
    (bif tst (vu ((1 : Nat) : Int) v 1 = vu ((1 : Nat) : Int) v 1 ∧ blk 86 1 1 2 v = blk 86 1 1 2 v ∧ 88 = 88 ∧ 104 = 104) then bif tst (vd v 0 = vd v 0 ∧ hm 1 v = hm 1 v ∧ 104 = 104) then bif v == v then some (Value.bool true) else some (Value.bool false) else none else none) := by kernel_rfl
  rw [e, tst_of ⟨rfl, rfl, rfl, rfl⟩, tst_of ⟨rfl, rfl, rfl⟩, beq_self_eq_true]; rfl
theorem out_run (n v : Int) (h : n < 1 ∨ n > 300) : runLI Try.prog gl0 (regF Try.prog gl0) 60 noLK Try.f5 [.int .i64 n, .int .i64 v] h0 = some (.bool true) := by
  have e : runLI Try.prog gl0 (regF Try.prog gl0) 60 noLK Try.f5 [.int .i64 n, .int .i64 v] h0 = (bif decide (n < 1) then some (.bool true) else bif decide (n > 300) then some (.bool true) else none) := by kernel_rfl
  rw [e]
  rcases h with h | h
  · rw [decide_eq_true h]; rfl
  · rw [decide_eq_true h]; cases decide (n < 1) <;> rfl
theorem deep_walk (n v : Int) (w : World) : Calls Try.prog 5 #[.int .i64 n, .int .i64 v] w fun e w' => e = .returned (.bool true) ∧ Below w.heap.size w w' := by
  by_cases h : n < 1 ∨ n > 300
  · exact plain_callsLI (n := 60) regOK noLK_ok Try.func5 rfl (by kernel_rfl) noLO_ok (out_run n v h) rfl rfl w
  · obtain ⟨k, rfl⟩ : ∃ k : Nat, n = k := ⟨n.toNat, by omega⟩
    by_cases h1 : k = 1
    · subst h1
      refine plain_callsLI (n := 60) regOK (lkQ_ok (lkQ_ok noLK_ok)) Try.func5 rfl (by kernel_rfl) (loQ_ok (fun c hc hr σ vs x σ' hd hp hf => ?_) (loQ_ok (fun c hc hr σ vs x σ' hd hp hf => ?_) noLO_ok)) (one_run v) rfl rfl w
      · rw [is9 hc hr]; exact e1_ok 1 (by omega) (by omega) v σ vs x σ' hd hp hf
      · rw [is22 hc hr]; exact e3_ok v σ vs x σ' hd hp hf
    · have hm2 : 2 ≤ mm k ∧ mm k ≤ 256 := by
        unfold mm
        cases hb : Nat.ble k 256 with
        | true => exact ⟨(show 2 ≤ k by omega), Nat.le_of_ble_eq_true hb⟩
        | false => exact ⟨(show 2 ≤ 256 by decide), Nat.le_refl 256⟩
      refine plain_callsLI (n := 60) regOK (lkQ_ok (lkQ_ok noLK_ok)) Try.func5 rfl (by kernel_rfl) (loQ_ok (fun c hc hr σ vs x σ' hd hp hf => ?_) (loQ_ok (fun c hc hr σ vs x σ' hd hp hf => ?_) noLO_ok)) (many_run (mm k) k v (by omega) rfl hm2.1) rfl rfl w
      · rw [is9 hc hr]; exact e1_ok k (by omega) (by omega) v σ vs x σ' hd hp hf
      · rw [is22 hc hr]; exact e2_ok (mm k) hm2.1 hm2.2 v σ vs x σ' hd hp hf

end Go.Proofs.Ytnlfhfpccpokpaa.AI
