/- Functions of whole numbers, run with numbers that are not known. -/
import Derived.Test.YtjhlfolgadaliaaDoorSXe
import Derived.Shelf.Lay
import Derived.Shelf.LaySoft
import Derived.Shelf.Spec.TrailingZeros
import Derived.Laws.BitsLemmas
import Derived.KernelRfl
namespace Go.Proofs.YtjhlfolgadaliaaDoor.AI
open Go Go.RowKit Go.Shelf
set_option linter.unusedVariables false
set_option linter.unusedSimpArgs false
shelf_lay Go.Proofs.Lays7.n29 Nm7 29 at Tryd as tzLay
theorem tz64_ok (x : Nat) (hx : x < 18446744073709551616) (w : World) (hT : x ≠ 0 → ∀ j, j < Lib.deBruijn64tab.length → w.cell? ⟨0, j, none⟩ = some (.int .u8 (Lib.deBruijn64tab.getD j 0))) :
    Calls Tryd.prog 37 #[.int .u64 x] w fun e w' => e = .returned (.int .i64 (Lib.ctz 64 x)) ∧ w' = w := Any7.bits_TrailingZeros64 tzLay x hx w hT
theorem zs0_eq : zs0 = Lib.deBruijn64tab.map Int.ofNat := by rfl
/-- Functions of plain values, beside the table. -/
def TabW (P : Program) (W : TabF) : Prop := ∀ (g : FuncId) (ar : List Value) (v : Value), W g ar = some (true, v) →
  (∀ (args : Array Value) (w : World), (callFunc g args).run P w = .ok (.enter g args) w) ∧ ar.all plainV = true ∧ plainV v = true ∧
  ∀ (w : World), (∀ x ∈ tabs, Holds w x) → Calls P g ⟨ar⟩ w fun e w' => e = .returned v ∧ Below w.heap.size w w'
noncomputable def wtA (gl : Nat → Option Nat) (W : TabF) : CallA := fun g ar h => match gl 0 with
  | some i => match h.get i with
    | some (.row _ _ cs) => match W g ar with
      | some (b, v) => bif b && tst (cs = zs0.map fun z => .int .u8 z) then some (v, h) else none
      | none => none
    | _ => none
  | none => none
noncomputable def wtK {R : Type} (gl : Nat → Option Nat) (W : TabF) : CK R := fun g ar h k => match gl 0 with
  | some i => match h.get i with
    | some (.row _ _ cs) => match W g ar with
      | some (b, v) => bif b && tst (cs = zs0.map fun z => .int .u8 z) then k v h else none
      | none => none
    | _ => none
  | none => none
theorem wtK_ok {R : Type} (gl : Nat → Option Nat) (W : TabF) : CKok (R := R) (wtA gl W) (wtK gl W) := by
  intro g ar h k
  unfold wtA wtK
  split
  · split
    · split
      · rename_i b v _
        cases b && tst _ <;> rfl
      · rfl
    · rfl
  · rfl
theorem wtA_ok {P : Program} (gl : Nat → Option Nat) {W : TabF} (hW : TabW P W) : CallOK P gl (wtA gl W) := by
  intro g ar h v h' hc
  unfold wtA at hc
  split at hc
  · rename_i i hgl
    split at hc
    · rename_i ro z cs hrow
      split at hc
      · rename_i b u hWg
        cases ht : (b && tst (cs = zs0.map fun z => .int .u8 z)) with
        | false => rw [ht] at hc; cases hc
        | true =>
          rw [ht] at hc
          simp only [cond_true, Option.some.injEq, Prod.mk.injEq] at hc
          obtain ⟨rfl, rfl⟩ := hc
          rw [Bool.and_eq_true] at ht
          obtain ⟨rfl, ht⟩ := ht
          have hcs := of_tst ht
          subst hcs
          obtain ⟨h1, h2, h3, h4⟩ := hW g ar u hWg
          refine ⟨h1, fun μ w args hh hl => ?_⟩
          have hargs : args = ⟨ar⟩ := Array.ext' (LRel.plainV_eq hl h2)
          subst hargs
          obtain ⟨_, hB, hO⟩ := hh.glob 0 i hgl
          obtain ⟨C, e, fz, hr⟩ := hh.blk i _ hrow
          refine (h4 w ?_).mono ?_
          · intro x hx
            rw [tabs, List.mem_singleton] at hx
            subst hx
            have hat := hr.at_
            have hfit := hr.fits
            rw [hB] at hat
            rw [hO, Nat.zero_add] at hfit
            refine ⟨C, e, fz, hat, ?_, fun j v hj => ?_⟩
            · rw [List.length_map] at hfit
              show zs0.length ≤ C.size
              omega
            · obtain ⟨c, q1, q2⟩ := hr.cells j v hj
              have hp : plain1 v = true := by
                have hj' : (zs0.map fun z => Value.int .u8 z)[j]? = some v := hj
                rw [List.getElem?_map] at hj'
                cases hz : zs0[j]? with
                | none => rw [hz] at hj'; cases hj'
                | some z => rw [hz] at hj'; cases hj'; rfl
              rw [q2.plain_eq hp, hO, Nat.zero_add] at q1
              exact q1
          · rintro e w' ⟨rfl, hb⟩
            obtain ⟨k1, k2⟩ := hh.below hb
            exact ⟨_, μ, rfl, k1, k2, .plainV h3⟩
      · cases hc
    · cases hc
  · cases hc
def noW : TabF := fun _ _ => none
theorem noW_ok {P : Program} : TabW P noW := fun g ar v h => by cases h
theorem andW_ok {P : Program} {k : FuncId} {f : List Value → Option (Bool × Value)} {F : TabF} {fn : Func} {c : Code} (hfn : P.funcs[k]? = some fn) (hb : fn.body = some c) (hname : (fn.name == "runtime.NumGoroutine") = false)
    (hf : ∀ ar v, f ar = some (true, v) → ar.all plainV = true ∧ plainV v = true ∧ ∀ (w : World), (∀ x ∈ tabs, Holds w x) → Calls P k ⟨ar⟩ w fun e w' => e = .returned v ∧ Below w.heap.size w w') (hF : TabW P F) : TabW P (andG k f F) := by
  intro g ar v h
  unfold andG at h
  cases hk : Nat.beq g k with
  | true =>
    rw [hk] at h
    have hg : g = k := Nat.eq_of_beq_eq_true hk
    subst hg
    exact ⟨fun args w => callFunc_enter hfn hname hb args w, hf ar v h⟩
  | false =>
    rw [hk] at h
    exact hF g ar v h
noncomputable def tz37 (ar : List Value) : Option (Bool × Value) := match ar with
  | [.int .u64 w] => some (tst (0 ≤ w ∧ w < 18446744073709551616), .int .i64 ((Lib.ctz 64 w.toNat : Nat) : Int))
  | _ => none
noncomputable def W1 : TabF := andG 37 tz37 noW
theorem W1_ok : TabW Tryd.prog W1 := by
  refine andW_ok Tryd.func37 rfl (by kernel_rfl) (fun ar v h => ?_) noW_ok
  unfold tz37 at h
  split at h
  · rename_i x
    simp only [Option.some.injEq, Prod.mk.injEq] at h
    obtain ⟨ht, rfl⟩ := h
    obtain ⟨h0, h1⟩ := of_tst ht
    obtain ⟨n, rfl⟩ : ∃ n : Nat, x = n := ⟨x.toNat, by omega⟩
    refine ⟨rfl, rfl, fun w hw => (tz64_ok n (by omega) w fun _ j hj => ?_).mono ?_⟩
    · obtain ⟨C, e, fz, hat, _, hv⟩ := hw _ (List.mem_singleton.2 rfl)
      have hj64 : j < 64 := hj
      have h3 := hv j (.int .u8 (Lib.deBruijn64tab.getD j 0)) (by
        show ((zs0.map fun z => Value.int .u8 z))[j]? = _
        rw [zs0_eq, List.map_map, List.getElem?_map, List.getElem?_eq_getElem hj, List.getD_eq_getElem?_getD, List.getElem?_eq_getElem hj]; rfl)
      have hat' : w.heap[0]? = some (.cells C e fz) := hat
      simp only [World.cell?, hat', h3]
      simp
    · rintro e w' ⟨rfl, rfl⟩
      exact ⟨rfl, .refl _ _⟩
  · cases h
noncomputable abbrev wA (W : TabF) (F : FuncId → List Value → Option Value) : CallA := mixA [11] (quietA Tryd.prog (glT tabs) (regF Tryd.prog (glT tabs)) 60 (Nat.beq 11)) (mixA [37, 17, 18] (wtA (glT tabs) W) (sumA F))
noncomputable abbrev wK {R : Type} (W : TabF) (F : FuncId → List Value → Option Value) : CK R := mixK [11] (toK (quietA Tryd.prog (glT tabs) (regF Tryd.prog (glT tabs)) 60 (Nat.beq 11))) (mixK [37, 17, 18] (wtK (glT tabs) W) (toK (sumA F)))
theorem wA_ok {W : TabF} {F : FuncId → List Value → Option Value} (hW : TabW Tryd.prog W) (hF : TabOK Tryd.prog F) : CallOK Tryd.prog (glT tabs) (wA W F) := mixA_ok (quietA_ok (regF_ok hmix) 60 _) (mixA_ok (wtA_ok _ hW) (tab_ok hF))
theorem wK_ok {R : Type} {W : TabF} {F : FuncId → List Value → Option Value} : CKok (R := R) (wA W F) (wK W F) := mixK_ok (toK_ok _) (mixK_ok (wtK_ok _ _) (toK_ok _))
noncomputable abbrev RT (W : TabF) (F : FuncId → List Value → Option Value) (LK : LoopK Value) (fn : Func) (ar : List Value) : Option Value := runT Tryd.prog tabs (wA W F) (wK W F) LK fn ar
/-- How many of the first n bits are set. -/
def cnt (w : Nat) : Nat → Nat
  | 0 => 0
  | n + 1 => cnt w n + w / 2 ^ n % 2
theorem and_split (k a c b d : Nat) (hb : b < 2 ^ k) (hd : d < 2 ^ k) : (2 ^ k * a + b) &&& (2 ^ k * c + d) = 2 ^ k * (a &&& c) + (b &&& d) := by
  have hbd : (b &&& d) < 2 ^ k := Nat.and_lt_two_pow _ hd
  refine Nat.eq_of_testBit_eq fun i => ?_
  rw [Nat.testBit_and, Nat.testBit_two_pow_mul_add _ hb, Nat.testBit_two_pow_mul_add _ hd, Nat.testBit_two_pow_mul_add _ hbd]
  by_cases h : i < k
  · simp only [if_pos h, Nat.testBit_and]
  · simp only [if_neg h, Nat.testBit_and]
def rep (x : Nat) : Nat → Nat
  | 0 => 0
  | n + 1 => 256 * rep x n + x
def S1 (m x : Nat) : Nat := (x / 2 &&& m) + (x &&& m)
def S2 (m x : Nat) : Nat := (x / 4 &&& m) + (x &&& m)
def S3 (m x : Nat) : Nat := (x / 16 + x) &&& m
theorem d1 : ∀ b : Fin 256, ∀ c : Fin 2, (128 * c.val + b.val / 2 &&& 85) = (b.val / 2 &&& 85) := by decide +kernel
theorem d2 : ∀ b : Fin 256, ∀ c : Fin 4, (64 * c.val + b.val / 4 &&& 51) = (b.val / 4 &&& 51) := by decide +kernel
theorem s1_step (n a b : Nat) (hb : b < 256) : S1 (rep 85 (n + 1)) (256 * a + b) = 256 * S1 (rep 85 n) a + S1 85 b := by
  unfold S1
  have e : (256 * a + b) / 2 = 2 ^ 8 * (a / 2) + (128 * (a % 2) + b / 2) := by omega
  have h1 := and_split 8 (a / 2) (rep 85 n) (128 * (a % 2) + b / 2) 85 (by omega) (by decide)
  have h2 := and_split 8 a (rep 85 n) b 85 hb (by decide)
  have h3 := d1 ⟨b, hb⟩ ⟨a % 2, by omega⟩
  dsimp only at h3
  rw [e, rep, show 256 = 2 ^ 8 from rfl, h1, h2, h3]
  omega
theorem s2_step (n a b : Nat) (hb : b < 256) : S2 (rep 51 (n + 1)) (256 * a + b) = 256 * S2 (rep 51 n) a + S2 51 b := by
  unfold S2
  have e : (256 * a + b) / 4 = 2 ^ 8 * (a / 4) + (64 * (a % 4) + b / 4) := by omega
  have h1 := and_split 8 (a / 4) (rep 51 n) (64 * (a % 4) + b / 4) 51 (by omega) (by decide)
  have h2 := and_split 8 a (rep 51 n) b 51 hb (by decide)
  have h3 := d2 ⟨b, hb⟩ ⟨a % 4, by omega⟩
  dsimp only at h3
  rw [e, rep, show 256 = 2 ^ 8 from rfl, h1, h2, h3]
  omega
theorem d3 : ∀ b : Fin 69, ∀ c : Fin 5, (16 * c.val + (b.val / 16 + b.val) &&& 15) = ((b.val / 16 + b.val) &&& 15) := by decide +kernel
theorem s3_step (n a b : Nat) (hb : b < 69) (ha : a % 16 < 5) : S3 (rep 15 (n + 1)) (256 * a + b) = 256 * S3 (rep 15 n) a + S3 15 b := by
  unfold S3
  have e : (256 * a + b) / 16 + (256 * a + b) = 2 ^ 8 * (a / 16 + a) + (16 * (a % 16) + (b / 16 + b)) := by omega
  have h1 := and_split 8 (a / 16 + a) (rep 15 n) (16 * (a % 16) + (b / 16 + b)) 15 (by omega) (by decide)
  have h3 := d3 ⟨b, hb⟩ ⟨a % 16, ha⟩
  dsimp only at h3
  rw [e, rep, show 256 = 2 ^ 8 from rfl, h1, h3]
/-- One byte. -/
theorem byte_ok : ∀ b : Fin 256, S1 85 b.val < 256 ∧ S2 51 (S1 85 b.val) < 69 ∧ S2 51 (S1 85 b.val) % 16 < 5 ∧ S3 15 (S2 51 (S1 85 b.val)) = cnt b.val 8 := by decide +kernel
/-- The first three steps, byte for byte. -/
def T3 (n x : Nat) : Nat := S3 (rep 15 n) (S2 (rep 51 n) (S1 (rep 85 n) x))
def T2 (n x : Nat) : Nat := S2 (rep 51 n) (S1 (rep 85 n) x)
theorem t2_step (n a b : Nat) (hb : b < 256) : T2 (n + 1) (256 * a + b) = 256 * T2 n a + S2 51 (S1 85 b) := by
  unfold T2
  rw [s1_step n a b hb, s2_step n _ _ (byte_ok ⟨b, hb⟩).1]
theorem t2_low (n x : Nat) : T2 n x % 16 < 5 := by
  cases n with
  | zero => simp [T2, S2, S1, rep]
  | succ n =>
    have h := t2_step n (x / 256) (x % 256) (Nat.mod_lt _ (by decide))
    rw [Nat.div_add_mod] at h
    rw [h]
    have := (byte_ok ⟨x % 256, Nat.mod_lt _ (by decide)⟩).2.2.1
    dsimp only at this
    omega
theorem t3_step (n x : Nat) : T3 (n + 1) x = 256 * T3 n (x / 256) + cnt (x % 256) 8 := by
  have hb := byte_ok ⟨x % 256, Nat.mod_lt _ (by decide)⟩
  have h := t2_step n (x / 256) (x % 256) (Nat.mod_lt _ (by decide))
  rw [Nat.div_add_mod] at h
  show S3 (rep 15 (n + 1)) (T2 (n + 1) x) = 256 * S3 (rep 15 n) (T2 n (x / 256)) + _
  rw [h, s3_step n _ _ hb.2.1 (t2_low n _), hb.2.2.2]
theorem cnt_add (w m : Nat) : ∀ n, cnt w (m + n) = cnt w m + cnt (w / 2 ^ m) n := by
  intro n
  induction n with
  | zero => rfl
  | succ n ih =>
    show cnt w (m + n) + w / 2 ^ (m + n) % 2 = cnt w m + (cnt (w / 2 ^ m) n + w / 2 ^ m / 2 ^ n % 2)
    rw [ih, Nat.div_div_eq_div_mul, ← Nat.pow_add]; omega
theorem cnt_mod (w m : Nat) : ∀ n, n ≤ m → cnt (w % 2 ^ m) n = cnt w n := by
  intro n
  induction n with
  | zero => intro h; rfl
  | succ n ih =>
    intro h
    show cnt (w % 2 ^ m) n + w % 2 ^ m / 2 ^ n % 2 = cnt w n + w / 2 ^ n % 2
    rw [ih (by omega)]
    congr 1
    obtain ⟨k, rfl⟩ : ∃ k, m = n + (k + 1) := ⟨m - n - 1, by omega⟩
    rw [Nat.pow_add, Nat.mod_mul_right_div_self, Nat.pow_succ, Nat.mul_comm (2 ^ k) 2, Nat.mod_mul_right_mod]
theorem cnt_le (w : Nat) : ∀ n, cnt w n ≤ n := by
  intro n
  induction n with
  | zero => exact Nat.le_refl _
  | succ n ih => have : w / 2 ^ n % 2 < 2 := Nat.mod_lt _ (by decide); show cnt w n + _ ≤ n + 1; omega
/-- The whole. -/
def popN (x : Nat) : Nat :=
  let x3 := T3 8 x
  let x4 := (x3 + x3 / 256) % 2 ^ 64
  let x5 := (x4 + x4 / 65536) % 2 ^ 64
  let x6 := (x5 + x5 / 4294967296) % 2 ^ 64
  x6 % 128
theorem cnt_byte (w n : Nat) : cnt w (8 + n) = cnt (w % 256) 8 + cnt (w / 256) n := by
  rw [cnt_add, ← cnt_mod w 8 8 (Nat.le_refl _)]
theorem pw1 (p0 p1 p2 p3 p4 p5 p6 p7 : Nat) (b0 : p0 ≤ 8) (b1 : p1 ≤ 8) (b2 : p2 ≤ 8) (b3 : p3 ≤ 8) (b4 : p4 ≤ 8) (b5 : p5 ≤ 8) (b6 : p6 ≤ 8) (b7 : p7 ≤ 8) : (1 * p0 + 256 * p1 + 65536 * p2 + 16777216 * p3 + 4294967296 * p4 + 1099511627776 * p5 + 281474976710656 * p6 + 72057594037927936 * p7 + (1 * p0 + 256 * p1 + 65536 * p2 + 16777216 * p3 + 4294967296 * p4 + 1099511627776 * p5 + 281474976710656 * p6 + 72057594037927936 * p7) / 256) % 2 ^ 64 = 1 * p0 + 257 * p1 + 65792 * p2 + 16842752 * p3 + 4311744512 * p4 + 1103806595072 * p5 + 282574488338432 * p6 + 72339069014638592 * p7 := by
  have h : 1 * p0 + 256 * p1 + 65536 * p2 + 16777216 * p3 + 4294967296 * p4 + 1099511627776 * p5 + 281474976710656 * p6 + 72057594037927936 * p7 = 256 * (1 * p1 + 256 * p2 + 65536 * p3 + 16777216 * p4 + 4294967296 * p5 + 1099511627776 * p6 + 281474976710656 * p7) + (1 * p0) := by omega
  have hl : 1 * p0 < 256 := by omega
  have hd : (1 * p0 + 256 * p1 + 65536 * p2 + 16777216 * p3 + 4294967296 * p4 + 1099511627776 * p5 + 281474976710656 * p6 + 72057594037927936 * p7) / 256 = 1 * p1 + 256 * p2 + 65536 * p3 + 16777216 * p4 + 4294967296 * p5 + 1099511627776 * p6 + 281474976710656 * p7 := by
    rw [h, Nat.mul_add_div (by decide), Nat.div_eq_of_lt hl, Nat.add_zero]
  rw [hd, Nat.mod_eq_of_lt (by omega)]
  omega
theorem pw2 (p0 p1 p2 p3 p4 p5 p6 p7 : Nat) (b0 : p0 ≤ 8) (b1 : p1 ≤ 8) (b2 : p2 ≤ 8) (b3 : p3 ≤ 8) (b4 : p4 ≤ 8) (b5 : p5 ≤ 8) (b6 : p6 ≤ 8) (b7 : p7 ≤ 8) : (1 * p0 + 257 * p1 + 65792 * p2 + 16842752 * p3 + 4311744512 * p4 + 1103806595072 * p5 + 282574488338432 * p6 + 72339069014638592 * p7 + (1 * p0 + 257 * p1 + 65792 * p2 + 16842752 * p3 + 4311744512 * p4 + 1103806595072 * p5 + 282574488338432 * p6 + 72339069014638592 * p7) / 65536) % 2 ^ 64 = 1 * p0 + 257 * p1 + 65793 * p2 + 16843009 * p3 + 4311810304 * p4 + 1103823437824 * p5 + 282578800082944 * p6 + 72340172821233664 * p7 := by
  have h : 1 * p0 + 257 * p1 + 65792 * p2 + 16842752 * p3 + 4311744512 * p4 + 1103806595072 * p5 + 282574488338432 * p6 + 72339069014638592 * p7 = 65536 * (1 * p2 + 257 * p3 + 65792 * p4 + 16842752 * p5 + 4311744512 * p6 + 1103806595072 * p7) + (1 * p0 + 257 * p1 + 256 * p2) := by omega
  have hl : 1 * p0 + 257 * p1 + 256 * p2 < 65536 := by omega
  have hd : (1 * p0 + 257 * p1 + 65792 * p2 + 16842752 * p3 + 4311744512 * p4 + 1103806595072 * p5 + 282574488338432 * p6 + 72339069014638592 * p7) / 65536 = 1 * p2 + 257 * p3 + 65792 * p4 + 16842752 * p5 + 4311744512 * p6 + 1103806595072 * p7 := by
    rw [h, Nat.mul_add_div (by decide), Nat.div_eq_of_lt hl, Nat.add_zero]
  rw [hd, Nat.mod_eq_of_lt (by omega)]
  omega
theorem pw3 (p0 p1 p2 p3 p4 p5 p6 p7 : Nat) (b0 : p0 ≤ 8) (b1 : p1 ≤ 8) (b2 : p2 ≤ 8) (b3 : p3 ≤ 8) (b4 : p4 ≤ 8) (b5 : p5 ≤ 8) (b6 : p6 ≤ 8) (b7 : p7 ≤ 8) : (1 * p0 + 257 * p1 + 65793 * p2 + 16843009 * p3 + 4311810304 * p4 + 1103823437824 * p5 + 282578800082944 * p6 + 72340172821233664 * p7 + (1 * p0 + 257 * p1 + 65793 * p2 + 16843009 * p3 + 4311810304 * p4 + 1103823437824 * p5 + 282578800082944 * p6 + 72340172821233664 * p7) / 4294967296) % 2 ^ 64 = 1 * p0 + 257 * p1 + 65793 * p2 + 16843009 * p3 + 4311810305 * p4 + 1103823438081 * p5 + 282578800148737 * p6 + 72340172838076673 * p7 := by
  have h : 1 * p0 + 257 * p1 + 65793 * p2 + 16843009 * p3 + 4311810304 * p4 + 1103823437824 * p5 + 282578800082944 * p6 + 72340172821233664 * p7 = 4294967296 * (1 * p4 + 257 * p5 + 65793 * p6 + 16843009 * p7) + (1 * p0 + 257 * p1 + 65793 * p2 + 16843009 * p3 + 16843008 * p4 + 16842752 * p5 + 16777216 * p6) := by omega
  have hl : 1 * p0 + 257 * p1 + 65793 * p2 + 16843009 * p3 + 16843008 * p4 + 16842752 * p5 + 16777216 * p6 < 4294967296 := by omega
  have hd : (1 * p0 + 257 * p1 + 65793 * p2 + 16843009 * p3 + 4311810304 * p4 + 1103823437824 * p5 + 282578800082944 * p6 + 72340172821233664 * p7) / 4294967296 = 1 * p4 + 257 * p5 + 65793 * p6 + 16843009 * p7 := by
    rw [h, Nat.mul_add_div (by decide), Nat.div_eq_of_lt hl, Nat.add_zero]
  rw [hd, Nat.mod_eq_of_lt (by omega)]
  omega
theorem pw4 (p0 p1 p2 p3 p4 p5 p6 p7 : Nat) (b0 : p0 ≤ 8) (b1 : p1 ≤ 8) (b2 : p2 ≤ 8) (b3 : p3 ≤ 8) (b4 : p4 ≤ 8) (b5 : p5 ≤ 8) (b6 : p6 ≤ 8) (b7 : p7 ≤ 8) : (1 * p0 + 257 * p1 + 65793 * p2 + 16843009 * p3 + 4311810305 * p4 + 1103823438081 * p5 + 282578800148737 * p6 + 72340172838076673 * p7) % 128 = p0 + (p1 + (p2 + (p3 + (p4 + (p5 + (p6 + p7)))))) := by
  have h : 1 * p0 + 257 * p1 + 65793 * p2 + 16843009 * p3 + 4311810305 * p4 + 1103823438081 * p5 + 282578800148737 * p6 + 72340172838076673 * p7 = 128 * (0 * p0 + 2 * p1 + 514 * p2 + 131586 * p3 + 33686018 * p4 + 8623620610 * p5 + 2207646876162 * p6 + 565157600297474 * p7) + (p0 + (p1 + (p2 + (p3 + (p4 + (p5 + (p6 + p7))))))) := by omega
  rw [h, Nat.mul_add_mod, Nat.mod_eq_of_lt (by omega)]
theorem popN_eq (x : Nat) : popN x = cnt x 64 := by
  have h0 : T3 0 (x / 256 / 256 / 256 / 256 / 256 / 256 / 256 / 256) = 0 := by simp [T3, S3, rep]
  have e : cnt x 64 = cnt (x % 256) 8 + (cnt (x / 256 % 256) 8 + (cnt (x / 256 / 256 % 256) 8 + (cnt (x / 256 / 256 / 256 % 256) 8 + (cnt (x / 256 / 256 / 256 / 256 % 256) 8 + (cnt (x / 256 / 256 / 256 / 256 / 256 % 256) 8 + (cnt (x / 256 / 256 / 256 / 256 / 256 / 256 % 256) 8 + cnt (x / 256 / 256 / 256 / 256 / 256 / 256 / 256 % 256) 8)))))) := by
    rw [show 64 = 8 + (8 + (8 + (8 + (8 + (8 + (8 + (8 + 0))))))) from rfl]
    simp only [cnt_byte]
    rfl
  unfold popN
  rw [e]
  simp only [t3_step, h0]
  have b0 := cnt_le (x % 256) 8
  have b1 := cnt_le (x / 256 % 256) 8
  have b2 := cnt_le (x / 256 / 256 % 256) 8
  have b3 := cnt_le (x / 256 / 256 / 256 % 256) 8
  have b4 := cnt_le (x / 256 / 256 / 256 / 256 % 256) 8
  have b5 := cnt_le (x / 256 / 256 / 256 / 256 / 256 % 256) 8
  have b6 := cnt_le (x / 256 / 256 / 256 / 256 / 256 / 256 % 256) 8
  have b7 := cnt_le (x / 256 / 256 / 256 / 256 / 256 / 256 / 256 % 256) 8
  generalize cnt (x % 256) 8 = p0 at *
  generalize cnt (x / 256 % 256) 8 = p1 at *
  generalize cnt (x / 256 / 256 % 256) 8 = p2 at *
  generalize cnt (x / 256 / 256 / 256 % 256) 8 = p3 at *
  generalize cnt (x / 256 / 256 / 256 / 256 % 256) 8 = p4 at *
  generalize cnt (x / 256 / 256 / 256 / 256 / 256 % 256) 8 = p5 at *
  generalize cnt (x / 256 / 256 / 256 / 256 / 256 / 256 % 256) 8 = p6 at *
  generalize cnt (x / 256 / 256 / 256 / 256 / 256 / 256 / 256 % 256) 8 = p7 at *
  clear e h0
  have e3 : 256 * (256 * (256 * (256 * (256 * (256 * (256 * (256 * 0 + p7) + p6) + p5) + p4) + p3) + p2) + p1) + p0 = 1 * p0 + 256 * p1 + 65536 * p2 + 16777216 * p3 + 4294967296 * p4 + 1099511627776 * p5 + 281474976710656 * p6 + 72057594037927936 * p7 := by omega
  rw [e3, pw1 p0 p1 p2 p3 p4 p5 p6 p7 b0 b1 b2 b3 b4 b5 b6 b7, pw2 p0 p1 p2 p3 p4 p5 p6 p7 b0 b1 b2 b3 b4 b5 b6 b7, pw3 p0 p1 p2 p3 p4 p5 p6 p7 b0 b1 b2 b3 b4 b5 b6 b7, pw4 p0 p1 p2 p3 p4 p5 p6 p7 b0 b1 b2 b3 b4 b5 b6 b7]
theorem andI (a m : Nat) (ha : a < 2 ^ 64) (hm : m < 2 ^ 64) : BitVec.toNat (BitVec.ofInt 64 (a : Int) &&& BitVec.ofInt 64 (m : Int)) = (a &&& m) := by
  rw [BitVec.ofInt_natCast, BitVec.ofInt_natCast, BitVec.toNat_and, BitVec.toNat_ofNat, BitVec.toNat_ofNat, Nat.mod_eq_of_lt ha, Nat.mod_eq_of_lt hm]
theorem fdivI (a k : Nat) : Int.fdiv (a : Int) ((2 : Int) ^ k) = ((a / 2 ^ k : Nat) : Int) := by
  rw [Int.fdiv_eq_ediv_of_nonneg _ (Int.pow_nonneg (by decide))]
  norm_cast
theorem u64n (a : Nat) (ha : a < 2 ^ 64) : IntKind.wrap IntKind.u64 (a : Int) = (a : Int) := by
  have : IntKind.u64.wrap (a : Int) = (a : Int) % 18446744073709551616 := by simp [IntKind.wrap, IntKind.bits, IntKind.signed]
  rw [this]; omega
def a64 (x y : Int) : Int := IntKind.wrap IntKind.u64 (↑(BitVec.toNat (BitVec.ofInt 64 x &&& BitVec.ofInt 64 y)) : Int)
def s64 (x : Int) (k : Int) : Int := Int.fdiv x (2 ^ Min.min (Int.toNat k) 64)
def p64 (x y : Int) : Int := IntKind.wrap IntKind.u64 (x + y)
def m0 : Nat := 6148914691236517205
def m1 : Nat := 3689348814741910323
def m2 : Nat := 1085102592571150095
def o1 (w : Int) : Int := p64 (a64 (s64 w 1) 6148914691236517205) (a64 w 6148914691236517205)
def o2 (w : Int) : Int := p64 (a64 (s64 w 2) 3689348814741910323) (a64 w 3689348814741910323)
def o3 (w : Int) : Int := a64 (p64 (s64 w 4) w) 1085102592571150095
def o4 (w : Int) (k : Int) : Int := p64 w (s64 w k)
def onesI (w : Int) : Int := IntKind.wrap IntKind.i64 (↑(BitVec.toNat (BitVec.ofInt 64 (IntKind.wrap IntKind.i64 (o4 (o4 (o4 (o3 (o2 (o1 w))) 8) 16) 32)) &&& BitVec.ofInt 64 127)) : Int)
theorem a64n (a m : Nat) (ha : a < 2 ^ 64) (hm : m < 2 ^ 64) : a64 (a : Int) (m : Int) = ((a &&& m : Nat) : Int) := by
  unfold a64
  rw [andI a m ha hm, u64n _ (Nat.lt_of_le_of_lt Nat.and_le_left ha)]
theorem s64n (a k : Nat) (hk : k ≤ 64) : s64 (a : Int) (k : Int) = ((a / 2 ^ k : Nat) : Int) := by
  unfold s64
  rw [Int.toNat_natCast, Nat.min_eq_left hk, fdivI]
theorem p64n (a b : Nat) : p64 (a : Int) (b : Int) = (((a + b) % 2 ^ 64 : Nat) : Int) := by
  have : IntKind.u64.wrap ((a : Int) + b) = ((a : Int) + b) % 18446744073709551616 := by simp [IntKind.wrap, IntKind.bits, IntKind.signed]
  unfold p64
  rw [this]; omega
theorem rep85 : rep 85 8 = 6148914691236517205 := by decide
theorem rep51 : rep 51 8 = 3689348814741910323 := by decide
theorem rep15 : rep 15 8 = 1085102592571150095 := by decide
theorem o1n (w : Nat) (hw : w < 2 ^ 64) : o1 (w : Int) = ((S1 (rep 85 8) w : Nat) : Int) ∧ S1 (rep 85 8) w < 2 ^ 64 := by
  have h1 := s64n w 1 (by decide)
  have h2 := a64n (w / 2 ^ 1) 6148914691236517205 (Nat.lt_of_le_of_lt (Nat.div_le_self _ _) hw) (by decide)
  have h3 := a64n w 6148914691236517205 hw (by decide)
  have l1 : (w / 2 ^ 1 &&& 6148914691236517205) ≤ 6148914691236517205 := Nat.and_le_right
  have l2 : (w &&& 6148914691236517205) ≤ 6148914691236517205 := Nat.and_le_right
  have hs : S1 (rep 85 8) w = (w / 2 ^ 1 &&& 6148914691236517205) + (w &&& 6148914691236517205) := by rw [rep85]; rfl
  refine ⟨?_, by rw [hs]; omega⟩
  unfold o1
  rw [show (1 : Int) = ((1 : Nat) : Int) from rfl, h1, show (6148914691236517205 : Int) = ((6148914691236517205 : Nat) : Int) from rfl, h2, h3, p64n, hs, Nat.mod_eq_of_lt (by omega)]
theorem o2n (w : Nat) (hw : w < 2 ^ 64) : o2 (w : Int) = ((S2 (rep 51 8) w : Nat) : Int) ∧ S2 (rep 51 8) w < 2 ^ 64 := by
  have h1 := s64n w 2 (by decide)
  have h2 := a64n (w / 2 ^ 2) 3689348814741910323 (Nat.lt_of_le_of_lt (Nat.div_le_self _ _) hw) (by decide)
  have h3 := a64n w 3689348814741910323 hw (by decide)
  have l1 : (w / 2 ^ 2 &&& 3689348814741910323) ≤ 3689348814741910323 := Nat.and_le_right
  have l2 : (w &&& 3689348814741910323) ≤ 3689348814741910323 := Nat.and_le_right
  have hs : S2 (rep 51 8) w = (w / 2 ^ 2 &&& 3689348814741910323) + (w &&& 3689348814741910323) := by rw [rep51]; rfl
  refine ⟨?_, by rw [hs]; omega⟩
  unfold o2
  rw [show (2 : Int) = ((2 : Nat) : Int) from rfl, h1, show (3689348814741910323 : Int) = ((3689348814741910323 : Nat) : Int) from rfl, h2, h3, p64n, hs, Nat.mod_eq_of_lt (by omega)]
theorem t2_bound (n x : Nat) : 255 * T2 n x ≤ 68 * (256 ^ n - 1) := by
  induction n generalizing x with
  | zero => simp [T2, S2, S1, rep]
  | succ n ih =>
    have h := t2_step n (x / 256) (x % 256) (Nat.mod_lt _ (by decide))
    rw [Nat.div_add_mod] at h
    rw [h]
    have hb := (byte_ok ⟨x % 256, Nat.mod_lt _ (by decide)⟩).2.1
    dsimp only at hb
    have := ih (x / 256)
    have hp : 1 ≤ 256 ^ n := Nat.pos_of_ne_zero (by simp)
    rw [Nat.pow_succ]
    omega
theorem o3n (w : Nat) (hw : 255 * w ≤ 68 * (256 ^ 8 - 1)) : o3 (w : Int) = ((S3 (rep 15 8) w : Nat) : Int) ∧ S3 (rep 15 8) w < 2 ^ 64 := by
  have hw2 : w ≤ 4919131752989213764 := by omega
  have h1 := s64n w 4 (by decide)
  have hs : S3 (rep 15 8) w = ((w / 2 ^ 4 + w) &&& 1085102592571150095) := by rw [rep15]; rfl
  have l : ((w / 2 ^ 4 + w) &&& 1085102592571150095) ≤ 1085102592571150095 := Nat.and_le_right
  refine ⟨?_, by rw [hs]; omega⟩
  unfold o3
  have hsum : (w / 2 ^ 4 + w) % 2 ^ 64 = w / 2 ^ 4 + w := Nat.mod_eq_of_lt (by omega)
  rw [show (4 : Int) = ((4 : Nat) : Int) from rfl, h1, p64n, hsum, show (1085102592571150095 : Int) = ((1085102592571150095 : Nat) : Int) from rfl, a64n _ _ (by omega) (by decide), hs]
theorem o4n (w k : Nat) (hk : k ≤ 64) : o4 (w : Int) (k : Int) = (((w + w / 2 ^ k) % 2 ^ 64 : Nat) : Int) := by
  unfold o4
  rw [s64n w k hk, p64n]
theorem ofInt_i64 (x : Int) : BitVec.ofInt 64 (IntKind.wrap IntKind.i64 x) = BitVec.ofInt 64 x := by
  apply BitVec.eq_of_toNat_eq
  rw [BitVec.toNat_ofInt, BitVec.toNat_ofInt, IntKind.wrap_i64]
  congr 1
  omega
/-- The library's count of a word's bits is their count. -/
theorem onesI_eq (w : Nat) (hw : w < 2 ^ 64) : onesI (w : Int) = ((cnt w 64 : Nat) : Int) := by
  obtain ⟨e1, l1⟩ := o1n w hw
  obtain ⟨e2, l2⟩ := o2n (S1 (rep 85 8) w) l1
  obtain ⟨e3, l3⟩ := o3n (S2 (rep 51 8) (S1 (rep 85 8) w)) (t2_bound 8 w)
  have hx : popN w = cnt w 64 := popN_eq w
  unfold popN at hx
  unfold onesI
  rw [e1, e2, e3, show (8 : Int) = ((8 : Nat) : Int) from rfl, o4n _ 8 (by decide), show (16 : Int) = ((16 : Nat) : Int) from rfl, o4n _ 16 (by decide), show (32 : Int) = ((32 : Nat) : Int) from rfl, o4n _ 32 (by decide), ofInt_i64,
    show (127 : Int) = ((127 : Nat) : Int) from rfl, andI _ _ (Nat.mod_lt _ (by decide)) (by decide)]
  have e127 : ∀ a : Nat, a &&& 127 = a % 128 := fun a => Nat.and_two_pow_sub_one_eq_mod a 7
  rw [e127]
  have hl := cnt_le w 64
  rw [← hx] at hl ⊢
  rw [IntKind.wrap_i64]
  have hlt : ∀ a : Nat, (((a % 128 : Nat) : Int) + 9223372036854775808) % 18446744073709551616 - 9223372036854775808 = ((a % 128 : Nat) : Int) := fun a => by omega
  exact hlt _
theorem testBit_cnt (w n : Nat) : cnt w (n + 1) = cnt w n + (w.testBit n).toNat := by
  rw [cnt, Nat.testBit_eq_decide_div_mod_eq]
  have : w / 2 ^ n % 2 < 2 := Nat.mod_lt _ (by decide)
  by_cases h : w / 2 ^ n % 2 = 1
  · rw [h]; rfl
  · rw [decide_eq_false h, show w / 2 ^ n % 2 = 0 by omega]; rfl
theorem cnt_skip (w a : Nat) : ∀ d, (∀ i, a ≤ i → i < a + d → w.testBit i = false) → cnt w (a + d) = cnt w a := by
  intro d
  induction d with
  | zero => intro _; rfl
  | succ d ih =>
    intro h
    rw [← Nat.add_assoc, testBit_cnt, h (a + d) (by omega) (by omega), ih fun i h1 h2 => h i h1 (by omega)]
    rfl
theorem cnt_turn (w : Nat) (hw : w < 2 ^ 64) : ∀ n, n ≤ 64 → cnt w n + cnt (turn w) n = n := by
  intro n
  induction n with
  | zero => intro _; rfl
  | succ n ih =>
    intro h
    have := ih (by omega)
    rw [testBit_cnt, testBit_cnt, turn_bit w n hw, decide_eq_true (show n < 64 by omega), Bool.true_and]
    cases w.testBit n <;> simp <;> omega
/-- The least bit that is 1, from one on; 64: none. -/
def IsNext (w f r : Nat) : Prop := r ≤ 64 ∧ (∀ i, f ≤ i → i < r → w.testBit i = false) ∧ (r < 64 → f ≤ r ∧ w.testBit r = true)
theorem isNext_unique {w f r s : Nat} (h : IsNext w f r) (g : IsNext w f s) : r = s := by
  obtain ⟨h1, h2, h3⟩ := h
  obtain ⟨g1, g2, g3⟩ := g
  rcases Nat.lt_trichotomy r s with hl | he | hl
  · have a := h3 (by omega)
    have b := g2 r a.1 hl
    rw [a.2] at b; cases b
  · exact he
  · have a := g3 (by omega)
    have b := h2 s a.1 hl
    rw [a.2] at b; cases b
theorem ctz_next (w : Nat) (hw : w < 2 ^ 64) : IsNext w 0 (Lib.ctz 64 w) := by
  by_cases h0 : w = 0
  · subst h0
    exact ⟨Nat.le_refl _, fun i _ _ => Nat.zero_testBit i, fun h => absurd h (by decide)⟩
  · obtain ⟨m, hm, hk⟩ := Lib.ctzFrom_spec 64 w (by omega) hw
    have e : Lib.ctz 64 w = Lib.ctzFrom 64 w := by unfold Lib.ctz; rw [if_neg h0]
    rw [e]
    generalize Lib.ctzFrom 64 w = k at *
    have tb : ∀ i, w.testBit i = (decide (k ≤ i) && (2 * m + 1).testBit (i - k)) := fun i => by rw [hm, Nat.mul_comm, Nat.testBit_mul_two_pow]
    refine ⟨by omega, fun i _ hi => by rw [tb, decide_eq_false (by omega)]; rfl, fun _ => ⟨Nat.zero_le _, ?_⟩⟩
    rw [tb, decide_eq_true (Nat.le_refl k), Nat.sub_self, Bool.true_and, Nat.testBit_zero]
    simp
def nextN (w f : Nat) : Nat := if f ≥ 64 then 64 else Lib.ctz 64 (w &&& turn (2 ^ f - 1))
theorem next_is (w f : Nat) (hw : w < 2 ^ 64) : IsNext w f (nextN w f) := by
  unfold nextN
  by_cases hf : f ≥ 64
  · rw [if_pos hf]; exact ⟨Nat.le_refl _, fun i h1 h2 => by omega, fun h => absurd h (by decide)⟩
  · rw [if_neg hf]
    have hm := mask_lt f (by omega)
    have hx : (w &&& turn (2 ^ f - 1)) < 2 ^ 64 := Nat.lt_of_le_of_lt Nat.and_le_left hw
    have tb : ∀ i, (w &&& turn (2 ^ f - 1)).testBit i = (w.testBit i && (decide (i < 64) && !decide (i < f))) := fun i => by
      rw [Nat.testBit_and, turn_bit _ _ hm, mask_bit]
    obtain ⟨h1, h2, h3⟩ := ctz_next _ hx
    refine ⟨h1, fun i hi hl => ?_, fun hl => ?_⟩
    · have := h2 i (Nat.zero_le _) hl
      rw [tb, decide_eq_true (show i < 64 by omega), decide_eq_false (show ¬ i < f by omega)] at this
      simpa using this
    · have := (h3 hl).2
      rw [tb] at this
      simp only [Bool.and_eq_true, Bool.not_eq_true', decide_eq_false_iff_not, decide_eq_true_eq] at this
      exact ⟨by omega, this.1⟩
end Go.Proofs.YtjhlfolgadaliaaDoor.AI
