/- A function over an iterator (find), told. -/
import Derived.Test.YtgfjnnkhlgmbcaaGreatProg
import Derived.RangeFuncBox
import Derived.RangeFuncLeaves
import Derived.Shelf.Abstract
import Derived.WalkKit
import Derived.OwnWalkIn
import Derived.TacticsInMore
import Derived.LoopNIn
import Derived.LoopIn
import Derived.KernelRfl
namespace Go.Proofs.YtgfjnnkhlgmbcaaGreat.AI
open Go Go.RowKit Go.Shelf
set_option linter.unusedVariables false
set_option linter.unusedSimpArgs false
attribute [local go_sem] Oper.semAt_some
/-- What has come when k rounds are over, from the last on. -/
def upB {α : Type} (f : Nat → α) (N k : Nat) : List α := (List.range k).map fun j => f (N - 1 - j)
theorem upB_succ {α : Type} (f : Nat → α) (N k : Nat) : upB f N (k + 1) = upB f N k ++ [f (N - 1 - k)] := by simp [upB, List.range_succ]
theorem upB_length {α : Type} (f : Nat → α) (N k : Nat) : (upB f N k).length = k := by simp [upB]
abbrev Els (G : Value → Prop) := Nat × { v : Value // G v }
/-- What lies below n₀ is kept, and so is the cell of block Bs. -/
def KpB (n₀ Bs : Nat) (W W' : World) : Prop := Below n₀ W W' ∧ ∀ v, W.cell? ⟨Bs, 0, none⟩ = some v → W'.cell? ⟨Bs, 0, none⟩ = some v
theorem KpB.refl (n₀ Bs : Nat) (W : World) : KpB n₀ Bs W W := ⟨Below.refl _ _, fun _ h => h⟩
theorem KpB.trans {n₀ Bs : Nat} {A B C : World} (h : KpB n₀ Bs A B) (h' : KpB n₀ Bs B C) : KpB n₀ Bs A C := ⟨h.1.trans h'.1, fun v e => h'.2 v (h.2 v e)⟩
set_option maxRecDepth 100000 in
set_option maxHeartbeats 2000000 in
theorem back1_in {G : Value → Prop} (F : Fence) (n : Nat) (h8 : F.fn 131) (hro : F.round = none) (hn : 1 ≤ n) (l Bs n₀ b off len cap : Nat) (zs : Nat → { v : Value // G v }) (hreach : len * 8 ≤ 140737488351232) (hb : b < n₀) (J Jx : List (Els G) → World → Prop)
    (hY : ∀ pre x W, J pre W → pre.length < len → YieldAt F (n - 1) Tryz.prog l #[.int .i64 (x.1 : Int), x.2.1] W fun e W' =>
      (e = .returned (.bool true) ∧ J (pre ++ [x]) W' ∧ KpB n₀ Bs W W') ∨ (e = .returned (.bool false) ∧ Jx (pre ++ [x]) W'))
    (W : World) (hBs : W.cell? ⟨Bs, 0, none⟩ = some (.slice (some ⟨b, off, none⟩) len cap)) (hc : ∀ j, j < len → W.cell? ⟨b, off + j, none⟩ = some (zs j).1) (h0 : J [] W) :
    CallsIn F n Tryz.prog 131 #[.func (.yield l) #[] #[], .pointer (some ⟨Bs, 0, none⟩)] W fun e W' => (∃ v, e = .returned v) ∧
      ((∃ ys, ys = upB (fun j => (j, zs j)) len len ∧ J ys W') ∨ (∃ pre, (∃ k, k ≤ len ∧ pre = upB (fun j => (j, zs j)) len k) ∧ Jx pre W')) := by
  refine callsIn_of_wp Tryz.func131 rfl h8 ?_ hro
  simp only [Tryz.ntmps131, List.size_toArray, List.length_cons, List.length_nil, Nat.reduceAdd, Nat.reduceSub, Array.replicate_succ, Array.replicate_zero, List.push_toArray, List.append_toArray, List.nil_append, List.cons_append]
  gi_wp2
  gi_loopw [3] (fun i wr => ∃ k : Nat, k ≤ len ∧ i = .int .i64 ((len : Int) - 1 - k) ∧ J (upB (fun j => (j, zs j)) len k) wr ∧ KpB n₀ Bs W wr)
    (fun i _ => (intOf i + 1).toNat)
  case atStart => exact ⟨0, Nat.zero_le _, by simp, h0, KpB.refl _ _ _⟩
  case round =>
    obtain ⟨k, hk, rfl, hJs, hnx⟩ := hrel
    have hBx : wr.cell? ⟨Bs, 0, none⟩ = some (.slice (some ⟨b, off, none⟩) len cap) := hnx.2 _ hBs
    by_cases hlt : k < len
    · obtain ⟨j, e, hjl, hup, hnx1⟩ : ∃ j : Nat, (len : Int) - 1 - k = (j : Int) ∧ j < len ∧ upB (fun j => (j, zs j)) len (k + 1) = upB (fun j => (j, zs j)) len k ++ [(j, zs j)] ∧ (j : Int) - 1 = (len : Int) - 1 - ((k + 1 : Nat) : Int) :=
        ⟨len - 1 - k, by omega, by omega, upB_succ _ _ _, by omega⟩
      rw [e]
      have hcx : wr.cell? ⟨b, off + j, none⟩ = some (zs j).1 := (hnx.1.cell (p := ⟨b, off + j, none⟩) hb).trans (hc j hjl)
      obtain ⟨fn, tmps, assign, body, hy, hR⟩ := hY _ (j, zs j) wr hJs (by rw [upB_length]; exact hlt)
      dsimp only at hy
      clear e
      gi_wp2
      refine hR.mono ?_
      rintro e W3 (⟨rfl, hJ3, hk3⟩ | ⟨rfl, hJx3⟩)
      · have hBx3 : W3.cell? ⟨Bs, 0, none⟩ = some (.slice (some ⟨b, off, none⟩) len cap) := hk3.2 _ hBx
        gi_wp2
        go_roundw
        case rel => exact ⟨k + 1, by omega, congrArg (Value.int .i64) (by omega), by rw [hup]; exact hJ3, hnx.trans hk3⟩
        case measure => (simp only [intOf]; omega)
      · gi_wp2
        refine bodyPost_ret (results_none rfl _ _ _) rfl ?_
        exact ⟨⟨_, rfl⟩, .inr ⟨_, ⟨k + 1, by omega, hup.symm⟩, hJx3⟩⟩
    · obtain rfl : k = len := by omega
      have e : (k : Int) - 1 - k = -1 := by omega
      rw [e]
      gi_wp2
      go_end0
      exact ⟨⟨_, rfl⟩, .inl ⟨_, rfl, hJs⟩⟩
set_option maxHeartbeats 1000000 in
theorem back_in (F : Fence) (n : Nat) (h6 : F.fn 127) (hro : F.round = none) (a : Option Addr) (len cap : Nat) (w : World) :
    CallsIn F n Tryz.prog 127 #[.slice a len cap] w fun e w' => e = .returned (.func (.func 131) #[] #[.pointer (some ⟨w.heap.size, 0, none⟩)]) ∧ w' = w.alloc (.cells #[.slice a len cap] 49) := by
  refine callsIn_of_wp Tryz.func127 rfl h6 ?_ hro
  simp only [Tryz.ntmps127, List.size_toArray, List.length_cons, List.length_nil, Nat.reduceAdd, Nat.reduceSub, Array.replicate_succ, Array.replicate_zero, List.push_toArray, List.append_toArray, List.nil_append, List.cons_append]
  gi_wp2
  go_ret
  exact ⟨rfl, rfl⟩
theorem back_stops {G : Value → Prop} (F : Fence) (n : Nat) (h8 : F.fn 131) (hro : F.round = none) (hn : 1 ≤ n) (Bs n₀ b off len cap : Nat) (zs : Nat → { v : Value // G v }) (hreach : len * 8 ≤ 140737488351232) (w : World) (hb : b < n₀) (hbs : Bs < w.heap.size) (hn₀ : n₀ ≤ w.heap.size)
    (hBs : w.cell? ⟨Bs, 0, none⟩ = some (.slice (some ⟨b, off, none⟩) len cap)) (hc : ∀ j, j < len → w.cell? ⟨b, off + j, none⟩ = some (zs j).1) :
    SeqStopsK F n Tryz.prog 131 #[.pointer (some ⟨Bs, 0, none⟩)] (fun x : Els G => #[Value.int .i64 (x.1 : Int), x.2.1]) (KpB n₀ Bs) (fun ys => ys = upB (fun j => (j, zs j)) len len)
      (fun pre => ∃ k, k ≤ len ∧ pre = upB (fun j => (j, zs j)) len k) len w := fun l J Jx W hW _ _ hY h0 =>
  back1_in F n h8 hro hn l Bs n₀ b off len cap zs hreach hb J Jx hY W ((hW.cell (p := ⟨Bs, 0, none⟩) hbs).trans hBs) (fun j hj => (hW.cell (p := ⟨b, off + j, none⟩) (Nat.lt_of_lt_of_le hb hn₀)).trans (hc j hj)) h0

/-- A record's name is this one. -/
def isNm (s : ByteArray) (r : Array Value) : Bool := match (r[0]? : Option Value) with
  | some (Value.string t) => t.toList == s.toList
  | _ => false
/-- A variable's record. -/
def IsRec (r : Array Value) : Prop := ∃ t a b c p l c' d, r = #[.string t, .string a, .string b, .int .i64 c, .slice p l c', .int .i64 d]
/-- A slice of variables. -/
def VarsAt (w : World) (v : Value) (rs : List (Array Value)) : Prop :=
  (v = .slice none 0 0 ∧ rs = []) ∨ ∃ b off cap, v = .slice (some ⟨b, off, none⟩) rs.length cap ∧ b < w.heap.size ∧ rs.length * 80 ≤ 140737488351232 ∧
    ∀ i r, rs[i]? = some r → IsRec r ∧ ∀ k, k < 6 → w.cell? ⟨b, off + i * 6 + k, none⟩ = r[k]?
def hit (s : ByteArray) (rs : List (Array Value)) : Option (Array Value) := rs.find? (isNm s)

theorem upB_prefix {α : Type} (f : Nat → α) (N : Nat) {k m : Nat} (h : k ≤ m) : ∃ r, upB f N m = upB f N k ++ r := by
  induction m with
  | zero => obtain rfl : k = 0 := by omega
            exact ⟨[], by simp⟩
  | succ m ih =>
    by_cases hk : k = m + 1
    · exact ⟨[], by simp [hk]⟩
    · obtain ⟨r, hr⟩ := ih (by omega)
      exact ⟨r ++ [f (N - 1 - m)], by rw [upB_succ, hr, List.append_assoc]⟩
theorem hit_at {s : ByteArray} : ∀ {rs : List (Array Value)} {k : Nat} {r : Array Value}, (∀ x ∈ rs.take k, isNm s x = false) → rs[k]? = some r → isNm s r = true → hit s rs = some r := by
  intro rs
  induction rs with
  | nil => intro k r _ h _; simp at h
  | cons a rs ih =>
    intro k r h hr hk
    cases k with
    | zero => obtain rfl : a = r := by simpa using hr
              simp [hit, List.find?_cons, hk]
    | succ k =>
      have ha : isNm s a = false := h a (by simp)
      have := ih (k := k) (r := r) (fun x hx => h x (by simp [hx])) (by simpa using hr) hk
      simp only [hit, List.find?_cons, ha]
      exact this
theorem hit_no {s : ByteArray} {rs : List (Array Value)} (h : ∀ x ∈ rs.take rs.length, isNm s x = false) : hit s rs = none := by
  rw [List.take_length] at h
  unfold hit
  rw [List.find?_eq_none]
  intro x hx
  rw [h x hx]
  decide
theorem keeps_of_below {W W' : World} (h : Below W.heap.size W W') : KeepsOthers W W' := ⟨h.size, fun k o ho _ => (h.block k (Array.getElem?_eq_some_iff.1 ho).1).trans ho⟩
theorem setCell_at {W : World} {B i : Nat} {v : Value} {cs : Array Value} {t : TypeId} {fr : Nat × Nat} (h : W.heap[B]? = some (.cells cs t fr)) : (W.setCell ⟨B, i, none⟩ v).heap[B]? = some (.cells (cs.setIfInBounds i v) t fr) := by
  obtain ⟨hlt, hk⟩ := Array.getElem?_eq_some_iff.1 h
  show (W.heap.modify B _)[B]? = _
  rw [Array.getElem?_eq_getElem (by rw [Array.size_modify]; exact hlt), Array.getElem_modify_self, hk]
  rfl
abbrev zN : Value := .string ⟨#[]⟩
abbrev rec0 : Array Value := #[zN, zN, zN, .int .i64 0, .slice none 0 0, .int .i64 0]
set_option maxRecDepth 100000 in
set_option maxHeartbeats 2000000 in
theorem find_in (F : Fence) (n : Nat) (h4 : F.fn 113) (h6 : F.fn 127) (h8 : F.fn 131) (hro : F.round = none) (hn : 3 ≤ n) (w : World) (cb co b off len cap : Nat) (s : ByteArray) (rec : Value → List (Array Value)) (zs : Nat → { v : Value // VarsAt w v (rec v) }) (hreach : len * 8 ≤ 140737488351232)
    (hsc : w.cell? ⟨cb, co + 6, none⟩ = some (.slice (some ⟨b, off, none⟩) len cap)) (hcb : cb < w.heap.size) (hb : b < w.heap.size) (hz : ∀ j, j < len → w.cell? ⟨b, off + j, none⟩ = some (zs j).1) :
    CallsIn F n Tryz.prog 113 #[.pointer (some ⟨cb, co, none⟩), .string s] w fun e W' =>
      e = .returned (.tuple #[.agg (((upB (fun j => (j, zs j)) len len).findSome? fun x => hit s (rec x.2.1)).getD rec0), .bool ((upB (fun j => (j, zs j)) len len).findSome? fun x => hit s (rec x.2.1)).isSome]) ∧ Below w.heap.size w W' := by
  have h1 : 1 ≤ n := by omega
  obtain ⟨fs, hfs⟩ : ∃ fs, ((upB (fun j => (j, zs j)) len len).findSome? fun x => hit s (rec x.2.1)) = fs := ⟨_, rfl⟩
  rw [hfs]
  have hB3 : Below w.heap.size w (((w.alloc (.cells #[.string s] 9)).alloc (.cells rec0 105)).alloc (.cells #[.bool false] 4)) := (((Below.refl _ w).alloc (Nat.le_refl _) _).alloc (by simp) _).alloc (by simp; omega) _
  have hsc3 := (hB3.cell (p := ⟨cb, co + 6, none⟩) hcb).trans hsc
  refine callsIn_of_wp_marks Tryz.func113 rfl h4 ?_ hro
  simp only [Tryz.ntmps113, List.size_toArray, List.length_cons, List.length_nil, Nat.reduceAdd, Nat.reduceSub, Array.replicate_succ, Array.replicate_zero, List.push_toArray, List.append_toArray, List.nil_append, List.cons_append]
  gi_wp2_with (gi_at_call 127; refine (back_in F (n - 1) h6 hro _ _ _ _).mono ?_; rintro e w' ⟨rfl, rfl⟩)
  have hB4 := hB3.alloc hB3.size (.cells #[.slice (some ⟨b, off, none⟩) len cap] 49)
  have bN := Boxed.new (((w.alloc (.cells #[.string s] 9)).alloc (.cells rec0 105)).alloc (.cells #[.bool false] 4)) 49 (.slice (some ⟨b, off, none⟩) len cap)
  have bS := (((Boxed.new w 9 (.string s)).alloc (.cells rec0 105)).alloc (.cells #[.bool false] 4)).alloc (.cells #[.slice (some ⟨b, off, none⟩) len cap] 49)
  have bF := (Boxed.new ((w.alloc (.cells #[.string s] 9)).alloc (.cells rec0 105)) 4 (.bool false)).alloc (.cells #[.slice (some ⟨b, off, none⟩) len cap] 49)
  simp only [World.size_alloc] at bN bF
  refine wpIn_rangeFunc_ownG hro h1 (gf := 131) (lb := #[.pointer (some ⟨w.heap.size + 1 + 1 + 1, 0, none⟩)]) rfl h8 (enters_of Tryz.func131 (by kernel_rfl) rfl)
    (back_stops F (n - 1) h8 hro (by omega) (w.heap.size + 1 + 1 + 1) w.heap.size b off len cap zs hreach _ hb (by simp) (by simp; omega) bN.cell (fun j hj => (hB4.cell (p := ⟨b, off + j, none⟩) hb).trans (hz j hj)))
    (fun h h' => h.trans h') ?kb (Below.refl _ _) (fun _ => rfl)
    (fun pre W => ((pre.findSome? fun x => hit s (rec x.2.1)) = none ∧ Boxed W w.heap.size 9 (.string s) ∧ W.heap[w.heap.size + 1]? = some (.cells rec0 105 (0, 0)) ∧ Boxed W (w.heap.size + 1 + 1) 4 (.bool false)) ∧ Below w.heap.size w W)
    (fun c pre W => (c = .ret ∧ ∃ r, r.size = 6 ∧ (pre.findSome? fun x => hit s (rec x.2.1)) = some r ∧ W.heap[w.heap.size + 1]? = some (.cells r 105 (0, 0)) ∧ Boxed W (w.heap.size + 1 + 1) 4 (.bool true)) ∧ Below w.heap.size w W)
    (OwnFrom.and (Own.from (fun s A B row hs hg hr => ⟨hs.1, (grownBy_keeps_cells hg hr hs.2.1 rfl).trans hs.2.1, (grownBy_keeps_cells hg hr hs.2.2.1 rfl).trans hs.2.2.1, (grownBy_keeps_cells hg hr hs.2.2.2 rfl).trans hs.2.2.2⟩) _) (ownFrom_below (Nat.le_refl _) (by simp; omega)))
    (fun c => OwnFrom.and (Own.from (fun s A B row hs hg hr => by
      obtain ⟨hc, r, e0, e1, e2, e3⟩ := hs
      exact ⟨hc, r, e0, e1, (grownBy_keeps_cells hg hr e2 rfl).trans e2, (grownBy_keeps_cells hg hr e3 rfl).trans e3⟩) _) (ownFrom_below (Nat.le_refl _) (by simp; omega)))
    ⟨⟨rfl, bS, ?rec1, bF⟩, hB4⟩
    (fun x => { tmps := #[.pointer (some ⟨cb, co, none⟩), .string s, undef, .pointer (some ⟨w.heap.size, 0, none⟩), .pointer (some ⟨w.heap.size + 1, 0, none⟩), .pointer (some ⟨w.heap.size + 1 + 1, 0, none⟩), undef, x.2.1, undef, undef,
      .pointer (some ⟨cb, co, none⟩), .pointer (some ⟨cb, co, none⟩), .pointer (some ⟨cb, co + 6, none⟩), .slice (some ⟨b, off, none⟩) len cap, .func (.func 131) #[] #[.pointer (some ⟨w.heap.size + 1 + 1 + 1, 0, none⟩)],
      .int .i64 (x.1 : Int), x.2.1, undef, undef, undef, undef, undef, undef, undef, undef, undef, undef, undef, undef, undef], defers := [] }) ?assign ?body ?done ?stop
  case rec1 =>
    have r1 := World.alloc_heap_new (w.alloc (.cells #[.string s] 9)) (.cells rec0 105)
    rw [World.size_alloc] at r1
    have r2 := ((World.grownBy_alloc ((w.alloc (.cells #[.string s] 9)).alloc (.cells rec0 105)) (.cells #[.bool false] 4) none).block _ (by simp) (by simp)).trans r1
    exact ((World.grownBy_alloc (((w.alloc (.cells #[.string s] 9)).alloc (.cells rec0 105)).alloc (.cells #[.bool false] 4)) (.cells #[.slice (some ⟨b, off, none⟩) len cap] 49) none).block _ (by simp) (by simp)).trans r2
  case kb =>
    intro W l o o' hl ho h1 h2
    refine ⟨belowK_b (by simp; omega) W l o o' hl ho h1 h2, fun v hv => ?_⟩
    exact cell_kept hv (grownBy_putObj' W l o') (fun r e => by cases e; exact ⟨_, ho, h1⟩)
  case assign =>
    intro l x W K hK
    gi_wp2
    exact hK
  case body =>
    rintro l pre ⟨j, v, hv⟩ W ⟨⟨hm, hS, hR, hF⟩, hB⟩ _
    dsimp only
    obtain ⟨rs, hrs⟩ : ∃ rs, rec v = rs := ⟨_, rfl⟩
    rw [hrs] at hv
    rcases hv with ⟨rfl, h0⟩ | ⟨b2, o2, c2, rfl, hb2, hsm, hcs⟩
    · subst h0
      gi_wp2
      gi_loopw [19] (fun i wr => i = .int .i64 0 ∧ wr = W) (fun _ _ => 0)
      case atStart => exact ⟨rfl, rfl⟩
      case round =>
        obtain ⟨rfl, rfl⟩ := hrel
        gi_wp2
        exact ⟨KeepsFrom.refl _ _, KpB.refl _ _ _, ⟨by rw [List.findSome?_append, hm]; simp [hrs, hit], hS, hR, hF⟩, hB⟩
    · gi_wp2
      gi_loopw [19] (fun i wr => ∃ k : Nat, k ≤ rs.length ∧ i = .int .i64 k ∧ (∀ r ∈ rs.take k, isNm s r = false) ∧ Below W.heap.size W wr)
        (fun i _ => ((rs.length : Int) - intOf i).toNat)
      case atStart => exact ⟨0, Nat.zero_le _, rfl, by simp, Below.refl _ _⟩
      case round =>
        obtain ⟨k, hk, rfl, hno, hb1⟩ := hrel
        have hbW : b2 < W.heap.size := Nat.lt_of_lt_of_le hb2 hB.size
        by_cases hlt : k < rs.length
        · obtain ⟨r, hr⟩ : ∃ r, rs[k]? = some r := ⟨_, List.getElem?_eq_getElem hlt⟩
          obtain ⟨⟨t, r1, r2, r3, r4, l4, c4', r5, rfl⟩, hc6⟩ := hcs k r hr
          have cell : ∀ c, c < 6 → wr.cell? ⟨b2, o2 + k * 6 + c, none⟩ = #[Value.string t, .string r1, .string r2, .int .i64 r3, .slice r4 l4 c4', .int .i64 r5][c]? := fun c hc => (hb1.cell (p := ⟨b2, o2 + k * 6 + c, none⟩) hbW).trans ((hB.cell (p := ⟨b2, o2 + k * 6 + c, none⟩) hb2).trans (hc6 c hc))
          have c0 : wr.cell? ⟨b2, o2 + k * 6, none⟩ = some (.string t) := cell 0 (by omega)
          have c1 : wr.cell? ⟨b2, o2 + k * 6 + 1, none⟩ = some (.string r1) := cell 1 (by omega)
          have c2 : wr.cell? ⟨b2, o2 + k * 6 + 2, none⟩ = some (.string r2) := cell 2 (by omega)
          have c3 : wr.cell? ⟨b2, o2 + k * 6 + 3, none⟩ = some (.int .i64 r3) := cell 3 (by omega)
          have c4 : wr.cell? ⟨b2, o2 + k * 6 + 4, none⟩ = some (.slice r4 l4 c4') := cell 4 (by omega)
          have c5 : wr.cell? ⟨b2, o2 + k * 6 + 5, none⟩ = some (.int .i64 r5) := cell 5 (by omega)
          clear cell hc6 hcs
          have hbx : Below W.heap.size W (wr.alloc (.cells #[.string t, .string r1, .string r2, .int .i64 r3, .slice r4 l4 c4', .int .i64 r5] 105)) := hb1.alloc hb1.size _
          have a0 : (wr.alloc (.cells #[.string t, .string r1, .string r2, .int .i64 r3, .slice r4 l4 c4', .int .i64 r5] 105)).cell? ⟨w.heap.size, 0, none⟩ = some (.string s) := (hbx.cell (p := ⟨w.heap.size, 0, none⟩) hS.lt).trans hS.cell
          have aR : (wr.alloc (.cells #[.string t, .string r1, .string r2, .int .i64 r3, .slice r4 l4 c4', .int .i64 r5] 105)).heap[w.heap.size + 1]? = some (.cells rec0 105 (0, 0)) := (hbx.block _ (Array.getElem?_eq_some_iff.1 hR).1).trans hR
          have aF : Boxed (wr.alloc (.cells #[.string t, .string r1, .string r2, .int .i64 r3, .slice r4 l4 c4', .int .i64 r5] 105)) (w.heap.size + 1 + 1) 4 (.bool false) := (hbx.block _ hF.lt).trans hF
          have aF1 := aF.cell
          have aF2 := aF.frozen
          have aR0 : (wr.alloc (.cells #[.string t, .string r1, .string r2, .int .i64 r3, .slice r4 l4 c4', .int .i64 r5] 105)).cell? ⟨w.heap.size + 1, 0, none⟩ = some (zN) := by simp [World.cell?, aR]
          have aZ0 : (wr.alloc (.cells #[.string t, .string r1, .string r2, .int .i64 r3, .slice r4 l4 c4', .int .i64 r5] 105)).frozen? ⟨w.heap.size + 1, 0, none⟩ = false := by simp [World.frozen?, aR]
          have aR1 : (wr.alloc (.cells #[.string t, .string r1, .string r2, .int .i64 r3, .slice r4 l4 c4', .int .i64 r5] 105)).cell? ⟨w.heap.size + 1, 1, none⟩ = some (zN) := by simp [World.cell?, aR]
          have aZ1 : (wr.alloc (.cells #[.string t, .string r1, .string r2, .int .i64 r3, .slice r4 l4 c4', .int .i64 r5] 105)).frozen? ⟨w.heap.size + 1, 1, none⟩ = false := by simp [World.frozen?, aR]
          have aR2 : (wr.alloc (.cells #[.string t, .string r1, .string r2, .int .i64 r3, .slice r4 l4 c4', .int .i64 r5] 105)).cell? ⟨w.heap.size + 1, 2, none⟩ = some (zN) := by simp [World.cell?, aR]
          have aZ2 : (wr.alloc (.cells #[.string t, .string r1, .string r2, .int .i64 r3, .slice r4 l4 c4', .int .i64 r5] 105)).frozen? ⟨w.heap.size + 1, 2, none⟩ = false := by simp [World.frozen?, aR]
          have aR3 : (wr.alloc (.cells #[.string t, .string r1, .string r2, .int .i64 r3, .slice r4 l4 c4', .int .i64 r5] 105)).cell? ⟨w.heap.size + 1, 3, none⟩ = some (.int .i64 0) := by simp [World.cell?, aR]
          have aZ3 : (wr.alloc (.cells #[.string t, .string r1, .string r2, .int .i64 r3, .slice r4 l4 c4', .int .i64 r5] 105)).frozen? ⟨w.heap.size + 1, 3, none⟩ = false := by simp [World.frozen?, aR]
          have aR4 : (wr.alloc (.cells #[.string t, .string r1, .string r2, .int .i64 r3, .slice r4 l4 c4', .int .i64 r5] 105)).cell? ⟨w.heap.size + 1, 4, none⟩ = some (.slice none 0 0) := by simp [World.cell?, aR]
          have aZ4 : (wr.alloc (.cells #[.string t, .string r1, .string r2, .int .i64 r3, .slice r4 l4 c4', .int .i64 r5] 105)).frozen? ⟨w.heap.size + 1, 4, none⟩ = false := by simp [World.frozen?, aR]
          have aR5 : (wr.alloc (.cells #[.string t, .string r1, .string r2, .int .i64 r3, .slice r4 l4 c4', .int .i64 r5] 105)).cell? ⟨w.heap.size + 1, 5, none⟩ = some (.int .i64 0) := by simp [World.cell?, aR]
          have aZ5 : (wr.alloc (.cells #[.string t, .string r1, .string r2, .int .i64 r3, .slice r4 l4 c4', .int .i64 r5] 105)).frozen? ⟨w.heap.size + 1, 5, none⟩ = false := by simp [World.frozen?, aR]
          cases hts : (t.toList == s.toList) with
          | true =>
            gi_wp2
            have g6 := setCell_at (i := 5) (v := .int .i64 r5) (setCell_at (i := 4) (v := .slice r4 l4 c4') (setCell_at (i := 3) (v := .int .i64 r3) (setCell_at (i := 2) (v := .string r2) (setCell_at (i := 1) (v := .string r1) (setCell_at (i := 0) (v := .string t) aR)))))
            have ne1 : w.heap.size + 1 + 1 ≠ w.heap.size + 1 := by omega
            refine ⟨?_, ⟨rfl, #[.string t, .string r1, .string r2, .int .i64 r3, .slice r4 l4 c4', .int .i64 r5], rfl, ?_, ?_, ?_⟩, ?_⟩
            · refine ((((((((keeps_of_below hbx).trans (KeepsOthers.setCell _ _ _)).trans (KeepsOthers.setCell _ _ _)).trans (KeepsOthers.setCell _ _ _)).trans (KeepsOthers.setCell _ _ _)).trans (KeepsOthers.setCell _ _ _)).trans (KeepsOthers.setCell _ _ _)).trans (KeepsOthers.setCell _ _ _)).from _
            · have hh : hit s rs = some #[.string t, .string r1, .string r2, .int .i64 r3, .slice r4 l4 c4', .int .i64 r5] := hit_at hno hr hts
              rw [List.findSome?_append, hm]
              simp [hrs, hh]
            · exact (Below.heap_setCell _ _ _ _ (by dsimp only; omega)).trans g6
            · exact Boxed.set _ ((Below.heap_setCell _ _ _ _ ne1).trans ((Below.heap_setCell _ _ _ _ ne1).trans ((Below.heap_setCell _ _ _ _ ne1).trans ((Below.heap_setCell _ _ _ _ ne1).trans ((Below.heap_setCell _ _ _ _ ne1).trans ((Below.heap_setCell _ _ _ _ ne1).trans aF))))))
            · have l1 : w.heap.size ≤ w.heap.size + 1 := by omega
              exact (((((((hB.trans (hbx.mono hB.size)).setCell (p := ⟨w.heap.size + 1, 0, none⟩) l1 _).setCell (p := ⟨w.heap.size + 1, 1, none⟩) l1 _).setCell (p := ⟨w.heap.size + 1, 2, none⟩) l1 _).setCell (p := ⟨w.heap.size + 1, 3, none⟩) l1 _).setCell (p := ⟨w.heap.size + 1, 4, none⟩) l1 _).setCell (p := ⟨w.heap.size + 1, 5, none⟩) l1 _).setCell (p := ⟨w.heap.size + 1 + 1, 0, none⟩) (by dsimp only; omega) _
          | false =>
            gi_wp2
            refine ⟨⟨k + 1, hlt, by simp, ?_, hbx⟩, by simp [intOf]; omega⟩
            intro r hr'
            rw [List.take_add_one, hr] at hr'
            rcases List.mem_append.1 hr' with h | h
            · exact hno r h
            · obtain rfl := by simpa using h
              exact hts
        · obtain rfl : k = rs.length := by omega
          gi_wp2
          refine ⟨(keeps_of_below hb1).from _, ⟨hb1.mono hB.size, fun v hv' => ?_⟩, ⟨?_, (hb1.block _ hS.lt).trans hS, (hb1.block _ (Array.getElem?_eq_some_iff.1 hR).1).trans hR, (hb1.block _ hF.lt).trans hF⟩, hB.trans (hb1.mono hB.size)⟩
          · obtain ⟨o, ho, _⟩ := cells_of_cell hv'
            exact (hb1.cell (p := ⟨w.heap.size + 1 + 1 + 1, 0, none⟩) (Array.getElem?_eq_some_iff.1 ho).1).trans hv'
          · have hh : hit s rs = none := hit_no hno
            rw [List.findSome?_append, hm]
            simp [hrs, hh]
  case done =>
    rintro D ys W hD rfl ⟨⟨hne, hS, hR, hF⟩, hB⟩ hK
    have aF1 := hF.cell
    have aF2 := hF.frozen
    have aR0 : W.cell? ⟨w.heap.size + 1, 0, none⟩ = some (zN) := by simp [World.cell?, hR]
    have aZ0 : W.frozen? ⟨w.heap.size + 1, 0, none⟩ = false := by simp [World.frozen?, hR]
    have aR1 : W.cell? ⟨w.heap.size + 1, 1, none⟩ = some (zN) := by simp [World.cell?, hR]
    have aZ1 : W.frozen? ⟨w.heap.size + 1, 1, none⟩ = false := by simp [World.frozen?, hR]
    have aR2 : W.cell? ⟨w.heap.size + 1, 2, none⟩ = some (zN) := by simp [World.cell?, hR]
    have aZ2 : W.frozen? ⟨w.heap.size + 1, 2, none⟩ = false := by simp [World.frozen?, hR]
    have aR3 : W.cell? ⟨w.heap.size + 1, 3, none⟩ = some (.int .i64 0) := by simp [World.cell?, hR]
    have aZ3 : W.frozen? ⟨w.heap.size + 1, 3, none⟩ = false := by simp [World.frozen?, hR]
    have aR4 : W.cell? ⟨w.heap.size + 1, 4, none⟩ = some (.slice none 0 0) := by simp [World.cell?, hR]
    have aZ4 : W.frozen? ⟨w.heap.size + 1, 4, none⟩ = false := by simp [World.frozen?, hR]
    have aR5 : W.cell? ⟨w.heap.size + 1, 5, none⟩ = some (.int .i64 0) := by simp [World.cell?, hR]
    have aZ5 : W.frozen? ⟨w.heap.size + 1, 5, none⟩ = false := by simp [World.frozen?, hR]
    gi_wp2
    have g6 := setCell_at (i := 5) (v := .int .i64 0) (setCell_at (i := 4) (v := .slice none 0 0) (setCell_at (i := 3) (v := .int .i64 0) (setCell_at (i := 2) (v := zN) (setCell_at (i := 1) (v := zN) (setCell_at (i := 0) (v := zN) hR)))))
    have ne1 : w.heap.size + 1 + 1 ≠ w.heap.size + 1 := by omega
    have g7 := (Below.heap_setCell _ ⟨w.heap.size + 1 + 1, 0, none⟩ (.bool false) (w.heap.size + 1) (by dsimp only; omega)).trans g6
    have g8 := Boxed.set (.bool false) ((Below.heap_setCell _ ⟨w.heap.size + 1, 5, none⟩ (.int .i64 0) _ ne1).trans ((Below.heap_setCell _ ⟨w.heap.size + 1, 4, none⟩ (.slice none 0 0) _ ne1).trans ((Below.heap_setCell _ ⟨w.heap.size + 1, 3, none⟩ (.int .i64 0) _ ne1).trans ((Below.heap_setCell _ ⟨w.heap.size + 1, 2, none⟩ zN _ ne1).trans ((Below.heap_setCell _ ⟨w.heap.size + 1, 1, none⟩ zN _ ne1).trans ((Below.heap_setCell W ⟨w.heap.size + 1, 0, none⟩ zN _ ne1).trans hF))))))
    have hDn : w.heap.size + 1 ≠ D := by simp at hD; omega
    have hDm : w.heap.size + 1 + 1 ≠ D := by simp at hD; omega
    obtain rfl : fs = none := hfs.symm.trans hne
    have hK' := (((((((KeepsOthers.setCell W ⟨w.heap.size + 1, 0, none⟩ zN).trans (KeepsOthers.setCell _ ⟨w.heap.size + 1, 1, none⟩ zN)).trans (KeepsOthers.setCell _ ⟨w.heap.size + 1, 2, none⟩ zN)).trans (KeepsOthers.setCell _ ⟨w.heap.size + 1, 3, none⟩ (.int .i64 0))).trans (KeepsOthers.setCell _ ⟨w.heap.size + 1, 4, none⟩ (.slice none 0 0))).trans (KeepsOthers.setCell _ ⟨w.heap.size + 1, 5, none⟩ (.int .i64 0))).trans (KeepsOthers.setCell _ ⟨w.heap.size + 1 + 1, 0, none⟩ (.bool false))).same D _ hK rfl
    refine ⟨by simp, .inl ⟨_, _, rfl, run_takeDeferred hK', ?_⟩⟩
    have k2 := (World.putObj_heap_other (o := .deferred none) hDn).trans g7
    have k3 := (World.putObj_heap_other (o := .deferred none) hDm).trans g8
    have l1 : w.heap.size ≤ w.heap.size + 1 := by omega
    refine ⟨_, ?_, rfl, ((((((((hB.setCell (p := ⟨w.heap.size + 1, 0, none⟩) l1 _).setCell (p := ⟨w.heap.size + 1, 1, none⟩) l1 _).setCell (p := ⟨w.heap.size + 1, 2, none⟩) l1 _).setCell (p := ⟨w.heap.size + 1, 3, none⟩) l1 _).setCell (p := ⟨w.heap.size + 1, 4, none⟩) l1 _).setCell (p := ⟨w.heap.size + 1, 5, none⟩) l1 _).setCell (p := ⟨w.heap.size + 1 + 1, 0, none⟩) (by dsimp only; omega) _).trans (belowK_b (w := w) (Nat.le_refl _) _ D _ _ (by simp at hD; omega) hK' rfl rfl))⟩
    simp [results, Tryz.f113, go_sem, World.cell?, k2, k3]
  case stop =>
    rintro D c pre W hD ⟨k, hk, rfl⟩ ⟨⟨rfl, r, e0, e1, e2, e3⟩, hB⟩ hK
    obtain rfl : fs = some r := by
      obtain ⟨rest, hrest⟩ := upB_prefix (fun j => (j, zs j)) len hk
      rw [hrest, List.findSome?_append, e1] at hfs
      exact hfs.symm
    obtain ⟨r0, r1, r2, r3, r4, r5, rfl⟩ : ∃ r0 r1 r2 r3 r4 r5, r = #[r0, r1, r2, r3, r4, r5] := by
      rcases r with ⟨l⟩
      match l, e0 with
      | [a, b, c, d, e, f], _ => exact ⟨a, b, c, d, e, f, rfl⟩
    gi_wp2
    refine ⟨by simp, .inl ⟨_, _, rfl, run_takeDeferred hK, ?_⟩⟩
    have hDn : w.heap.size + 1 ≠ D := by simp at hD; omega
    have hDm : w.heap.size + 1 + 1 ≠ D := by simp at hD; omega
    have k2 : (W.putObj D (.deferred none)).heap[w.heap.size + 1]? = some (.cells #[r0, r1, r2, r3, r4, r5] 105 (0, 0)) := (World.putObj_heap_other hDn).trans e2
    have k3 : (W.putObj D (.deferred none)).heap[w.heap.size + 1 + 1]? = some (.cells #[.bool true] 4 (0, 0)) := (World.putObj_heap_other hDm).trans e3
    refine ⟨_, ?_, rfl, hB.trans (belowK_b (w := w) (Nat.le_refl _) W D _ _ (by simp at hD; omega) hK rfl rfl)⟩
    simp [results, Tryz.f113, go_sem, World.cell?, k2, k3]
end Go.Proofs.YtgfjnnkhlgmbcaaGreat.AI
