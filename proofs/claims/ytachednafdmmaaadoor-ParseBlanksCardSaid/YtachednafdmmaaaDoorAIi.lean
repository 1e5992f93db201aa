/- The abstract interpreter: conversions, append, copy. -/
import Derived.Test.YtachednafdmmaaaDoorAIh
namespace Go.Proofs.YtachednafdmmaaaDoor.AI
open Go
set_option linter.unusedVariables false
set_option linter.unusedSimpArgs false

variable {P : Program} {gl : Nat → Option Nat} {μ : Mu} {n : Nat} {w : World}

theorem isU8_under {t : TypeId} (h : isU8 P t = true) : P.underlying t = some (.int .u8) := by
  unfold isU8 at h
  split at h
  · assumption
  · cases h

theorem bytesOf_list : ∀ {cs : List Value} {l : List UInt8}, bytesOf cs = some l → ∃ ns : List Int, cs = ns.map (Value.int .u8) ∧ l = ns.map fun k => UInt8.ofNat k.toNat := by
  intro cs
  induction cs with
  | nil => intro l h; cases h; exact ⟨[], rfl, rfl⟩
  | cons c cs ih =>
    intro l h
    unfold bytesOf at h
    split at h
    · rename_i heq; cases heq
    · rename_i k r heq
      cases heq
      split at h
      · rename_i l' hl
        cases h
        obtain ⟨ns, h1, h2⟩ := ih hl
        exact ⟨k :: ns, by rw [h1]; rfl, by rw [h2]; rfl⟩
      · cases h
    · cases h

theorem foldl_push : ∀ (ns : List Int) (s : ByteArray), ns.foldl (fun r k => r.push (UInt8.ofNat k.toNat)) s = ⟨⟨s.data.toList ++ ns.map fun k => UInt8.ofNat k.toNat⟩⟩ := by
  intro ns
  induction ns with
  | nil => intro s; apply ByteArray.ext; simp
  | cons k ns ih =>
    intro s
    rw [List.foldl_cons, ih]
    apply ByteArray.ext
    simp

theorem int_list_rel {ns : List Int} {k : IntKind} {ds : List Value} (h : LRel μ n (ns.map (Value.int k)) ds) : ds = ns.map (Value.int k) := by
  apply List.ext_getElem?
  intro i
  by_cases hi : i < (ns.map (Value.int k)).length
  · have h1 : (ns.map (Value.int k))[i]? = some ((ns.map (Value.int k))[i]) := List.getElem?_eq_getElem hi
    obtain ⟨y, hy, hv⟩ := h.get h1
    rw [hy, h1]
    rw [List.getElem_map] at hv ⊢
    rw [hv.int]
  · rw [List.getElem?_eq_none (by rw [← h.1]; omega), List.getElem?_eq_none (by omega)]

theorem bytesWorld_eq (w : World) (e : TypeId) (s : ByteArray) : Lib.bytesWorld w e s = w.drew.alloc (.cells (Lib.bytesCells w e s) e ((Lib.bytesCells w e s).size, (Lib.bytesCells w e s).size + 1)) := by
  have hh : (Lib.bytesWorld w e s).heap = (w.drew.alloc (.cells (Lib.bytesCells w e s) e ((Lib.bytesCells w e s).size, (Lib.bytesCells w e s).size + 1))).heap := by
    apply Array.ext_getElem?
    intro i
    show _ = (w.heap.push _)[i]?
    rw [Array.getElem?_push]
    by_cases h1 : i = w.heap.size
    · rw [if_pos h1, h1, Lib.bytesWorld_at_new]
    · rw [if_neg h1]
      by_cases h2 : i < w.heap.size
      · exact Lib.bytesWorld_at_old w e s i h2
      · rw [Array.getElem?_eq_none (by rw [Lib.bytesWorld_size]; omega), Array.getElem?_eq_none (by omega)]
  have e1 : Lib.bytesWorld w e s = { w.drew with heap := (Lib.bytesWorld w e s).heap } := by
    unfold Lib.bytesWorld World.freeze
    rfl
  rw [e1, hh]
  rfl

theorem byteCells_get (l : List UInt8) : LRel μ n (byteCells l) (byteCells l) := by
  refine ⟨rfl, fun i x y hx hy => ?_⟩
  rw [hx] at hy
  cases hy
  unfold byteCells at hx
  rw [List.getElem?_map] at hx
  cases hl : l[i]? with
  | none => rw [hl] at hx; cases hx
  | some b => rw [hl] at hx; cases hx; exact .plain _ rfl

theorem convA_run {h h' : AH} (hh : HRel gl μ h w) {src dst : TypeId} {x x' v : Value} (hr : convA P h src dst x = some (v, h')) (hx : VRel μ h.next x x') :
    Went gl μ h w ((convert src dst x').run P w) v h' := by
  unfold convA at hr
  split at hr
  · cases hr
  · rename_i us hus
    split at hr
    · rename_i k hud
      split at hr
      · cases hr
        rw [hx.int]
        exact .same hh (by simp [convert, run_underlying hus, run_underlying hud, Conv.intToInt]) (.plain _ rfl)
      · cases hr
    · rename_i hud
      split at hr
      · rename_i s
        cases hr
        rw [hx.string]
        exact .same hh (by simp [convert, run_underlying hus, run_underlying hud]) (.plain _ rfl)
      · rename_i k c
        obtain ⟨rfl, rfl, rfl⟩ := hx.nilSlice
        split at hr
        · rename_i e
          cases hu8 : isU8 P e with
          | false => rw [hu8] at hr; cases hr
          | true =>
            rw [hu8] at hr
            cases hr
            refine .same hh ?_ (.plain _ rfl)
            rw [run_convert_bytes_string w src dst e none 0 0 hus (isU8_under hu8) hud]
            rfl
        · cases hr
      · rename_i b off k c
        obtain ⟨hb, o', rfl, ho⟩ := hx.slice
        split at hr
        · rename_i e
          cases hu8 : isU8 P e with
          | false => rw [hu8] at hr; cases hr
          | true =>
            rw [hu8] at hr
            simp only [cond_true] at hr
            split at hr
            · rename_i cs hcs
              split at hr
              · rename_i l hl
                cases hr
                refine .same hh ?_ (.plain _ rfl)
                rw [run_convert_bytes_string w src dst e _ _ _ hus (isU8_under hu8) hud]
                obtain ⟨ds, h1, h2, h3⟩ := readA_run hh hcs
                obtain ⟨ns, rfl, rfl⟩ := bytesOf_list hl
                have := int_list_rel h2
                subst this
                have hload : (loadCells ⟨(μ b).b, o', none⟩ k).run P w = .ok (ns.map (Value.int .u8)).toArray w := by
                  rcases ho with ho | ⟨h0, _, _⟩
                  · subst ho
                    have := run_loadCells_list (P := P) w _ _ h3
                    rwa [h1] at this
                  · subst h0
                    have : ns = [] := by
                      rw [List.length_map] at h1
                      exact List.eq_nil_of_length_eq_zero h1
                    subst this
                    rfl
                rw [run_bytesToString w _ _ _ ns hload, foldl_push]
                rfl
              · cases hr
            · cases hr
        · cases hr
      · cases hr
    · rename_i e hud
      split at hr
      · rename_i s
        cases hu8 : isU8 P e with
        | false => rw [hu8] at hr; cases hr
        | true =>
          rw [hu8] at hr
          cases hr
          rw [hx.string, Lib.run_convert_string_bytes w src dst e s hus hud (isU8_under hu8), bytesWorld_eq]
          have hsz : s.size = s.data.toList.length := rfl
          have hge := grownCap_ge w s.size 0 e
          have hlen : (byteCells s.data.toList).length = s.size := by unfold byteCells; rw [List.length_map]; rfl
          have hC : (Lib.bytesCells w e s).size = grownCap w s.size 0 e := by
            simp only [Lib.bytesCells, Array.size_append, Array.size_map, Array.size_replicate]
            have : s.data.size = s.size := rfl
            omega
          have := hh.drew.alloc e ((Lib.bytesCells w e s).size, (Lib.bytesCells w e s).size + 1) 1 (grownCap w s.size 0 e - s.size) (byteCells s.data.toList) (Lib.bytesCells w e s)
            (by rw [hC, hlen]; omega) (fun j v hj => by
              have hjl : j < s.data.size := by
                rcases Nat.lt_or_ge j s.data.size with h' | h'
                · exact h'
                · rw [List.getElem?_eq_none (by rw [hlen]; exact h')] at hj; cases hj
              refine ⟨v, ?_, ?_⟩
              · unfold Lib.bytesCells
                rw [Array.getElem?_append_left (by simpa using hjl), Array.getElem?_map]
                unfold byteCells at hj
                rw [List.getElem?_map, Array.getElem?_toList] at hj
                exact hj
              · exact (byteCells_get s.data.toList).2 j v v hj hj) (.inr (Nat.le_refl _))
          refine ⟨_, _, _, rfl, this.1, this.2.drew, ?_⟩
          have h2 := VRel.slcE (μ := upd μ h.next ⟨w.drew.heap.size, 0, grownCap w s.size 0 e - s.size⟩) (n := (h.add (.row false 1 (byteCells s.data.toList))).next) (b := h.next) (o := 0) (l := s.data.toList.length) (c := 1) (k := grownCap w s.size 0 e)
            (by rw [AH.next_add]; omega) (by rw [upd_same]; show _ = _ + _ * (grownCap w s.size 0 e - s.size); omega)
          rw [upd_same] at h2
          exact h2
      · rename_i b off k c
        split at hr
        · rename_i es
          cases hu8 : isU8 P e && Nat.beq src dst with
          | false => rw [hu8] at hr; cases hr
          | true =>
            rw [hu8] at hr
            simp only [cond_true] at hr
            obtain ⟨h8, hsd⟩ := Bool.and_eq_true_iff.1 hu8
            obtain rfl := Nat.eq_of_beq_eq_true hsd
            split at hr
            · rename_i z cs hb
              cases hk : Nat.blt 0 k with
              | false => rw [hk] at hr; cases hr
              | true =>
                rw [hk] at hr
                cases hr
                have hee : es = e := by rw [hus] at hud; cases hud; rfl
                subst hee
                have hx0 := hx
                obtain ⟨_, o', rfl, ho⟩ := hx.slice
                obtain ⟨C, ee, fz, hrow⟩ := hh.blk b _ hb
                have hsh : w.shape? (μ b).b = some (ee, C.size) := by simp [World.shape?, hrow.at_]
                have hm := hh.mark hb hrow 0
                refine ⟨_, _, μ, ?_, hm.1, hm.2, hx0⟩
                simp [convert, run_underlying hus, run_underlying hud, run_underlying (isU8_under h8), markStringish, hsh]
            · cases hr
        · cases hr
      · cases hr
    · cases hr

/-- What is appended or copied. -/
theorem srcA_run {h : AH} (hh : HRel gl μ h w) {z : Nat} {x x' : Value} {k : Nat} {new : List Value} (hr : srcA h z x = some (k, new)) (hx : VRel μ h.next x x') :
    ∃ news : List Value, (Builtin.lenOf x').run P w = .ok k w ∧ (Builtin.firstCells z k x').run P w = .ok news.toArray w ∧ LRel μ h.next new news ∧ new.length = k * z := by
  unfold srcA at hr
  split at hr
  · rename_i l c
    obtain ⟨rfl, rfl, rfl⟩ := hx.nilSlice
    cases hr
    exact ⟨[], rfl, rfl, .nil, by simp⟩
  · rename_i b off l c
    obtain ⟨hb, o', rfl, ho⟩ := hx.slice
    split at hr
    rotate_left
    · cases hn : Nat.beq l 0 with
      | false => rw [hn] at hr; cases hr
      | true =>
        rw [hn] at hr
        cases hr
        have := Nat.eq_of_beq_eq_true hn
        subst this
        exact ⟨[], rfl, by simp [Builtin.firstCells, loadCells, loadCellsFrom], .nil, by simp⟩
    split at hr
    · rename_i cs hcs
      cases hr
      obtain ⟨ds, h1, h2, h3⟩ := readA_run hh hcs
      refine ⟨ds, rfl, ?_, h2, by rw [h2.1, h1]⟩
      rcases ho with ho | ⟨h0, _, _⟩
      · subst ho
        exact run_firstCells_some w z _ _ _ _ ds h1 h3
      · subst h0
        have : ds = [] := List.eq_nil_of_length_eq_zero (by rw [h1, Nat.zero_mul])
        subst this
        simp [Builtin.firstCells, loadCells, loadCellsFrom]
    · cases hr
  · rename_i s
    cases hz : Nat.beq z 1 with
    | false => rw [hz] at hr; cases hr
    | true =>
      rw [hz] at hr
      cases hr
      have := Nat.eq_of_beq_eq_true hz
      subst this
      rw [hx.string]
      refine ⟨byteCells s.data.toList, rfl, ?_, byteCells_get _, by simp [byteCells]⟩
      simp only [Builtin.firstCells, Sem.run_pure]
      congr 1
      apply Array.ext'
      rw [extract_eq]
      simp only [byteCells, Array.toList_map, List.drop_zero, Nat.sub_zero]
      rw [List.take_of_length_le (by exact Nat.le_refl _)]
  · rename_i t l off ex cs
    cases hb : Nat.beq t 4294967296 with
    | false => rw [hb] at hr; cases hr
    | true =>
      rw [hb] at hr
      simp only [cond_true] at hr
      cases hc : Nat.ble (off + l * z) cs.length with
      | false => rw [hc] at hr; cases hr
      | true =>
        rw [hc] at hr
        cases hr
        have hle := Nat.le_of_ble_eq_true hc
        have ht := Nat.eq_of_beq_eq_true hb
        subst ht
        obtain ⟨p, cap, B, o, C, rfl, h1, h2, h3, h4, h5, h6⟩ := VRel.gslI (show VRel μ h.next (gslV k off ex cs) x' from hx)
        by_cases hk : k = 0
        · subst hk
          refine ⟨[], rfl, ?_, by rw [Nat.zero_mul, List.take_zero]; exact .nil, by simp⟩
          cases p <;> simp [Builtin.firstCells, loadCells, loadCellsFrom]
        · obtain ⟨g1, g2, g3⟩ := h5 hk
          subst g1
          obtain ⟨⟨e, fz, hw⟩, _⟩ := hh.fz B C g2
          have e1 : C.toList.length = C.size := Array.length_toList
          have hds : ((C.toList.drop (o + off)).take (k * z)).length = k * z := by rw [List.length_take, List.length_drop, e1]; omega
          refine ⟨(C.toList.drop (o + off)).take (k * z), rfl, run_firstCells_some w z _ _ _ _ _ hds fun j u hu => ?_, ⟨by rw [hds, List.length_take, List.length_drop]; omega, fun j x y hx hy => ?_⟩, by rw [List.length_take, List.length_drop]; omega⟩
          · rw [List.getElem?_take] at hu
            split at hu
            · rw [List.getElem?_drop, Array.getElem?_toList] at hu
              rw [addr_add, cell_row hw]
              exact hu
            · cases hu
          · rw [List.getElem?_take] at hx hy
            split at hx
            · rename_i hj
              rw [if_pos hj, List.getElem?_drop, Array.getElem?_toList, Nat.add_assoc] at hy
              rw [List.getElem?_drop] at hx
              exact h6 _ x y hk hx hy
            · cases hx
  · cases hr

theorem run_append_room' {tS tX ty e : TypeId} {i : TypeInfo} {uX : TypeDesc} (ht : P.underlying tS = some (.slice e)) (hi : P.info? e = some i) (hX : P.underlying tX = some uX) (hni : ∀ k, uX ≠ .int k)
    {ts : List TypeId} {rest : List Value} {a : Addr} {sLen sCap k : Nat} {x : Value} {news : List Value} {w' : World} (hl : (Builtin.lenOf x).run P w = .ok k w) (hf : (Builtin.firstCells i.size k x).run P w = .ok news.toArray w)
    (hroom : sLen + k ≤ sCap) (hst : (storeCells (a.add (sLen * i.size)) news).run P w = .ok () w') :
    (Builtin.append_ ⟨tS :: tX :: ts⟩ ty ⟨.slice (some a) sLen sCap :: x :: rest⟩).run P w = .ok (.slice (some a) (sLen + k) sCap) w' := by
  have e1 : (⟨tS :: tX :: ts⟩ : Array TypeId)[0]? = some tS := rfl
  have e2 : (⟨tS :: tX :: ts⟩ : Array TypeId)[1]? = some tX := rfl
  have e3 : (⟨.slice (some a) sLen sCap :: x :: rest⟩ : Array Value)[0]? = some (.slice (some a) sLen sCap) := rfl
  have e4 : (⟨.slice (some a) sLen sCap :: x :: rest⟩ : Array Value)[1]? = some x := rfl
  have e5 : (match uX with | .int _ => true | _ => false) = false := by cases uX <;> first | rfl | exact absurd rfl (hni _)
  unfold Builtin.append_
  simp only [e1, e2, e3, e4, Sem.run_bind, run_underlying ht, run_underlying hX, Result.andThen_ok, sizeOf, typeInfo, run_program, hi, Sem.run_pure, e5, Bool.false_eq_true, if_false, hl, if_pos hroom, Bool.not_false, if_true, hf, hst]

theorem run_append_room0 {tS tX ty e : TypeId} {i : TypeInfo} {uX : TypeDesc} (ht : P.underlying tS = some (.slice e)) (hi : P.info? e = some i) (hX : P.underlying tX = some uX) (hni : ∀ k, uX ≠ .int k)
    {ts : List TypeId} {rest : List Value} {x : Value} {news : List Value} (hl : (Builtin.lenOf x).run P w = .ok 0 w) (hf : (Builtin.firstCells i.size 0 x).run P w = .ok news.toArray w) :
    (Builtin.append_ ⟨tS :: tX :: ts⟩ ty ⟨.slice none 0 0 :: x :: rest⟩).run P w = .ok (.slice none 0 0) w := by
  have e1 : (⟨tS :: tX :: ts⟩ : Array TypeId)[0]? = some tS := rfl
  have e2 : (⟨tS :: tX :: ts⟩ : Array TypeId)[1]? = some tX := rfl
  have e3 : (⟨.slice none 0 0 :: x :: rest⟩ : Array Value)[0]? = some (.slice none 0 0) := rfl
  have e4 : (⟨.slice none 0 0 :: x :: rest⟩ : Array Value)[1]? = some x := rfl
  have e5 : (match uX with | .int _ => true | _ => false) = false := by cases uX <;> first | rfl | exact absurd rfl (hni _)
  unfold Builtin.append_
  simp only [e1, e2, e3, e4, Sem.run_bind, run_underlying ht, run_underlying hX, Result.andThen_ok, sizeOf, typeInfo, run_program, hi, Sem.run_pure, e5, Bool.false_eq_true, if_false, hl, Nat.add_zero, Nat.le_refl, if_true, Bool.not_false, hf]

theorem run_append_grow' {tS tX ty e : TypeId} {i : TypeInfo} {z : Value} {uX : TypeDesc} (ht : P.underlying tS = some (.slice e)) (hi : P.info? e = some i) (hz : i.zero = some z) (hX : P.underlying tX = some uX) (hni : ∀ k, uX ≠ .int k)
    {ts : List TypeId} {rest : List Value} {base : Option Addr} {sLen sCap k : Nat} {x : Value} {olds news : List Value} (hl : (Builtin.lenOf x).run P w = .ok k w) (hf : (Builtin.firstCells i.size k x).run P w.drew = .ok news.toArray w.drew)
    (ho : (Builtin.firstCells i.size sLen (.slice base sLen sCap)).run P w.drew = .ok olds.toArray w.drew)
    (hg : sCap < sLen + k) (h63 : ((sLen + k : Nat) : Int) ≤ 9223372036854775807) (hfit : Builtin.nextslicecap (sLen + k) sCap * i.bytes ≤ 281474976710656) :
    (Builtin.append_ ⟨tS :: tX :: ts⟩ ty ⟨.slice base sLen sCap :: x :: rest⟩).run P w = .ok (.slice (some ⟨w.heap.size, 0, none⟩) (sLen + k) (grownCap w (sLen + k) sCap e))
        (w.drew.alloc (.cells (olds.toArray ++ news.toArray ++ Builtin.zeroCells z.cells (grownCap w (sLen + k) sCap e - (sLen + k))) e)) := by
  have e1 : (⟨tS :: tX :: ts⟩ : Array TypeId)[0]? = some tS := rfl
  have e2 : (⟨tS :: tX :: ts⟩ : Array TypeId)[1]? = some tX := rfl
  have e3 : (⟨.slice base sLen sCap :: x :: rest⟩ : Array Value)[0]? = some (.slice base sLen sCap) := rfl
  have e4 : (⟨.slice base sLen sCap :: x :: rest⟩ : Array Value)[1]? = some x := rfl
  have e5 : (match uX with | .int _ => true | _ => false) = false := by cases uX <;> first | rfl | exact absurd rfl (hni _)
  have h1 : ¬ (sLen + k ≤ sCap) := by omega
  have hmax : IntKind.i64.max = 9223372036854775807 := by decide
  have h2 : ¬ (((sLen + k : Nat) : Int) > IntKind.i64.max ∧ (False ∨ i.bytes = 0)) := by rw [hmax]; omega
  have h3 : ¬ (Builtin.nextslicecap (sLen + k) sCap * i.bytes > 2 ^ 48) := by
    have : (2 : Nat) ^ 48 = 281474976710656 := by decide
    omega
  have hfo : (Question.appendCap (sLen + k) sCap e).forced = false := rfl
  have hch : (choose (.appendCap (sLen + k) sCap e)).run P w = .ok (grownCap w (sLen + k) sCap e) w.drew := by
    rw [run_choose, hfo]; rfl
  unfold Builtin.append_
  simp only [e1, e2, e3, e4, Sem.run_bind, run_underlying ht, run_underlying hX, Result.andThen_ok, sizeOf, typeInfo, run_program, hi, Sem.run_pure, e5, Bool.false_eq_true, if_false, hl, if_neg h1, Bool.not_false, if_true]
  rw [if_neg h2]
  simp only [Sem.run_bind, Sem.run_pure, Result.andThen_ok, run_program, hi]
  rw [if_neg h3]
  simp only [Sem.run_bind, Sem.run_pure, Result.andThen_ok, hch, run_askRoom, run_program, hi, ho, hf, zeroValue, typeInfo, hz, newRow, run_newObj, World.alloc_eq]
  rfl

end Go.Proofs.YtachednafdmmaaaDoor.AI
