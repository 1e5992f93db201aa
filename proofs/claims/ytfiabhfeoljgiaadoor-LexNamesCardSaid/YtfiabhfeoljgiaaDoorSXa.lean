/- Names that are kept. -/
import Derived.Test.YtfiabhfeoljgiaaDoorProg
import Derived.Test.YtfiabhfeoljgiaaDoorAIt
import Derived.Laws.BitsLemmas
import Derived.KernelRfl
namespace Go.Proofs.YtfiabhfeoljgiaaDoor.AI
open Go Go.RowKit
set_option linter.unusedVariables false
set_option linter.unusedSimpArgs false
/-- The names that are kept. -/
def keptL : List (List UInt8) := [[115, 116, 114, 117, 99, 116], [118, 97, 114], [102, 117, 110, 99], [105, 110, 116], [98, 111, 111, 108], [99, 104, 97, 110], [105, 102], [101, 108, 115, 101], [119, 104, 105, 108, 101], [114, 101, 116, 117, 114, 110], [112, 114, 105, 110, 116], [103, 111], [115, 101, 110, 100], [99, 108, 111, 115, 101], [115, 101, 108, 101, 99, 116], [99, 97, 115, 101], [100, 101, 102, 97, 117, 108, 116], [114, 101, 99, 118], [116, 114, 117, 101], [102, 97, 108, 115, 101], [110, 105, 108], [110, 101, 119], [109, 97, 107, 101], [108, 101, 110]]
def chainA (l : List UInt8) : List (List UInt8) → Option Value
  | [] => some (.bool false)
  | a :: r => bif l == a then some (.bool true) else chainA l r
def chainB (l : List UInt8) : List (List UInt8) → Option Value
  | [] => some (.bool false)
  | a :: r => bif a == l then some (.bool true) else chainB l r
def keptM (s : ByteArray) : Bool := keptL.any fun a => s.data.toList == a
def s1 (f : ByteArray → Option Value) (ar : List Value) : Option Value := match ar with | [.string s] => f s | _ => none
def F1 : FuncId → List Value → Option Value := andF 9 (s1 fun s => some (.bool (keptM s))) <| andF 11 (s1 fun s => some (.bool (keptM s))) noF
abbrev LL (P : Program) (F : FuncId → List Value → Option Value) (fn : Func) (ar : List Value) : Option Value := runV P gl0 (regF P gl0) (withA P gl0 200 (Nat.beq 7) F) 60 fn ar h0
theorem chainA_any (l : List UInt8) : ∀ r, chainA l r = some (.bool (r.any fun a => l == a)) := by
  intro r
  induction r with
  | nil => rfl
  | cons a r ih =>
    simp only [chainA, List.any_cons]
    cases h : l == a
    · exact ih
    · rfl
theorem chainB_any (l : List UInt8) : ∀ r, chainB l r = some (.bool (r.any fun a => l == a)) := by
  intro r
  induction r with
  | nil => rfl
  | cons a r ih =>
    simp only [chainB, List.any_cons]
    rw [BEq.comm (a := a) (b := l)]
    cases h : l == a
    · exact ih
    · rfl
theorem regOK : RegOK Tryd.prog gl0 (regF Tryd.prog gl0) := regF_ok (by kernel_rfl)
theorem t9 (s : ByteArray) : runI Tryd.prog gl0 (regF Tryd.prog gl0) 60 Tryd.f9 [.string s] h0 = some (.bool (keptM s)) := by
  have h : runI Tryd.prog gl0 (regF Tryd.prog gl0) 60 Tryd.f9 [.string s] h0 = chainA s.data.toList keptL := by kernel_rfl
  rw [h, chainA_any]; rfl
theorem t11 (s : ByteArray) : runI Tryd.prog gl0 (regF Tryd.prog gl0) 60 Tryd.f11 [.string s] h0 = some (.bool (keptM s)) := by
  have h : runI Tryd.prog gl0 (regF Tryd.prog gl0) 60 Tryd.f11 [.string s] h0 = chainB s.data.toList keptL := by kernel_rfl
  rw [h, chainB_any]; rfl
theorem s1_some {f : ByteArray → Option Value} {ar : List Value} {v : Value} (h : s1 f ar = some v) : ∃ s, ar = [.string s] ∧ f s = some v := by
  unfold s1 at h
  split at h
  · exact ⟨_, rfl, h⟩
  · cases h
theorem F1_ok : TabOK Tryd.prog F1 :=
  andF_ok Tryd.func9 rfl (by kernel_rfl) (fun ar v h => by obtain ⟨s, rfl, h⟩ := s1_some h; cases h; exact ⟨rfl, rfl, runI_calls regOK Tryd.func9 rfl (by kernel_rfl) (t9 s) rfl rfl⟩) <|
  andF_ok Tryd.func11 rfl (by kernel_rfl) (fun ar v h => by obtain ⟨s, rfl, h⟩ := s1_some h; cases h; exact ⟨rfl, rfl, runI_calls regOK Tryd.func11 rfl (by kernel_rfl) (t11 s) rfl rfl⟩) noF_ok
set_option maxRecDepth 100000 in
theorem t5 (s : ByteArray) : LL Tryd.prog F1 Tryd.f5 [.string s] = some (.bool true) := by
  have h : LL Tryd.prog F1 Tryd.f5 [.string s] = (bif decide ((s.data.toList.length : Int) > 1000) then some (Value.bool Bool.true) else bif keptM s then bif keptM s then some (Value.bool Bool.true) else some (Value.bool Bool.false) else bif keptM s then some (Value.bool Bool.false) else some (Value.bool Bool.true)) := by kernel_rfl
  rw [h]
  cases decide ((s.data.toList.length : Int) > 1000) <;> cases keptM s <;> rfl
theorem names_walk (s : ByteArray) (w : World) : Calls Tryd.prog 5 #[.string s] w fun e w' => e = .returned (.bool true) ∧ Below w.heap.size w w' :=
  plain_callsV regOK (withA_ok (by kernel_rfl) 200 _ F1_ok) Tryd.func5 rfl (by kernel_rfl) (t5 s) rfl rfl w
end Go.Proofs.YtfiabhfeoljgiaaDoor.AI
