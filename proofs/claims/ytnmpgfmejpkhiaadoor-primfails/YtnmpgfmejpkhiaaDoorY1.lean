/- For all objects, numbers and arguments: PrimFails answers true, and leaves its arguments as they are. -/
import Derived.WalkKit
import Derived.ProofKit
import Derived.OpenShut
import Derived.Deep.DeepHandedRow
import Derived.Lib.LaidTab
import Derived.Test.YtnmpgfmejpkhiaaDoorW3
/- What a law's card asks, out of a call's heap condition: of no law. -/
namespace Go.Hv.W
open Go Go.Hv

/-- nothing that was there has turned -/
theorem grown_of {w w' : World} (hs : Same w w') (f : Fr [] w.heap w'.heap) : Go.RowKit.Grown w w' := by
  refine ⟨⟨hs.os, hs.output, fun i hi => ?_⟩, hs.frz, f.size⟩
  rw [f.same i hi (by simp)]
  cases w.heap[i]? with
  | none => rfl
  | some o => cases o <;> simp

theorem HC.calls {f : FuncId} {args : Array Value} {W : World} {R : Value → Heap → Prop} (H : HC P f args W.heap R) : Calls P f args W fun e w' => ∃ v, e = .returned v ∧ R v w'.heap ∧ Same W w' := H.run W rfl

/-- a table of rows of numbers -/
def tab2 {H : Type} (k : IntKind) (rows : List (List Int)) : DataW H := .agg (rows.map fun r => Lib.tabData k r)

theorem cells_of_tab2 {H : Type} {enc : TypeId × Value → H} {P : Program} {w : World} {base : Nat} {sp : Nat → Bool} {held : Bool} {fuel : Nat} {t e i : TypeId} {n m : Nat} {k : IntKind} {cs : List Value} {rows : List (List Int)} {p : List MemPlace}
    (ht : P.underlying t = some (.array n e)) (he : P.underlying e = some (.array m i)) (hi : P.underlying i = some (.int k)) (hci : P.cellsOf i = 1) (hce : P.cellsOf e = m) (hct : P.cellsOf t = n * m) (hrows : ∀ r ∈ rows, r.length = m)
    (h : DataW.trod enc P w base sp held fuel t cs = some (tab2 k rows, p)) : cs = rows.flatten.map fun z => Value.int k z := by
  cases fuel with
  | zero => simp [DataW.trod] at h
  | succ fuel =>
    simp only [DataW.trod, ht, hce, hct] at h
    split at h
    · rename_i hl
      obtain ⟨xs, hm, hx⟩ := Option.map_eq_some_iff.1 h
      have hxs : xs.map (·.1) = rows.map fun r => (Lib.tabData k r : DataW H) := by
        have := congrArg Prod.fst hx
        simpa [tab2] using this
      have hxl : xs.length = n := by simpa using Lib.mapM_length hm
      have hrl : rows.length = n := by
        have := congrArg List.length hxs
        simp at this
        omega
      have piece : ∀ j (hj : j < n), (cs.drop (j * m)).take m = (rows[j]'(by omega)).map fun z => Value.int k z := fun j hj => by
        obtain ⟨b, hb, hf⟩ := Lib.mapM_at hm j j (by simp [hj])
        have h2 : (xs.map (·.1))[j]? = some b.1 := by simp [hb]
        rw [hxs, List.getElem?_map, List.getElem?_eq_getElem (by omega)] at h2
        simp only [Option.map_some, Option.some.injEq] at h2
        have hf' : DataW.trod enc P w base sp held fuel e ((cs.drop (j * m)).take m) = some (Lib.tabData k (rows[j]'(by omega)), b.2) := by rw [hf, h2]
        exact Lib.cells_of_tab he hi hci hce hf'
      -- pieces put together
      have all : ∀ (rows : List (List Int)) (cs : List Value), cs.length = rows.length * m → (∀ j (hj : j < rows.length), (cs.drop (j * m)).take m = (rows[j]).map fun z => Value.int k z) → cs = rows.flatten.map fun z => Value.int k z := by
        intro rows
        induction rows with
        | nil =>
          intro cs hl _
          simp at hl
          simp [hl]
        | cons r rows ih =>
          intro cs hl hp
          have h0 := hp 0 (by simp)
          simp at h0
          have hl' : cs.length = rows.length * m + m := by rw [hl, List.length_cons, Nat.succ_mul]
          have hrest := ih (cs.drop m) (by rw [List.length_drop]; omega) fun j hj => by
            have := hp (j + 1) (by simpa using hj)
            rw [Nat.succ_mul, Nat.add_comm] at this
            simpa [List.drop_drop] using this
          rw [List.flatten_cons, List.map_append, ← h0, ← hrest, List.take_append_drop]
      exact all rows cs (by rw [hl, hrl]) fun j hj => piece j (by omega)
    · cases h
end Go.Hv.W
