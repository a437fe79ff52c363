/- For all a and b: PrimLarge answers true, and leaves its arguments as they are. -/
import Derived.WalkKit
import Derived.ProofKit
import Derived.OpenShut
import Derived.Deep.DeepHandedRow
import Derived.Lib.LaidTab
import Derived.Test.YtnmpgfmejpkhiaaDoorCards
import Derived.Test.YtnmpgfmejpkhiaaDoorTie
import Derived.Test.YtnmpgfmejpkhiaaDoorW3
/- What a law's card asks, out of a call's heap condition: of no law. -/
namespace Go.Hv.W
open Go Go.Hv

/-- nothing that was there has turned -/
theorem grown_of {w w' : World} (hs : Same w w') (f : Fr [] w.heap w'.heap) : Go.RowKit.Grown w w' := by
  refine ⟨⟨hs.os, hs.output, fun i hi => ?_⟩, hs.frz, f.size⟩
  rw [f.same i hi (by simp)]
  cases w.heap[i]? with
  | none => rfl
  | some o => cases o <;> simp

theorem HC.calls {f : FuncId} {args : Array Value} {W : World} {R : Value → Heap → Prop} (H : HC P f args W.heap R) : Calls P f args W fun e w' => ∃ v, e = .returned v ∧ R v w'.heap ∧ Same W w' := H.run W rfl

/-- a table of rows of numbers -/
def tab2 {H : Type} (k : IntKind) (rows : List (List Int)) : DataW H := .agg (rows.map fun r => Lib.tabData k r)

theorem cells_of_tab2 {H : Type} {enc : TypeId × Value → H} {P : Program} {w : World} {base : Nat} {sp : Nat → Bool} {held : Bool} {fuel : Nat} {t e i : TypeId} {n m : Nat} {k : IntKind} {cs : List Value} {rows : List (List Int)} {p : List MemPlace}
    (ht : P.underlying t = some (.array n e)) (he : P.underlying e = some (.array m i)) (hi : P.underlying i = some (.int k)) (hci : P.cellsOf i = 1) (hce : P.cellsOf e = m) (hct : P.cellsOf t = n * m) (hrows : ∀ r ∈ rows, r.length = m)
    (h : DataW.trod enc P w base sp held fuel t cs = some (tab2 k rows, p)) : cs = rows.flatten.map fun z => Value.int k z := by
  cases fuel with
  | zero => simp [DataW.trod] at h
  | succ fuel =>
    simp only [DataW.trod, ht, hce, hct] at h
    split at h
    · rename_i hl
      obtain ⟨xs, hm, hx⟩ := Option.map_eq_some_iff.1 h
      have hxs : xs.map (·.1) = rows.map fun r => (Lib.tabData k r : DataW H) := by
        have := congrArg Prod.fst hx
        simpa [tab2] using this
      have hxl : xs.length = n := by simpa using Lib.mapM_length hm
      have hrl : rows.length = n := by
        have := congrArg List.length hxs
        simp at this
        omega
      have piece : ∀ j (hj : j < n), (cs.drop (j * m)).take m = (rows[j]'(by omega)).map fun z => Value.int k z := fun j hj => by
        obtain ⟨b, hb, hf⟩ := Lib.mapM_at hm j j (by simp [hj])
        have h2 : (xs.map (·.1))[j]? = some b.1 := by simp [hb]
        rw [hxs, List.getElem?_map, List.getElem?_eq_getElem (by omega)] at h2
        simp only [Option.map_some, Option.some.injEq] at h2
        have hf' : DataW.trod enc P w base sp held fuel e ((cs.drop (j * m)).take m) = some (Lib.tabData k (rows[j]'(by omega)), b.2) := by rw [hf, h2]
        exact Lib.cells_of_tab he hi hci hce hf'
      -- pieces put together
      have all : ∀ (rows : List (List Int)) (cs : List Value), cs.length = rows.length * m → (∀ j (hj : j < rows.length), (cs.drop (j * m)).take m = (rows[j]).map fun z => Value.int k z) → cs = rows.flatten.map fun z => Value.int k z := by
        intro rows
        induction rows with
        | nil =>
          intro cs hl _
          simp at hl
          simp [hl]
        | cons r rows ih =>
          intro cs hl hp
          have h0 := hp 0 (by simp)
          simp at h0
          have hl' : cs.length = rows.length * m + m := by rw [hl, List.length_cons, Nat.succ_mul]
          have hrest := ih (cs.drop m) (by rw [List.length_drop]; omega) fun j hj => by
            have := hp (j + 1) (by simpa using hj)
            rw [Nat.succ_mul, Nat.add_comm] at this
            simpa [List.drop_drop] using this
          rw [List.flatten_cons, List.map_append, ← h0, ← hrest, List.take_append_drop]
      exact all rows cs (by rw [hl, hrl]) fun j hj => piece j (by omega)
    · cases h
end Go.Hv.W

/- The card of PrimLarge. -/
namespace Go.Proofs.YtnmpgfmejpkhiaaDoor.PrimLarge
open Go.ChangeShapes Go.WideShapes Go.ChangeAt Go.RowKit Go.Hv

theorem own : ownKnob Tryd.prog.godebug = none := by kernel_rfl
theorem gTab : Tryd.prog.globalNamed "webster/prim.counts" = some 0 := by kernel_rfl
theorem gTabType : (Tryd.prog.globals[0]?).map (·.type) = some 91 := by kernel_rfl
theorem cells91 : Tryd.prog.cellsOf 91 = 29 * 2 := by kernel_rfl
theorem cells90 : Tryd.prog.cellsOf 90 = 2 := by kernel_rfl
theorem cells3 : Tryd.prog.cellsOf 3 = 1 := by kernel_rfl
theorem under91 : Tryd.prog.underlying 91 = some (.array 29 90) := by kernel_rfl
theorem under90 : Tryd.prog.underlying 90 = some (.array 2 3) := by kernel_rfl
theorem under3 : Tryd.prog.underlying 3 = some (.int .i64) := by kernel_rfl
theorem under4 : Tryd.prog.underlying 4 = some .bool := by kernel_rfl
theorem under49 : Tryd.prog.underlying 49 = some (.int .u32) := by kernel_rfl
theorem params : Tryd.f5.params = #[49, 49] := by kernel_rfl

def rows : List (List Int) := W.countsL.map fun p => [p.1, p.2]
theorem laid_is : Rows.primLargeRow.laid = [("webster/prim.counts", W.tab2 .i64 rows)] := rfl

/-- WHAT THE ROW's LIST GIVES. -/
theorem table {X : World} (h : laidMetH Tryd.prog Rows.primLargeRow.laid X) : W.HasCounts X.heap := by
  obtain ⟨ps, ⟨g', t', cs, fuel, p, q, hg', ht', hvar, hd, _, _⟩, _⟩ := (h : laidMet Tryd.prog [("webster/prim.counts", W.tab2 .i64 rows)] X)
  obtain rfl := Option.some.inj (gTab.symm.trans hg')
  obtain rfl := Option.some.inj (gTabType.symm.trans ht')
  have hcs := W.cells_of_tab2 (rows := rows) under91 under90 under3 cells3 cells90 cells91 (by decide) hd
  unfold World.var? at hvar
  rw [hg'] at hvar
  simp only [Option.bind_some] at hvar
  split at hvar
  · rename_i cs' T q' hb
    simp only [Option.some.injEq] at hvar
    subst hvar
    exact ⟨cs', T, q', hb, by rw [hcs]; rfl⟩
  · cases hvar

theorem u32 {n : Int} (h : (Lit.int .u32 n).wf = true) : 0 ≤ n ∧ n ≤ 4294967295 := by
  simp [Lit.wf, IntKind.min, IntKind.max, IntKind.signed, IntKind.bits] at h
  exact ⟨by omega, by omega⟩

set_option maxRecDepth 100000 in
theorem contract (H : Type) (enc : TypeId × Value → H) (X : World) (base : Nat) (args : Array Value) (ds gs : List (DataW H)) (before : List MemPlace)
    (hval : ∀ (j : Nat) t v, Tryd.f5.params[j]? = some t → args[j]? = some v → Value.okWide Tryd.prog X .any base t v)
    (hW : DataW.Whole enc Tryd.prog Tryd.f5.params.toList Rows.primLargeSpec.vars false X args.toList ds gs before) (hL : laidMetH Tryd.prog Rows.primLargeRow.laid X) :
    Calls Tryd.prog 5 args X fun e X' => ∃ v, e = .returned v ∧ Rows.primLargeSpec.post enc Tryd.prog Tryd.f5 false true false false X args v X' := by
  have hW' := hW
  obtain ⟨p, q, hA0, hV, rfl, hfz, hnd⟩ := hW
  have hA : DataW.TrodAll enc Tryd.prog X 0 (fun _ => true) true Tryd.f5.params.toList args.toList ds p := hA0
  rw [params] at hA hval
  obtain ⟨v0, vs0, d0, ds0, p0, q0, hargs, rfl, rfl, h0, r0⟩ := trodAll_cons hA
  obtain ⟨v1, vs1, d1, ds1, p1, q1, rfl, rfl, rfl, h1, r1⟩ := trodAll_cons r0
  obtain ⟨rfl, rfl, rfl⟩ := trodAll_nil r1
  obtain rfl : args = #[v0, v1] := by cases args; simp_all
  obtain ⟨rfl, rfl⟩ := trodVars_none hV
  obtain ⟨n, rfl, rfl, rfl, wn⟩ := open_int under49 (hval 0 49 v0 rfl rfl) h0
  obtain ⟨i, rfl, rfl, rfl, wi⟩ := open_int under49 (hval 1 49 v1 rfl rfl) h1
  clear hA0
  simp only [List.append_nil, List.nil_append] at hW'
  have b0 := u32 wn
  have b1 := u32 wi
  have walk := W.HC.calls (W.law_PrimLarge b0.1 b0.2 b1.1 b1.2 (R := fun v h' => v = .bool true ∧ Fr [] X.heap h') (table hL) fun h' f => ⟨rfl, f⟩)
  refine walk.mono fun e X' ⟨v, he, ⟨hv, hf⟩, hs⟩ => ?_
  subst he hv
  have hg := W.grown_of hs hf
  exact ⟨_, rfl, post_of_same (pa := []) (pv := []) hW' (fun _ _ _ => trodAll_cons_mk (shut_bool under4 _) trodAll_mk0)
    (fun _ _ => trodAll_cons_mk (shut_int under49 wn) (trodAll_cons_mk (shut_int under49 wi) trodAll_mk0)) (fun _ _ => rfl) rfl
    (hg.frame _) hg.2.1 (ok_one (by kernel_rfl) rfl (okWide_bool_mk under4 _))⟩

/-- A WORLD FOR THE WITNESS -/
noncomputable def laidWorld (os : Os) : World :=
  { World.holding Tryd.prog os ⟨#[], #[], []⟩ with heap := (World.holding Tryd.prog os ⟨#[], #[], []⟩).heap.modify 0 fun
      | .cells _ t frozen => .cells W.countsC.toArray t frozen
      | o => o }
theorem laid_met (os : Os) : laidMet Tryd.prog Rows.primLargeRow.laid ((laidWorld os).forCall (fun _ _ => 0) ⟨#[], #[.int .u32 0, .int .u32 0], []⟩).memory :=
  laidMet_of_run' 8 (by kernel_rfl) (by kernel_rfl)
theorem reads (os : Os) {H : Type} (enc : TypeId × Value → H) : ∃ places, DataW.whole enc Tryd.prog ((laidWorld os).forCall (fun _ _ => 0) ⟨#[], #[.int .u32 0, .int .u32 0], []⟩).memory Tryd.f5.params.toList Rows.primLargeSpec.vars false #[Value.int .u32 0, Value.int .u32 0].toList 8 = some ([.lit (.int .u32 0), .lit (.int .u32 0)], [], places) :=
  ⟨[], by kernel_rfl⟩

set_option maxRecDepth 100000 in
theorem lifted (os : Os) (started : os.Started) (H : Type) (enc : TypeId × Value → H) (F : Stop.Interp) :
    ReturnsInHanded {} Tryd.checked os 5 .any ((OpenSpec.ofChange Rows.primLargeSpec).preRow enc Tryd.prog Tryd.f5 Rows.primLargeRow.domain false Rows.primLargeRow.laid) (((OpenSpec.ofChange Rows.primLargeSpec).at F).post enc Tryd.prog Tryd.f5 false true false false) := by
  obtain ⟨places, hx⟩ := reads os enc
  refine returnsInHanded_of_row (C := Tryd.checked) (s := OpenSpec.ofChange Rows.primLargeSpec) own started (by kernel_rfl) Tryd.func5
    (witness_row_at (enc := enc) (C := Tryd.checked) false (laidWorld os) #[.int .u32 0, .int .u32 0] rfl (by kernel_rfl) (by kernel_rfl) (by kernel_rfl)
      (OpenSpec.preRow_of_cond 8 hx (by kernel_rfl) (fun k hk => by cases hk) (by kernel_rfl) (laid_met os))) ?_
  intro W base args ds gs before hval hW _ _ _ hL _ _
  exact contract H enc W base args ds gs before hval hW hL

theorem said : Rows.PrimLargeSaid :=
  OpenClaim.holds_of_cond 5 Tryd.f5 rfl rfl rfl rfl rfl rfl rfl ⟨rfl, rfl, rfl, rfl, rfl⟩ rfl rfl rfl rfl rfl (by kernel_rfl) Tryd.func5 (by kernel_rfl)
    (of_decide_eq_true (by kernel_rfl)) (by unfold Func.isWrapper; first | (rw [if_pos (by decide +kernel)]; kernel_rfl) | (rw [if_neg (by decide +kernel)]; exact ⟨rfl, rfl⟩))
    (fun os started H enc _ F => by rw [OpenClaim.pre_eq_preRow]; exact lifted os started H enc F)

theorem plain (f : FuncId) (fn : Func) (hf : Tryd.pinned.checked.prog.funcNamed "webster/websterlaw16.PrimLarge" = some f) (hfn : Tryd.pinned.checked.prog.funcs[f]? = some fn) :
    false = Tryd.pinned.checked.prog.looks [] ∧ ∀ (j : Nat) t, fn.params[j]? = some t → Tryd.pinned.checked.prog.wantsStandIn t = false := by
  obtain rfl : f = 5 := Option.some.inj ((show Tryd.prog.funcNamed "webster/websterlaw16.PrimLarge" = some 5 by kernel_rfl).symm.trans hf) |>.symm
  obtain rfl : fn = Tryd.f5 := (Option.some.inj (Tryd.func5.symm.trans hfn)).symm
  refine ⟨by kernel_rfl, fun j t ht => ?_⟩
  rw [params] at ht
  have hm := Array.mem_of_getElem? ht
  simp at hm
  subst hm
  exact (show Tryd.prog.wantsStandIn 49 = false by kernel_rfl)

/-- THE CARD -/
theorem card : Rows.PrimLargeCardSaid :=
  Claim7.holds_tied_plain_at .later [] _ _ _ _ said (fun _ h => by cases h) (by kernel_rfl) (fun _ h => by cases h) primLarge_row_tie rfl ⟨rfl, rfl⟩ (by kernel_rfl) rfl plain (by kernel_rfl)
end Go.Proofs.YtnmpgfmejpkhiaaDoor.PrimLarge
