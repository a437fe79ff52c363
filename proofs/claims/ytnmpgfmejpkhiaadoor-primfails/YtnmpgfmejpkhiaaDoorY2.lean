/- For all objects, numbers and arguments: PrimFails answers true, and leaves its arguments as they are. -/
import Derived.Test.YtnmpgfmejpkhiaaDoorCards
import Derived.Test.YtnmpgfmejpkhiaaDoorTie
import Derived.Test.YtnmpgfmejpkhiaaDoorW4
/- The card of PrimFails. -/
namespace Go.Proofs.YtnmpgfmejpkhiaaDoor.PrimFails
open Go.ChangeShapes Go.WideShapes Go.ChangeAt Go.RowKit Go.Hv

theorem own : ownKnob Tryd.prog.godebug = none := by kernel_rfl
theorem gTab : Tryd.prog.globalNamed "webster/prim.counts" = some 0 := by kernel_rfl
theorem gTabType : (Tryd.prog.globals[0]?).map (·.type) = some 91 := by kernel_rfl
theorem cells91 : Tryd.prog.cellsOf 91 = 29 * 2 := by kernel_rfl
theorem cells90 : Tryd.prog.cellsOf 90 = 2 := by kernel_rfl
theorem cells3 : Tryd.prog.cellsOf 3 = 1 := by kernel_rfl
theorem under91 : Tryd.prog.underlying 91 = some (.array 29 90) := by kernel_rfl
theorem under90 : Tryd.prog.underlying 90 = some (.array 2 3) := by kernel_rfl
theorem under3 : Tryd.prog.underlying 3 = some (.int .i64) := by kernel_rfl
theorem under4 : Tryd.prog.underlying 4 = some .bool := by kernel_rfl
theorem under5 : Tryd.prog.underlying 5 = some (.int .u8) := by kernel_rfl
theorem under22 : Tryd.prog.underlying 22 = some (.slice 41) := by kernel_rfl
theorem under36 : Tryd.prog.underlying 36 = some (.slice 3) := by kernel_rfl
theorem under39 : Tryd.prog.underlying 39 = some (.slice 5) := by kernel_rfl
theorem shape41 : W.shapeL Tryd.prog 41 = [(3, 0), (3, 1), (36, 2), (39, 3)] := by kernel_rfl
theorem cells41 : Tryd.prog.cellsOf 41 = 4 := by kernel_rfl
theorem cells36 : Tryd.prog.cellsOf 36 = 1 := by kernel_rfl
theorem cells39 : Tryd.prog.cellsOf 39 = 1 := by kernel_rfl
theorem cells5 : Tryd.prog.cellsOf 5 = 1 := by kernel_rfl
theorem bytes41 : Tryd.prog.bytesOf 41 = 64 := by kernel_rfl
theorem bytes3 : Tryd.prog.bytesOf 3 = 8 := by kernel_rfl
theorem bytes5 : Tryd.prog.bytesOf 5 = 1 := by kernel_rfl
theorem good : ∀ t ∈ [22, 3, 3, 36], W.goodT Tryd.prog 4 t = true := by
  intro t ht
  simp at ht
  rcases ht with rfl | rfl | rfl <;> kernel_rfl
theorem params : Tryd.f6.params = #[22, 3, 3, 36] := by kernel_rfl

def rows : List (List Int) := W.countsL.map fun p => [p.1, p.2]
theorem laid_is : Rows.primFailsRow.laid = [("webster/prim.counts", W.tab2 .i64 rows)] := rfl

/-- WHAT THE ROW's LIST GIVES. -/
theorem table {X : World} (h : laidMetH Tryd.prog Rows.primFailsRow.laid X) : W.HasCounts X.heap := by
  obtain ⟨ps, ⟨g', t', cs, fuel, p, q, hg', ht', hvar, hd, _, _⟩, _⟩ := (h : laidMet Tryd.prog [("webster/prim.counts", W.tab2 .i64 rows)] X)
  obtain rfl := Option.some.inj (gTab.symm.trans hg')
  obtain rfl := Option.some.inj (gTabType.symm.trans ht')
  have hcs := W.cells_of_tab2 (rows := rows) under91 under90 under3 cells3 cells90 cells91 (by decide) hd
  unfold World.var? at hvar
  rw [hg'] at hvar
  simp only [Option.bind_some] at hvar
  split at hvar
  · rename_i cs' T q' hb
    simp only [Option.some.injEq] at hvar
    subst hvar
    exact ⟨cs', T, q', hb, by rw [hcs]; rfl⟩
  · cases hvar

theorem reach : reachBytes = 140737488351232 := rfl

set_option maxRecDepth 100000 in
theorem contract (H : Type) (enc : TypeId × Value → H) (X : World) (base : Nat) (args : Array Value) (ds gs : List (DataW H)) (before : List MemPlace) (ts : List TypeId)
    (hval : ∀ (j : Nat) t v, Tryd.f6.params[j]? = some t → args[j]? = some v → Value.okWide Tryd.prog X .any base t v)
    (hW : DataW.Whole enc Tryd.prog Tryd.f6.params.toList Rows.primFailsSpec.vars false X args.toList ds gs before)
    (hwt : (DataW.weightsEach Tryd.prog (Tryd.f6.params.toList ++ ts) (ds ++ gs)).all (· ≤ reachBytes) = true) (hL : laidMetH Tryd.prog Rows.primFailsRow.laid X) :
    Calls Tryd.prog 6 args X fun e X' => ∃ v, e = .returned v ∧ Rows.primFailsSpec.post enc Tryd.prog Tryd.f6 false true false false X args v X' := by
  have hW' := hW
  have hlt := hW.lt
  obtain ⟨p, q, hA0, hV, rfl, hfz, hnd⟩ := hW
  have hA : DataW.TrodAll enc Tryd.prog X 0 (fun _ => true) true Tryd.f6.params.toList args.toList ds p := hA0
  rw [params] at hA hval hwt
  have hA1 := hA
  obtain ⟨v0, vs0, d0, ds0, p0, q0, hargs, rfl, rfl, h0, r0⟩ := trodAll_cons hA
  obtain ⟨v1, vs1, d1, ds1, p1, q1, rfl, rfl, rfl, h1, r1⟩ := trodAll_cons r0
  obtain ⟨v2, vs2, d2, ds2, p2, q2, rfl, rfl, rfl, h2, r2⟩ := trodAll_cons r1
  obtain ⟨v3, vs3, d3, ds3, p3, q3, rfl, rfl, rfl, h3, r3⟩ := trodAll_cons r2
  obtain ⟨rfl, rfl, rfl⟩ := trodAll_nil r3
  obtain rfl : args = #[v0, v1, v2, v3] := by cases args; simp_all
  obtain ⟨rfl, rfl⟩ := trodVars_none hV
  have hws : ∀ k, (k ∈ d0.weights Tryd.prog 22 ∨ k ∈ d3.weights Tryd.prog 36) → k ≤ reachBytes := fun k hk => by
    rw [List.all_eq_true] at hwt
    have := hwt k (by
      simp only [List.cons_append, List.nil_append, List.append_nil, DataW.weightsEach, List.mem_append]
      rcases hk with hk | hk
      · exact .inl hk
      · first | exact .inr (.inr (.inr hk)) | exact .inr (.inr (.inr (.inl hk))))
    simpa using this
  obtain ⟨sl, l, rfl, hO, hl, hsz⟩ := W.arg_objs under22 shape41 cells41 bytes41 under3 cells3 bytes3 under36 cells36 under39 cells39 under5 cells5 bytes5 (hval 0 22 v0 rfl rfl) h0 fun k hk => hws k (.inl hk)
  obtain ⟨n, rfl, rfl, rfl, wn⟩ := open_int under3 (hval 1 3 v1 rfl rfl) h1
  obtain ⟨r, rfl, rfl, rfl, wr⟩ := open_int under3 (hval 2 3 v2 rfl rfl) h2
  obtain ⟨sa, al, rfl, hX, _, _⟩ := W.arg_ints under36 under3 cells3 bytes3 (hval 3 36 v3 rfl rfl) h3 fun k hk => hws k (.inr hk)
  clear hA0
  rw [reach] at hl
  have walk := W.HC.calls (W.law_PrimFails hO hX (n := n) (r := r) (R := fun v h' => v = .bool true ∧ Fr [] X.heap h') (by omega) (fun a ha => by
    obtain ⟨z1, z2, z3⟩ := hsz a ha
    rw [reach] at z1 z2
    simp [Lit.wf, IntKind.min, IntKind.max, IntKind.signed, IntKind.bits] at z3
    exact ⟨by omega, by omega, ⟨by omega, by omega⟩⟩) (table hL) fun h' f => ⟨rfl, f⟩)
  refine walk.mono fun e X' ⟨v, he, ⟨hv, hf⟩, hs⟩ => ?_
  subst he hv
  have hg := W.grown_of hs hf
  exact ⟨_, rfl, post_of_same (pv := []) hW' (fun _ _ _ => trodAll_cons_mk (shut_bool under4 _) trodAll_mk0)
    (fun sp hsp => W.reread hf hA1 good (fun y hy => hlt y (List.mem_append_left _ hy)) fun y hy => hsp y (List.mem_append_left _ hy)) (fun _ _ => rfl) rfl
    (hg.frame _) hg.2.1 (ok_one (by kernel_rfl) rfl (okWide_bool_mk under4 _))⟩

/-- A WORLD FOR THE WITNESS -/
noncomputable def laidWorld (os : Os) : World :=
  { World.holding Tryd.prog os ⟨#[], #[], []⟩ with heap := (World.holding Tryd.prog os ⟨#[], #[], []⟩).heap.modify 0 fun
      | .cells _ t frozen => .cells W.countsC.toArray t frozen
      | o => o }
theorem laid_met (os : Os) : laidMet Tryd.prog Rows.primFailsRow.laid ((laidWorld os).forCall (fun _ _ => 0) ⟨#[], #[.slice none 0 0, .int .i64 0, .int .i64 0, .slice none 0 0], []⟩).memory :=
  laidMet_of_run' 8 (by kernel_rfl) (by kernel_rfl)
theorem reads (os : Os) {H : Type} (enc : TypeId × Value → H) : ∃ places, DataW.whole enc Tryd.prog ((laidWorld os).forCall (fun _ _ => 0) ⟨#[], #[.slice none 0 0, .int .i64 0, .int .i64 0, .slice none 0 0], []⟩).memory Tryd.f6.params.toList Rows.primFailsSpec.vars false #[Value.slice none 0 0, Value.int .i64 0, Value.int .i64 0, Value.slice none 0 0].toList 8 = some ([.nil, .lit (.int .i64 0), .lit (.int .i64 0), .nil], [], places) :=
  ⟨[], by kernel_rfl⟩

set_option maxRecDepth 100000 in
theorem lifted (os : Os) (started : os.Started) (H : Type) (enc : TypeId × Value → H) (F : Stop.Interp) :
    ReturnsInHanded {} Tryd.checked os 6 .any ((OpenSpec.ofChange Rows.primFailsSpec).preRow enc Tryd.prog Tryd.f6 Rows.primFailsRow.domain false Rows.primFailsRow.laid) (((OpenSpec.ofChange Rows.primFailsSpec).at F).post enc Tryd.prog Tryd.f6 false true false false) := by
  obtain ⟨places, hx⟩ := reads os enc
  refine returnsInHanded_of_row (C := Tryd.checked) (s := OpenSpec.ofChange Rows.primFailsSpec) own started (by kernel_rfl) Tryd.func6
    (witness_row_at (enc := enc) (C := Tryd.checked) false (laidWorld os) #[.slice none 0 0, .int .i64 0, .int .i64 0, .slice none 0 0] rfl (by kernel_rfl) (by kernel_rfl) (by kernel_rfl)
      (OpenSpec.preRow_of_cond 8 hx (by kernel_rfl) (fun k hk => by cases hk) (by kernel_rfl) (laid_met os))) ?_
  intro W base args ds gs before hval hW _ _ hwt hL _ _
  exact contract H enc W base args ds gs before _ hval hW hwt hL

theorem said : Rows.PrimFailsSaid :=
  OpenClaim.holds_of_cond 6 Tryd.f6 rfl rfl rfl rfl rfl rfl rfl ⟨rfl, rfl, rfl, rfl, rfl⟩ rfl rfl rfl rfl rfl (by kernel_rfl) Tryd.func6 (by kernel_rfl)
    (of_decide_eq_true (by kernel_rfl)) (by unfold Func.isWrapper; first | (rw [if_pos (by decide +kernel)]; kernel_rfl) | (rw [if_neg (by decide +kernel)]; exact ⟨rfl, rfl⟩))
    (fun os started H enc _ F => by rw [OpenClaim.pre_eq_preRow]; exact lifted os started H enc F)

theorem plain (f : FuncId) (fn : Func) (hf : Tryd.pinned.checked.prog.funcNamed "webster/websterlaw16.PrimFails" = some f) (hfn : Tryd.pinned.checked.prog.funcs[f]? = some fn) :
    false = Tryd.pinned.checked.prog.looks [] ∧ ∀ (j : Nat) t, fn.params[j]? = some t → Tryd.pinned.checked.prog.wantsStandIn t = false := by
  obtain rfl : f = 6 := Option.some.inj ((show Tryd.prog.funcNamed "webster/websterlaw16.PrimFails" = some 6 by kernel_rfl).symm.trans hf) |>.symm
  obtain rfl : fn = Tryd.f6 := (Option.some.inj (Tryd.func6.symm.trans hfn)).symm
  refine ⟨by kernel_rfl, fun j t ht => ?_⟩
  rw [params] at ht
  have hm := Array.mem_of_getElem? ht
  simp at hm
  rcases hm with rfl | rfl | rfl
  · exact (show Tryd.prog.wantsStandIn 22 = false by kernel_rfl)
  · exact (show Tryd.prog.wantsStandIn 3 = false by kernel_rfl)
  · exact (show Tryd.prog.wantsStandIn 36 = false by kernel_rfl)

/-- THE CARD -/
theorem card : Rows.PrimFailsCardSaid :=
  Claim7.holds_tied_plain_at .later [] _ _ _ _ said (fun _ h => by cases h) (by kernel_rfl) (fun _ h => by cases h) primFails_row_tie rfl ⟨rfl, rfl⟩ (by kernel_rfl) rfl plain (by kernel_rfl)
end Go.Proofs.YtnmpgfmejpkhiaaDoor.PrimFails
