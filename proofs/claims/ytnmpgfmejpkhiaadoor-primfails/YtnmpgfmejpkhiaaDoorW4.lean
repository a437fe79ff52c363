/- What the functions of the program do, each by its contract. -/
import Derived.Deep.Slices
import Derived.MapPlaces
import Derived.Test.YtnmpgfmejpkhiaaDoorY1
/- What a law's arguments are in the heap: slices of numbers, slices of objects; and that they read again as they did. -/
namespace Go.Hv.W
open Go Go.Hv Go.Deep Go.ChangeShapes Go.WideShapes

section
variable {H : Type} {enc : TypeId × Value → H} {Q : Program} {w w' : World} {base : Nat} {spare : Nat → Bool} {held : Bool}

theorem cell_some {a : Addr} {v : Value} (h : w.cell? a = some v) : a.spot = none ∧ ∃ cs T q, w.heap[a.block]? = some (.cells cs T q) ∧ cs[a.off]? = some v := by
  unfold World.cell? at h
  split at h
  · rename_i cs T q hb
    split at h
    · cases h
    · rename_i hs
      exact ⟨by simpa using hs, cs, T, q, hb, h⟩
  · cases h

theorem add_zero (a : Addr) : a.add 0 = a := rfl
theorem add_parts (a : Addr) (n : Nat) : (a.add n).block = a.block ∧ (a.add n).off = a.off + n := by
  unfold Addr.add
  split
  · rename_i h; subst h; exact ⟨rfl, rfl⟩
  · exact ⟨rfl, rfl⟩

/-- a slice of numbers -/
theorem open_ints {t e : TypeId} {k : IntKind} {fuel : Nat} {cs : List Value} {x : DataW H × List MemPlace} (ht : Q.underlying t = some (.slice e)) (he : Q.underlying e = some (.int k)) (hc : Q.cellsOf e = 1) {bs : Nat} (hbs : Q.bytesOf e = bs)
    (h : DataW.trod enc Q w base spare held fuel t cs = some x) (hw : ∀ n ∈ x.1.weights Q t, n ≤ reachBytes) :
    ∃ (s : Sl) (l : List Int), cs = [.slice s.a s.n s.c] ∧ SlX w.heap s k l ∧ l.length * bs ≤ reachBytes ∧ ∀ z ∈ l, (Lit.int k z).wf = true := by
  rcases open_slice1 ht hc h with ⟨rfl, _⟩ | ⟨a, len, cap, m, n, V, D, Pl, rfl, hb, hl, hm, hmm, hxe, hx⟩
  · exact ⟨⟨none, 0, 0⟩, [], rfl, ⟨rfl, fun _ => rfl, fun p hp => by cases hp⟩, by simp, by simp⟩
  · have hlm : len ≤ m := by rw [hmm]; split <;> omega
    obtain ⟨z, hz⟩ := choose_lt (α := Int) (n := len) (p := fun i z => w.cell? (a.add i) = some (.int k z) ∧ (Lit.int k z).wf = true) fun i hi => by
      obtain ⟨h1, h2⟩ := hx i (by omega)
      obtain ⟨z, hz, _, hwf⟩ := DataW.trod_int he h2
      simp only [List.cons.injEq, and_true] at hz
      exact ⟨z, by rw [h1, hz], hwf⟩
    refine ⟨⟨some a, len, cap⟩, (List.range len).map z, rfl, ⟨by simp, fun e => (by cases e), fun p hp hne => ?_⟩, ?_, fun y hy => ?_⟩
    · cases hp
      have hpos : 0 < len := by
        cases len with
        | zero => simp at hne
        | succ n => omega
      obtain ⟨s0, cs, T, q, g1, _⟩ := cell_some (hz 0 hpos).1
      rw [add_zero] at s0 g1
      have at' : ∀ i, i < len → cs[a.off + i]? = some (.int k (z i)) := fun i hi => by
        obtain ⟨_, cs', T', q', g2, g3⟩ := cell_some (hz i hi).1
        rw [(add_parts a i).1, g1] at g2
        cases g2
        rw [(add_parts a i).2] at g3
        exact g3
      refine ⟨s0, cs, T, q, g1, ?_, fun i hi => ?_⟩
      · have := (Array.getElem?_eq_some_iff.1 (at' (len - 1) (by omega))).1
        simp; omega
      · have hi : i < len := by simpa using hi
        rw [at' i hi]
        simp [hi]
    · have := hw ((len + (m - len)) * Q.bytesOf e) (by rw [hxe]; simp [DataW.weights, ht])
      rw [hbs] at this
      simp only [List.length_map, List.length_range]
      exact Nat.le_trans (Nat.mul_le_mul_right _ (by omega)) this
    · obtain ⟨i, hi, rfl⟩ := List.mem_map.1 hy
      exact (hz i (by simpa using hi)).2

theorem weightsAll_mem {e : TypeId} {n : Nat} : ∀ {l : List (DataW H)} {d : DataW H}, d ∈ l → n ∈ d.weights Q e → n ∈ DataW.weightsAll Q e l
  | [], _, h, _ => by cases h
  | y :: l, d, h, hn => by
    unfold DataW.weightsAll
    rcases List.mem_cons.1 h with rfl | h
    · exact List.mem_append_left _ hn
    · exact List.mem_append_right _ (weightsAll_mem h hn)

instance : Inhabited AO := ⟨⟨0, 0, [], []⟩⟩

/-- a slice of objects -/
theorem open_objs {t e : TypeId} {f0 f1 f2 f3 : Field} {ti tb : TypeId} {fuel : Nat} {cs : List Value} {x : DataW H × List MemPlace} (ht : Q.underlying t = some (.slice e)) (he : Q.underlying e = some (.struct #[f0, f1, f2, f3])) (ce : Q.cellsOf e = 4)
    (hbe : Q.bytesOf e = 64) (o0 : f0.offset = 0) (o1 : f1.offset = 1) (o2 : f2.offset = 2) (o3 : f3.offset = 3) (c0 : Q.cellsOf f0.type = 1) (c1 : Q.cellsOf f1.type = 1) (c2 : Q.cellsOf f2.type = 1) (c3 : Q.cellsOf f3.type = 1)
    (t0 : Q.underlying f0.type = some (.int .i64)) (t1 : Q.underlying f1.type = some (.int .i64)) (t2 : Q.underlying f2.type = some (.slice ti)) (t3 : Q.underlying f3.type = some (.slice tb))
    (hti : Q.underlying ti = some (.int .i64)) (htb : Q.underlying tb = some (.int .u8)) (ci : Q.cellsOf ti = 1) (cb : Q.cellsOf tb = 1) (bi : Q.bytesOf ti = 8) (bb : Q.bytesOf tb = 1)
    (h : DataW.trod enc Q w base spare held fuel t cs = some x) (hw : ∀ n ∈ x.1.weights Q t, n ≤ reachBytes) :
    ∃ (s : Sl) (l : List AO), cs = [.slice s.a s.n s.c] ∧ SlO w.heap s l (List.range w.heap.size) ∧ l.length * 64 ≤ reachBytes ∧ ∀ a ∈ l, a.w.length * 8 ≤ reachBytes ∧ a.b.length ≤ reachBytes ∧ (Lit.int .i64 a.cls).wf = true := by
  rcases open_slice ht h with ⟨rfl, _⟩ | ⟨a, len, cap, m, n, D, Pl, rfl, hb, hl, hm, hmm, hxe, hx⟩
  · exact ⟨⟨none, 0, 0⟩, [], rfl, ⟨rfl, fun _ => rfl, fun p hp => (by cases hp), fun k hk => (by simpa using hk), fun p hp => (by cases hp)⟩, by simp, by simp⟩
  · have hlm : len ≤ m := by rw [hmm]; split <;> omega
    rw [ce] at hx
    obtain ⟨o, ho⟩ := choose_lt (α := AO) (n := len) (p := fun i o => ∃ sw sb : Sl, w.cell? ((a.add (i * 4)).add 0) = some (.int .i64 o.cls) ∧ w.cell? ((a.add (i * 4)).add 1) = some (.int .i64 o.kind) ∧
        w.cell? ((a.add (i * 4)).add 2) = some (.slice sw.a sw.n sw.c) ∧ w.cell? ((a.add (i * 4)).add 3) = some (.slice sb.a sb.n sb.c) ∧ SlX w.heap sw .i64 o.w ∧ SlX w.heap sb .u8 o.b ∧ bytesOK o.b ∧ o.w.length * 8 ≤ reachBytes ∧ o.b.length ≤ reachBytes ∧ (Lit.int .i64 o.cls).wf = true) fun i hi => by
      obtain ⟨cs', h1, h2⟩ := hx i (by omega)
      obtain ⟨_, hlen, hcell⟩ := World.cells?_some h1
      obtain ⟨xs, n', _, hD, _, hxl, hf⟩ := DataW.trod_struct he h2
      match cs', hlen with
      | [v0, v1, v2, v3], _ =>
        match xs, hxl with
        | [y0, y1, y2, y3], _ =>
          have hDi : D i = .agg [y0.1, y1.1, y2.1, y3.1] := by
            have := congrArg Prod.fst hD
            simpa using this
          have hwi : ∀ k ∈ (D i).weights Q e, k ≤ reachBytes := fun k hk => hw k (by
            rw [hxe]
            simp only [DataW.weights, ht, List.mem_cons, List.mem_append]
            exact .inr (.inl (weightsAll_mem (List.mem_map.2 ⟨i, List.mem_range.2 hi, rfl⟩) hk)))
          have hw2 : ∀ k ∈ y2.1.weights Q f2.type, k ≤ reachBytes := fun k hk => hwi k (by
            rw [hDi]
            simp only [DataW.weights, he, DataW.weightsEach, List.map_cons, List.map_nil, List.mem_append]
            exact .inr (.inr (.inl hk)))
          have hw3 : ∀ k ∈ y3.1.weights Q f3.type, k ≤ reachBytes := fun k hk => hwi k (by
            rw [hDi]
            simp only [DataW.weights, he, DataW.weightsEach, List.map_cons, List.map_nil, List.mem_append]
            exact .inr (.inr (.inr (.inl hk))))
          have g0 := hf 0 f0 rfl
          have g1 := hf 1 f1 rfl
          have g2 := hf 2 f2 rfl
          have g3 := hf 3 f3 rfl
          rw [o0, c0] at g0
          rw [o1, c1] at g1
          rw [o2, c2] at g2
          rw [o3, c3] at g3
          obtain ⟨z0, e0, _, wf0⟩ := DataW.trod_int t0 (x := y0) g0
          obtain ⟨z1, e1, _, _⟩ := DataW.trod_int t1 (x := y1) g1
          obtain ⟨sw, lw, e2, X2, L2, _⟩ := open_ints t2 hti ci bi (x := y2) g2 hw2
          obtain ⟨sb, lb, e3, X3, L3, W3⟩ := open_ints t3 htb cb bb (x := y3) g3 hw3
          simp at e0 e1 e2 e3
          refine ⟨⟨z0, z1, lw, lb⟩, sw, sb, ?_, ?_, ?_, ?_, X2, X3, fun z hz => ?_, L2, by simpa using L3, wf0⟩
          · rw [hcell 0 (by omega)]; simp [e0]
          · rw [hcell 1 (by omega)]; simp [e1]
          · rw [hcell 2 (by omega)]; simp [e2]
          · rw [hcell 3 (by omega)]; simp [e3]
          · have := W3 z hz
            simp [Lit.wf, IntKind.min, IntKind.max, IntKind.signed, IntKind.bits] at this
            exact ⟨by omega, by omega⟩
    refine ⟨⟨some a, len, cap⟩, (List.range len).map o, rfl, ⟨by simp, fun e => (by cases e), fun p hp hne => ?_, fun k hk => (by simpa using hk), fun p hp hne => ?_⟩, ?_, fun y hy => ?_⟩
    · cases hp
      have hpos : 0 < len := by
        cases len with
        | zero => simp at hne
        | succ n => omega
      obtain ⟨sw, sb, d0, _⟩ := ho 0 hpos
      obtain ⟨_, cs, T, q, g1, _⟩ := cell_some d0
      simp only [Nat.zero_mul, add_zero] at g1
      exact List.mem_range.2 (lt_of_get g1)
    · cases hp
      have hpos : 0 < len := by
        cases len with
        | zero => simp at hne
        | succ n => omega
      obtain ⟨sw, sb, d0, _⟩ := ho 0 hpos
      obtain ⟨s0, cs, T, q, g1, _⟩ := cell_some d0
      simp only [Nat.zero_mul, add_zero] at g1 s0
      have at' : ∀ i j v, w.cell? ((a.add (i * 4)).add j) = some v → cs[a.off + i * 4 + j]? = some v := fun i j v hv => by
        obtain ⟨_, cs', T', q', g2, g3⟩ := cell_some hv
        rw [(add_parts _ j).1, (add_parts a _).1, g1] at g2
        cases g2
        rw [(add_parts _ j).2, (add_parts a _).2] at g3
        exact g3
      refine ⟨s0, cs, T, q, g1, ?_, fun i b hb => ?_⟩
      · obtain ⟨_, _, _, _, _, d3, _⟩ := ho (len - 1) (by omega)
        have := (Array.getElem?_eq_some_iff.1 (at' _ _ _ d3)).1
        simp; omega
      · have hi : i < len := by have := (List.getElem?_eq_some_iff.1 hb).1; simpa using this
        have hbo : o i = b := by simpa [hi] using hb
        obtain ⟨sw, sb, d0, d1, d2, d3, X2, X3, hby, _⟩ := ho i hi
        rw [hbo] at d0 d1 X2 X3 hby
        refine ⟨sw, sb, at' i 0 _ d0, at' i 1 _ d1, at' i 2 _ d2, at' i 3 _ d3, X2, X3, fun k hk => ?_, hby⟩
        have low : ∀ {s : Sl} {kk : IntKind} {l : List Int}, SlX w.heap s kk l → k ∈ blkL s l → k < w.heap.size := fun {s kk l} X hk => by
          have hl : l ≠ [] := fun e => by subst e; cases hk
          rw [mem_blkL hl] at hk
          exact (X.is hl).lt k hk
        exact List.mem_range.2 ((List.mem_append.1 hk).elim (low X2) (low X3))
    · have := hw ((len + (m - len)) * Q.bytesOf e) (by rw [hxe]; simp [DataW.weights, ht])
      rw [hbe] at this
      simp only [List.length_map, List.length_range]
      exact Nat.le_trans (Nat.mul_le_mul_right _ (by omega)) this
    · obtain ⟨i, hi, rfl⟩ := List.mem_map.1 hy
      obtain ⟨_, _, _, _, _, _, _, _, _, b1, b2, b3⟩ := ho i (by simpa using hi)
      exact ⟨b1, b2, b3⟩

/-! ### Read again -/
/-- a type of numbers, structs and slices of such -/
def goodT (Q : Program) : Nat → TypeId → Bool
  | 0, _ => false
  | n + 1, t => match Q.underlying t with
    | some .bool | some (.int _) => true
    | some (.slice e) => decide (0 < Q.cellsOf e) && goodT Q n e
    | some (.struct fs) => fs.toList.all fun f => goodT Q n f.type
    | _ => false

theorem trod_sp {sp : Nat → Bool} : ∀ (fuel m : Nat) (t : TypeId) (cs : List Value) (x : DataW H × List MemPlace), goodT Q m t = true → DataW.trod enc Q w base (fun _ => true) held fuel t cs = some x → (∀ p ∈ x.2, sp p.block = true) →
    DataW.trod enc Q w base sp held fuel t cs = some x
  | 0, _, _, _, _, _, h, _ => by simp [DataW.trod] at h
  | _ + 1, 0, _, _, _, hg, _, _ => by simp [goodT] at hg
  | fuel + 1, m + 1, t, cs, x, hg, h, hs => by
    have ih := trod_sp (sp := sp) fuel m
    rw [DataW.trod_step] at h ⊢
    unfold goodT at hg
    unfold DataW.trodStep at h ⊢
    cases hu : Q.underlying t with
    | none => rw [hu] at hg; cases hg
    | some d =>
      rw [hu] at hg h
      cases d <;> simp only [Bool.false_eq_true] at hg
      case bool =>
        split at h <;> first | (rename_i heq; cases heq; done) | (cases h; done) | exact h
      case int k =>
        split at h <;> first | (rename_i heq; cases heq; done) | (cases h; done) | exact h
      case slice e =>
        simp only [Bool.and_eq_true, decide_eq_true_eq] at hg
        split at h
        case h_7 => exact h
        case h_8 e' a len cap heq =>
          cases heq
          simp only at h ⊢
          split at h
          · rename_i hc
            rw [if_pos hc]
            simp only [Option.map_eq_some_iff, Option.bind_eq_some_iff] at h ⊢
            obtain ⟨elems, he, rest, hrest, rfl⟩ := h
            simp only [if_true] at hrest
            have one : ∀ (i : Nat) (y : DataW H × List MemPlace), y ∈ elems ++ rest → (w.cells? base (a.add (i * Q.cellsOf e)) (Q.cellsOf e)).bind (DataW.trod enc Q w base (fun _ => true) held fuel e) = some y →
                (w.cells? base (a.add (i * Q.cellsOf e)) (Q.cellsOf e)).bind (DataW.trod enc Q w base sp held fuel e) = some y := fun i y hy hv => by
              simp only [Option.bind_eq_some_iff] at hv ⊢
              obtain ⟨cs', hc', hy'⟩ := hv
              exact ⟨cs', hc', ih _ _ _ hg.2 hy' fun p hp => hs p (List.mem_append_right _ (List.mem_flatMap.2 ⟨y, hy, hp⟩))⟩
            refine ⟨elems, mapM_carry he (fun i y _ hy => one i y (List.mem_append_left _ hy)), rest, ?_, rfl⟩
            cases hsp : sp a.block with
            | true =>
              simp only [if_true]
              exact mapM_carry hrest (fun j y _ hy => one (len + j) y (List.mem_append_right _ hy))
            | false =>
              simp only [Bool.false_eq_true, if_false]
              cases rest with
              | nil => rfl
              | cons r rest =>
                have : MemPlace.cell a.block (a.off + 0) ∈ MemPlace.row a ((elems.length + (r :: rest).length) * Q.cellsOf e) := MemPlace.mem_row.2 ⟨0, Nat.mul_pos (by simp; omega) hg.1, rfl⟩
                have := hs _ (List.mem_append_left _ this)
                simp only [MemPlace.block] at this
                rw [hsp] at this
                cases this
          · cases h
        all_goals first | (rename_i heq; cases heq; done) | (cases h; done) | exact h
      case struct fs =>
        rw [List.all_eq_true] at hg
        simp only at h ⊢
        split at h
        · rename_i hc
          rw [if_pos hc]
          simp only [Option.map_eq_some_iff] at h ⊢
          obtain ⟨xs, hx, rfl⟩ := h
          exact ⟨xs, mapM_carry hx (fun f y hf hy hv => ih _ _ _ (hg f hf) hv (fun p hp => hs p (List.mem_flatMap.2 ⟨y, hy, hp⟩))), rfl⟩
        · cases h

theorem trod_fr (f : Fr [] w.heap w'.heap) {fuel : Nat} {t : TypeId} {cs : List Value} {x : DataW H × List MemPlace} (h : DataW.trod enc Q w base spare held fuel t cs = some x) (hb : ∀ p ∈ x.2, p.block < w.heap.size) : DataW.trod enc Q w' base spare held fuel t cs = some x := by
  refine DataW.trod_carry _ _ _ _ h fun p hp => ?_
  have := f.same p.block (hb p hp) (by simp)
  cases p with
  | cell b off => simp only [MemPlace.block] at this; simp only [World.sameAt, World.cell?, this]
  | map b => exact this

theorem reread (f : Fr [] w.heap w'.heap) {m : Nat} {sp : Nat → Bool} : ∀ {ts : List TypeId} {vs : List Value} {ds : List (DataW H)} {p : List MemPlace}, DataW.TrodAll enc Q w base (fun _ => true) held ts vs ds p → (∀ t ∈ ts, goodT Q m t = true) →
    (∀ q ∈ p, q.block < w.heap.size) → (∀ q ∈ p, sp q.block = true) → DataW.TrodAll enc Q w' base sp held ts vs ds p
  | [], [], [], _, h, _, _, _ => h
  | t :: ts, v :: vs, d :: ds, _, ⟨p, q, ⟨fuel, h1⟩, h2, e⟩, hg, hb, hs => by
    subst e
    have hb1 : ∀ r ∈ p, r.block < w.heap.size := fun r hr => hb r (List.mem_append_left _ hr)
    exact ⟨p, q, ⟨fuel, trod_fr f (trod_sp fuel m t _ _ (hg t (by simp)) h1 fun r hr => hs r (List.mem_append_left _ hr)) hb1⟩,
      reread f h2 (fun t ht => hg t (List.mem_cons_of_mem _ ht)) (fun r hr => hb r (List.mem_append_right _ hr)) (fun r hr => hs r (List.mem_append_right _ hr)), rfl⟩

def shapeL (Q : Program) (t : TypeId) : List (TypeId × Nat) := match Q.underlying t with | some (.struct fs) => fs.toList.map fun f => (f.type, f.offset) | _ => []

theorem struct4 {t a0 a1 a2 a3 : TypeId} {b0 b1 b2 b3 : Nat} (h : shapeL Q t = [(a0, b0), (a1, b1), (a2, b2), (a3, b3)]) :
    ∃ f0 f1 f2 f3 : Field, Q.underlying t = some (.struct #[f0, f1, f2, f3]) ∧ (f0.type = a0 ∧ f0.offset = b0) ∧ (f1.type = a1 ∧ f1.offset = b1) ∧ (f2.type = a2 ∧ f2.offset = b2) ∧ (f3.type = a3 ∧ f3.offset = b3) := by
  unfold shapeL at h
  split at h
  · rename_i fs hu
    obtain ⟨l⟩ := fs
    match l, h with
    | [f0, f1, f2, f3], h =>
      simp at h
      obtain ⟨⟨h0, h1⟩, ⟨h2, h3⟩, ⟨h4, h5⟩, h6, h7⟩ := h
      exact ⟨f0, f1, f2, f3, hu, ⟨h0, h1⟩, ⟨h2, h3⟩, ⟨h4, h5⟩, h6, h7⟩
  · cases h

theorem slice_ok {r : Reach} {t e : TypeId} {v : Value} (ht : Q.underlying t = some (.slice e)) (h : Value.okWide Q w r base t v) : ∃ a n c, v = .slice a n c := by
  unfold Value.okWide at h
  rw [ht] at h
  simp only [Cell.okWide, ht] at h
  cases v <;> simp [Cell.ok, ht] at h ⊢

/-- an argument: a slice of objects -/
theorem arg_objs {r : Reach} {b0 : Nat} {t e i sI sB u : TypeId} {v : Value} {d : DataW H} {p : List MemPlace} (ht : Q.underlying t = some (.slice e)) (hs : shapeL Q e = [(i, 0), (i, 1), (sI, 2), (sB, 3)]) (ce : Q.cellsOf e = 4) (hbe : Q.bytesOf e = 64)
    (hi : Q.underlying i = some (.int .i64)) (ci : Q.cellsOf i = 1) (bi : Q.bytesOf i = 8) (hI : Q.underlying sI = some (.slice i)) (cI : Q.cellsOf sI = 1) (hB : Q.underlying sB = some (.slice u)) (cB : Q.cellsOf sB = 1) (hu : Q.underlying u = some (.int .u8)) (cu : Q.cellsOf u = 1) (bu : Q.bytesOf u = 1)
    (hval : Value.okWide Q w r b0 t v) (h : DataW.Trod enc Q w base spare held t v d p) (hw : ∀ n ∈ d.weights Q t, n ≤ reachBytes) :
    ∃ (s : Sl) (l : List AO), v = .slice s.a s.n s.c ∧ SlO w.heap s l (List.range w.heap.size) ∧ l.length * 64 ≤ reachBytes ∧ ∀ a ∈ l, a.w.length * 8 ≤ reachBytes ∧ a.b.length ≤ reachBytes ∧ (Lit.int .i64 a.cls).wf = true := by
  obtain ⟨a, n, c, rfl⟩ := slice_ok ht hval
  obtain ⟨fuel, hf⟩ := h
  obtain ⟨f0, f1, f2, f3, he, ⟨y0, o0⟩, ⟨y1, o1⟩, ⟨y2, o2⟩, y3, o3⟩ := struct4 hs
  obtain ⟨s, l, e1, e2, e3, e4⟩ := open_objs (x := (d, p)) ht he ce hbe o0 o1 o2 o3 (by rw [y0]; exact ci) (by rw [y1]; exact ci) (by rw [y2]; exact cI) (by rw [y3]; exact cB) (by rw [y0]; exact hi) (by rw [y1]; exact hi) (by rw [y2]; exact hI) (by rw [y3]; exact hB) hi hu ci cu bi bu hf hw
  simp [Value.cells] at e1
  exact ⟨s, l, by simp [e1], e2, e3, e4⟩

/-- an argument: a slice of numbers -/
theorem arg_ints {r : Reach} {b0 : Nat} {t e : TypeId} {k : IntKind} {v : Value} {d : DataW H} {p : List MemPlace} (ht : Q.underlying t = some (.slice e)) (he : Q.underlying e = some (.int k)) (hc : Q.cellsOf e = 1) {bs : Nat} (hbs : Q.bytesOf e = bs)
    (hval : Value.okWide Q w r b0 t v) (h : DataW.Trod enc Q w base spare held t v d p) (hw : ∀ n ∈ d.weights Q t, n ≤ reachBytes) :
    ∃ (s : Sl) (l : List Int), v = .slice s.a s.n s.c ∧ SlX w.heap s k l ∧ l.length * bs ≤ reachBytes ∧ ∀ z ∈ l, (Lit.int k z).wf = true := by
  obtain ⟨a, n, c, rfl⟩ := slice_ok ht hval
  obtain ⟨fuel, hf⟩ := h
  obtain ⟨s, l, e1, e2, e3, e4⟩ := open_ints (x := (d, p)) ht he hc hbs hf hw
  simp [Value.cells] at e1
  exact ⟨s, l, by simp [e1], e2, e3, e4⟩
end
end Go.Hv.W
