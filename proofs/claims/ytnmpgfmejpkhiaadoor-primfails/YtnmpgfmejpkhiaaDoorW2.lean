/- What the functions of the program do, each by its contract. -/
import Derived.Laws.Strings
import Derived.Laws.World
import Derived.Test.YtnmpgfmejpkhiaaDoorHv3
/- Library functions on slices. -/
namespace Go.Hv.W
open Go Go.Hv

theorem SlI.nilA {h : Heap} (k : IntKind) : SlG h ⟨none, 0, 0⟩ k [] := SlG.empty h k

theorem clone_int {s : Sl} {l : List Int} {h : Heap} {R : Value → Heap → Prop} (H : SlI h s .i64 l) (hl : l.length ≤ 1000000000)
    (K : ∀ h' s', SlG h' s' .i64 l → Fr [] h h' → (∀ b ∈ s'.blk, h.size ≤ b) → R (.slice s'.a s'.n s'.c) h') : HC P F_slices_Clone_int_int #[.slice s.a s.n s.c] h R := by
  refine S_slices_Clone_int_int (condI (fun e => ?_) fun e h1 e1 => ?_)
  · have hs : s.a = none := by simpa using e
    have := H.nil hs
    subst this
    exact K h ⟨none, 0, 0⟩ (SlG.empty h _) (Fr.refl _ _) (by simp [Sl.blk])
  · have e2 : h1 = h.push (.cells (([] : List Int).map (Value.int .i64)).toArray T_int (0, 0)) := e1
    have G : SlG h1 ⟨some ⟨h.size, 0, none⟩, 0, 0⟩ .i64 [] := by rw [e2]; exact SlG.new rfl
    have f1 : Fr [] h h1 := by rw [e1]; exact Fr.push _ _ _
    have X : SlI h1 s .i64 l := H.fr f1 (by simp)
    have hn := H.len
    refine ⟨G.appOK X (by omega) (by simp only; omega), rfl, fun s' h2 A => ?_⟩
    obtain ⟨a1, a2, a3⟩ := G.appended X A
    refine K h2 s' a1 (f1.trans a2 fun k hk => .inr ?_) fun b hb => ?_
    · simp [Sl.blk] at hk; omega
    · rcases a3 b hb with hk | hk
      · simp [Sl.blk] at hk; omega
      · have := f1.size; omega

theorem clone_byte {s : Sl} {l : List Int} {h : Heap} {R : Value → Heap → Prop} (H : SlI h s .u8 l) (hl : l.length ≤ 1000000000)
    (K : ∀ h' s', SlG h' s' .u8 l → Fr [] h h' → (∀ b ∈ s'.blk, h.size ≤ b) → R (.slice s'.a s'.n s'.c) h') : HC P F_slices_Clone_byte_byte #[.slice s.a s.n s.c] h R := by
  refine S_slices_Clone_byte_byte (condI (fun e => ?_) fun e h1 e1 => ?_)
  · have hs : s.a = none := by simpa using e
    have := H.nil hs
    subst this
    exact K h ⟨none, 0, 0⟩ (SlG.empty h _) (Fr.refl _ _) (by simp [Sl.blk])
  · have e2 : h1 = h.push (.cells (([] : List Int).map (Value.int .u8)).toArray T_uint8 (0, 0)) := e1
    have G : SlG h1 ⟨some ⟨h.size, 0, none⟩, 0, 0⟩ .u8 [] := by rw [e2]; exact SlG.new rfl
    have f1 : Fr [] h h1 := by rw [e1]; exact Fr.push _ _ _
    have X : SlI h1 s .u8 l := H.fr f1 (by simp)
    have hn := H.len
    refine ⟨G.appOK X (by omega) (by simp only; omega), rfl, fun s' h2 A => ?_⟩
    obtain ⟨a1, a2, a3⟩ := G.appended X A
    refine K h2 s' a1 (f1.trans a2 fun k hk => .inr ?_) fun b hb => ?_
    · simp [Sl.blk] at hk; omega
    · rcases a3 b hb with hk | hk
      · simp [Sl.blk] at hk; omega
      · have := f1.size; omega
end Go.Hv.W

/- The memory without bounds: copies of objects. -/
namespace Go.Hv.W
open Go Go.Hv

theorem wide_Copy {cls kind : Int} {sw sb : Sl} {lw lb : List Int} {h : Heap} {R : Value → Heap → Prop} (Hw : SlI h sw .i64 lw) (Hb : SlI h sb .u8 lb) (hw : lw.length ≤ 1000000000) (hb : lb.length ≤ 1000000000)
    (K : ∀ h' sw' sb', SlI h' sw' .i64 lw → SlI h' sb' .u8 lb → Fr [] h h' → (∀ k ∈ sw'.blk ++ sb'.blk, h.size ≤ k) → sw'.n ≤ sw'.c ∧ sb'.n ≤ sb'.c → R (.agg (objCells cls kind sw' sb')) h') :
    HC P F_wide_Copy #[.agg #[.int .i64 cls, .int .i64 kind, .slice sw.a sw.n sw.c, .slice sb.a sb.n sb.c]] h R := by
  refine S_wide_Copy fun h1 e1 h2 e2 => ?_
  have s1 : h1.size = h.size + 1 := by rw [e1]; simp
  have g1 : h1[h.size]? = some (.cells (objCells cls kind sw sb) T_api_Obj (0, 0)) := by rw [e1]; exact get_push_new
  have f1 : Fr [] h h1 := by rw [e1]; exact Fr.push _ _ _
  have f2 : Fr [] h1 h2 := by rw [e2]; exact Fr.push _ _ _
  have g2 : h2[h.size]? = some (.cells (objCells cls kind sw sb) T_api_Obj (0, 0)) := f2.get g1 (by simp)
  have k2 : h2[h1.size]? = some (.cells (objCells 0 0 ⟨none, 0, 0⟩ ⟨none, 0, 0⟩) T_api_Obj (0, 0)) := by rw [e2]; exact get_push_new
  have s2 : h2.size = h.size + 2 := by rw [e2]; simp [s1]
  have f12 := f1.trans' f2
  simp only [add_add, cellH_of g2]
  refine ⟨sw, rfl, sb, rfl, clone_int (Hw.fr f12 (by simp)) hw fun h3 sw' G3 f3 b3 => ⟨sw', rfl, ?_⟩⟩
  have g3 := f3.get g2 (by simp)
  have k3 := f3.get k2 (by simp)
  simp only [cellH_of g3]
  refine ⟨⟨sb, rfl, rfl⟩, clone_byte ((Hb.fr f12 (by simp)).fr f3 (by simp)) hb fun h4 sb' G4 f4 b4 => ⟨sb', rfl, ?_⟩⟩
  have g4 := f4.get g3 (by simp)
  have k4 := f4.get k3 (by simp)
  refine ⟨StOK_of g4 (by simp [objCells]), fun h5 e5 => ?_⟩
  have g5 : h5[h.size]? = some (.cells (objCells cls kind sw' sb) T_api_Obj (0, 0)) := by rw [e5]; exact get_putH_eq g4
  refine ⟨StOK_of g5 (by simp [objCells]), fun h6 e6 => ?_⟩
  have g6 : h6[h.size]? = some (.cells (objCells cls kind sw' sb') T_api_Obj (0, 0)) := by rw [e6]; exact get_putH_eq g5
  have k6 : h6[h1.size]? = some (.cells (objCells 0 0 ⟨none, 0, 0⟩ ⟨none, 0, 0⟩) T_api_Obj (0, 0)) := by
    rw [e6, get_putH_ne (by simp [s1]), e5, get_putH_ne (by simp [s1])]; exact k4
  simp only [cellH_of g6]
  refine ⟨cls, rfl, kind, rfl, sw', rfl, sb', rfl, StOK_of k6 (by simp [objCells]), fun h7 e7 => ?_⟩
  have k7 : h7[h1.size]? = some (.cells (objCells cls kind sw' sb') T_api_Obj (0, 0)) := by rw [e7]; exact get_putsH_eq k6
  simp only [cellH_of k7]
  refine ⟨cls, rfl, kind, rfl, sw', rfl, sb', rfl, ?_⟩
  have z3 := f3.size
  have z4 := f4.size
  have f47 : Fr [h.size, h1.size] h4 h7 := by
    rw [e7, e6, e5]
    exact ((Fr.put (.inl (by simp))).trans' (Fr.put (.inl (by simp)))).trans' (Fr.puts (.inl (by simp)))
  have far : ∀ {s : Sl}, (∀ b ∈ s.blk, h2.size ≤ b) → ∀ b ∈ s.blk, b ∉ [h.size, h1.size] := fun hs b hb => by
    have := hs b hb
    simp
    omega
  refine K h7 sw' sb' ((G3.is.fr f4 (by simp)).fr f47 (far b3)) (G4.is.fr f47 (far fun b hb => Nat.le_trans z3 (b4 b hb))) ?_ ?_ ⟨G3.cap, G4.cap⟩
  · exact ((f12.trans' f3).trans' f4).trans f47 fun k hk => .inr (by simp at hk; omega)
  · intro k hk
    rw [List.mem_append] at hk
    rcases hk with hk | hk
    · have := b3 k hk; omega
    · have := b4 k hk; omega

theorem flat_Obj {h : Heap} {pb mb : Nat} {made : Int} {L : List LO} {r : Int} {R : Value → Heap → Prop} (F : Flat h pb mb made L)
    (K1 : ∀ o h' sw sb, lk L (namV r) = some o → Fr [] h h' → SlI h' sw .i64 o.ao.w → SlI h' sb .u8 o.ao.b → (∀ k ∈ sw.blk ++ sb.blk, h.size ≤ k) → sw.n ≤ sw.c ∧ sb.n ≤ sb.c →
      R (.tuple #[.agg (objCells o.ao.cls o.ao.kind sw sb), .int .i64 0]) h')
    (K0 : ∀ h', lk L (namV r) = none → Fr [] h h' → R (.tuple #[.agg (objCells 0 0 nilSl nilSl), .int .i64 4]) h') :
    HC P F_flat_Memory_Obj #[.pointer (some ⟨pb, 0, none⟩), .int .i64 r] h R := by
  refine S_flat_Memory_Obj fun h1 e1 => ?_
  have f1 : Fr [] h h1 := by rw [e1]; exact Fr.push _ _ _
  have g1 : h1[h.size]? = some (.cells (objCells 0 0 nilSl nilSl) T_api_Obj (0, 0)) := by rw [e1]; exact get_push_new
  have F1 := F.grow f1
  refine flat_at F1 (fun o hl => ⟨_, _, rfl, ?_⟩) fun hl => ⟨_, _, rfl, ?_⟩
  · have ho := F1.objs o (lk_some hl).1
    simp only [show ((0 : Int) != 0) = false from rfl, cond_false, oE_some, ptrOf, add_add, cellH_of ho.cell]
    refine ⟨_, rfl, _, rfl, o.sw, rfl, o.sb, rfl, ?_⟩
    have hlw : o.ao.w.length ≤ 1000000000 ∧ o.ao.b.length ≤ 1000000000 := by
      rcases ho.ok.kind with ⟨_, h2, h3, _⟩ | ⟨_, h2, h3, _⟩
      · rw [h2]; simp; omega
      · rw [h2]; simp; omega
    refine wide_Copy ho.w.is ho.b.is hlw.1 hlw.2 fun h2 sw sb Gw Gb f2 hb hcap => ⟨_, _, sw, sb, rfl, ?_⟩
    have g2 := f2.get g1 (by simp)
    refine ⟨StOK_of g2 (by simp [objCells]), fun h3 e3 => ?_⟩
    have g3 : h3[h.size]? = some (.cells (objCells o.ao.cls o.ao.kind sw sb) T_api_Obj (0, 0)) := by rw [e3]; exact get_putsH_eq g2
    simp only [cellH_of g3]
    refine ⟨_, rfl, _, rfl, sw, rfl, sb, rfl, ?_⟩
    have z1 : h1.size = h.size + 1 := by rw [e1]; simp
    have f3 : Fr [h.size] h2 h3 := by rw [e3]; exact Fr.puts (.inl (by simp))
    refine K1 o h3 sw sb hl ((f1.trans' f2).trans f3 fun k hk => .inr (by simp at hk; omega)) (Gw.fr f3 fun b hb' => ?_) (Gb.fr f3 fun b hb' => ?_) (fun k hk => ?_) hcap
    · have := hb b (by simp [hb']); simp; omega
    · have := hb b (by simp [hb']); simp; omega
    · have := hb k hk; omega
  · refine condI (fun _ => ⟨StOK_of g1 (by simp [objCells]), fun h2 e2 => ?_⟩) fun e => (by simp at e)
    have g2 : h2[h.size]? = some (.cells (objCells 0 0 nilSl nilSl) T_api_Obj (0, 0)) := by rw [e2]; exact get_putsH_eq g1
    simp only [add_add, cellH_of g2]
    refine ⟨_, rfl, _, rfl, nilSl, rfl, nilSl, rfl, K0 h2 hl (f1.trans (G := [h.size]) ?_ fun k hk => .inr (by simp at hk; omega))⟩
    rw [e2]; exact Fr.puts (.inl (by simp))
end Go.Hv.W

/- Boxes, products of words, a slice of one number many times. -/
namespace Go.Hv.W
open Go Go.Hv

theorem wrap_u64 (z : Int) : IntKind.u64.wrap z = z % 18446744073709551616 := by
  simp [IntKind.wrap, IntKind.bits, IntKind.signed]

theorem andU_mask (x : Int) (n : Nat) (hn : n ≤ 64) : andI .u64 x ((2 ^ n - 1 : Nat) : Int) = x % ((2 ^ n : Nat) : Int) := by
  unfold andI
  have h64 : 2 ^ n ≤ 2 ^ 64 := Nat.pow_le_pow_right (by omega) hn
  have hpos : 0 < 2 ^ n := Nat.pos_of_ne_zero (by simp)
  rw [BitVec.toNat_and, BitVec.toNat_ofInt, BitVec.toNat_ofInt]
  have e1 : (((2 ^ n - 1 : Nat) : Int) % ((2 ^ IntKind.u64.bits : Nat) : Int)).toNat = 2 ^ n - 1 := by
    rw [Int.emod_eq_of_lt (by omega) (by simp only [IntKind.bits]; omega)]
    simp
  rw [e1, Nat.and_two_pow_sub_one_eq_mod]
  have e2 : (((x % ((2 ^ IntKind.u64.bits : Nat) : Int)).toNat % 2 ^ n : Nat) : Int) = x % ((2 ^ n : Nat) : Int) := by
    rw [Int.natCast_emod, Int.toNat_of_nonneg (Int.emod_nonneg _ (by simp [IntKind.bits]))]
    apply Int.emod_emod_of_dvd
    exact Int.natCast_dvd_natCast.2 (Nat.pow_dvd_pow 2 (by simp only [IntKind.bits]; omega))
  rw [e2, wrap_u64]
  have h3 : 0 ≤ x % ((2 ^ n : Nat) : Int) := Int.emod_nonneg _ (by omega)
  have h4 : x % ((2 ^ n : Nat) : Int) < ((2 ^ n : Nat) : Int) := Int.emod_lt_of_pos _ (by omega)
  exact Int.emod_eq_of_lt h3 (by omega)

theorem andU_32 (x : Int) : andI .u64 x 4294967295 = x % 4294967296 := andU_mask x 32 (by omega)

/-- an object that lies in a block of its own is read -/
theorem box4 {h : Heap} {b : Nat} {cls kind : Int} {sw sb : Sl} {T : TypeId} {q : Nat × Nat} {K : Int → Int → Sl → Sl → Prop} (g : h[b]? = some (.cells (objCells cls kind sw sb) T q)) (k : K cls kind sw sb) :
    ∃ z2 : Int, cellH h (Addr.add (Addr.mk b 0 none) 0) = some (Value.int .i64 z2) ∧ ∃ z3 : Int, cellH h (Addr.add (Addr.mk b 0 none) 1) = some (Value.int .i64 z3) ∧
      ∃ s1 : Sl, cellH h (Addr.add (Addr.mk b 0 none) 2) = some (Value.slice s1.a s1.n s1.c) ∧ ∃ s2 : Sl, cellH h (Addr.add (Addr.mk b 0 none) 3) = some (Value.slice s2.a s2.n s2.c) ∧ K z2 z3 s1 s2 := by
  simp only [add_add, cellH_of g]
  exact ⟨cls, rfl, kind, rfl, sw, rfl, sb, rfl, k⟩

theorem box_w {h : Heap} {b n : Nat} {cls kind cls' kind' : Int} {sw sb sw' sb' : Sl} {T : TypeId} {K : Heap → Prop} (g : h[b]? = some (.cells (objCells cls kind sw sb) T (0, 0))) (hn : n = 4)
    (k : ∀ h', h'[b]? = some (.cells (objCells cls' kind' sw' sb') T (0, 0)) → Fr [b] h h' → K h') :
    StOK h (Addr.mk b 0 none) n ∧ ∀ h' : Heap, h' = putsH h (Addr.mk b 0 none) [Value.int .i64 cls', Value.int .i64 kind', Value.slice sw'.a sw'.n sw'.c, Value.slice sb'.a sb'.n sb'.c] 0 → K h' := by
  subst hn
  refine ⟨StOK_of g (by simp [objCells]), fun h' e => ?_⟩
  subst e
  exact k _ (get_putsH_eq g) (Fr.puts (.inl (by simp)))

theorem box_new {h : Heap} {o : Obj} {K : Heap → Prop} (k : ∀ h', h'[h.size]? = some o → Fr [] h h' → h'.size = h.size + 1 → K h') : ∀ h' : Heap, h' = Array.push h o → K h' := by
  intro h' e
  subst e
  exact k _ get_push_new (Fr.push _ _ _) (by simp)

theorem cellsH_of {h : Heap} {b o n : Nat} {cs : Array Value} {T : TypeId} {q : Nat × Nat} (hb : h[b]? = some (.cells cs T q)) (hn : o + n ≤ cs.size) : cellsH h ⟨b, o, none⟩ n = some ((cs.toList.drop o).take n) := by
  simp [cellsH, hb, hn]

theorem math_Mul_1 {y : Int} {h : Heap} {R : Value → Heap → Prop} (h0 : 0 ≤ y) (h1 : y ≤ 4294967295) (K : R (.tuple #[.int .u64 0, .int .u64 y]) h) :
    HC P F_math_bits_Mul #[.int .u64 1, .int .u64 y] h R := by
  refine S_math_bits_Mul (S_math_bits_Mul64 ⟨by omega, by omega, by omega, by omega, by omega, by omega, by omega, by omega, by omega, by omega, _, _, rfl, ?_⟩)
  have e0 : y / 4294967296 = 0 := by omega
  have e1 : y % 4294967296 = y := by omega
  have e2 : (1 : Int) / 4294967296 = 0 := by decide
  have e3 : (1 : Int) % 4294967296 = 1 := by decide
  have e4 : y % 18446744073709551616 = y := by omega
  simp only [andU_32, wrap_u64, e0, e1, e2, e3, Int.zero_mul, Int.mul_zero, Int.one_mul, Int.add_zero, Int.zero_emod, e4, Int.zero_ediv]
  exact K

theorem replicate_of {cs : Array Value} {x : Value} {m : Nat} (hm : m ≤ cs.size) (hx : ∀ i, i < m → cs[i]? = some x) : (cs.toList.drop 0).take m = List.replicate m x := by
  apply List.ext_getElem?
  intro i
  rw [List.drop_zero, List.getElem?_take, List.getElem?_replicate]
  split
  · rename_i hi
    have := hx i hi
    simpa using this
  · rfl

/-- the row while it fills up -/
structure Fill (b n : Nat) (x : Value) (h0 : Heap) (T : TypeId) (z : Int) (h' : Heap) : Prop where
  get : ∃ cs, h'[b]? = some (.cells cs T (0, 0)) ∧ cs.size = n ∧ ∀ i : Nat, (i : Int) < z → cs[i]? = some x
  lo : 0 ≤ z
  hi : z ≤ n
  pos : z = 0 → n = 0
  fr : Fr [] h0 h'

theorem Fill.step {b n : Nat} {x : Value} {h0 h' : Heap} {T : TypeId} {z : Int} (F : Fill b n x h0 T z h') (hb : h0.size ≤ b) {o m : Nat} (ho : (o : Int) ≤ z) (hz : z ≤ o + m) (hm : o + m ≤ n) (hp : n ≠ 0 → 0 < o + m) :
    Fill b n x h0 T (o + m : Nat) (putsH h' ⟨b, o, none⟩ (List.replicate m x) 0) := by
  obtain ⟨cs, g1, g2, g3⟩ := F.get
  refine ⟨⟨_, get_putsH_eq g1, by rw [size_setsA, g2], fun i hi => ?_⟩, by omega, by omega, fun e => ?_, ?_⟩
  · rw [get_setsA (by simp; omega)]
    simp only [List.length_replicate, Nat.add_zero]
    split
    · rw [List.getElem?_replicate, if_pos (by omega)]
    · exact g3 i (by omega)
  · by_cases hn : n = 0
    · exact hn
    · have := hp hn; omega
  · exact F.fr.trans (Fr.puts (F := [b]) (.inl (by simp))) fun k hk => .inr (by simp at hk; omega)

theorem slices_Repeat_1 (s0 : Sl) {b : Nat} {x n : Int} {T' : TypeId} {q : Nat × Nat} {h : Heap} {R : Value → Heap → Prop} (hs : s0.a = some ⟨b, 0, none⟩) (hsn : s0.n = 1) (g : h[b]? = some (.cells #[.int .i64 x] T' q)) (hn0 : 0 ≤ n) (hn : n ≤ 1000000000)
    (K : ∀ h' s', SlW h' s' .i64 (List.replicate n.toNat x) → Fr [] h h' → (∃ p, s'.a = some p ∧ h.size ≤ p.block) → R (.slice s'.a s'.n s'.c) h') :
    HC P F_slices_Repeat_int_int #[.slice s0.a s0.n s0.c, .int .i64 n] h R := by
  refine S_slices_Repeat_int_int fun J1 hJ1 => condI (fun e => absurd (of_decide_eq_true e) (by omega)) fun _ => hJ1 h ?_
  have w1 : IntKind.u64.wrap (s0.n : Int) = 1 := by rw [wrap_u64, hsn]; rfl
  have w2 : IntKind.u64.wrap n = n := by rw [wrap_u64]; omega
  rw [w1, w2]
  refine math_Mul_1 hn0 (by omega) ⟨_, _, rfl, fun J2 hJ2 => condI (fun e => absurd (of_decide_eq_true e) (by omega)) fun _ => condI (fun e => absurd (of_decide_eq_true e) (by omega)) fun _ => hJ2 h ?_⟩
  refine ⟨⟨by omega, by omega⟩, hn0, Int.le_refl _, by omega, by omega, rfl, by omega, box_new fun h3 g3 f3 s3 => ?_⟩
  have hcs : h3[h.size]? = some (.cells (List.replicate n.toNat (Value.int .i64 0)).toArray T_int (0, 0)) := by
    rw [g3]
    congr 3
    induction n.toNat with
    | zero => rfl
    | succ k ih => simp only [List.replicate_succ, List.flatten_cons, ih]; rfl
  rw [hs, oE_some, hsn]
  have gb := f3.get g (by simp)
  have hmin : Min.min 1 n.toNat * 1 ≤ 1 := by omega
  refine ⟨List.replicate (Min.min 1 n.toNat * 1) (.int .i64 x), ?_, ?_, ?_, fun h4 e4 => ?_⟩
  · rw [cellsH_of gb (by simp; omega)]
    rw [replicate_of (x := Value.int .i64 x) (by simp; omega) (fun i hi => by
      have : i = 0 := by omega
      subst this; rfl)]
  · intro v hv
    rw [List.eq_of_mem_replicate hv]
    rfl
  · exact StOK_of hcs (by simp; omega)
  have F4 : Fill h.size n.toNat (.int .i64 x) h T_int (Min.min 1 n.toNat : Nat) h4 := by
    have F3 : Fill h.size n.toNat (.int .i64 x) h T_int 0 h3 ∨ n.toNat ≠ 0 := by
      by_cases hz : n.toNat = 0
      · exact .inl ⟨⟨_, hcs, by simp, fun i hi => by omega⟩, by omega, by omega, fun _ => hz, f3⟩
      · exact .inr hz
    refine ⟨⟨_, by rw [e4]; exact get_putsH_eq hcs, by rw [size_setsA]; simp, fun i hi => ?_⟩, by omega, by omega, fun e => by omega, ?_⟩
    · rw [get_setsA (by simp; omega)]
      simp only [List.length_replicate]
      rw [if_pos (by omega), List.getElem?_replicate, if_pos (by omega)]
    · rw [e4]
      exact f3.trans (Fr.puts (F := [h.size]) (.inl (by simp))) fun k hk => .inr (by simp at hk; omega)
  refine ⟨fun z h' => Fill h.size n.toNat (.int .i64 x) h T_int z h', fun z h' => (n - z).toNat, F4, fun z h5 F5 => condI (fun e => ?_) fun e => ?_⟩
  · have e := of_decide_eq_true e
    have l0 := F5.lo
    have l1 := F5.hi
    have lp : 0 < z := by
      rcases Int.lt_or_eq_of_le l0 with h | h
      · exact h
      · have := F5.pos h.symm; omega
    obtain ⟨cs, c1, c2, c3⟩ := F5.get
    refine ⟨l0, by omega, l0, by omega, ?_⟩
    rw [if_neg (by omega), oE_some]
    simp only [Nat.mul_one, add_add, Nat.zero_add]
    have hm1 : Min.min z.toNat (n.toNat - z.toNat) ≤ cs.size := by omega
    refine ⟨List.replicate (Min.min z.toNat (n.toNat - z.toNat)) (.int .i64 x), ?_, ?_, ?_, fun h6 e6 => ?_⟩
    · rw [cellsH_of c1 (by omega)]
      rw [replicate_of hm1 (fun i hi => c3 i (by omega))]
    · intro v hv
      rw [List.eq_of_mem_replicate hv]
      rfl
    · exact StOK_of c1 (by omega)
    · have F6 := F5.step (Nat.le_refl _) (o := z.toNat) (m := Min.min z.toNat (n.toNat - z.toNat)) (by omega) (by omega) (by omega) (fun _ => by omega)
      have ez : z + ((Min.min z.toNat (n.toNat - z.toNat) : Nat) : Int) = ((z.toNat + Min.min z.toNat (n.toNat - z.toNat) : Nat) : Int) := by omega
      rw [ez, e6]
      exact ⟨⟨by omega, by omega⟩, F6, by omega⟩
  · have e : ¬ z < ((n.toNat : Nat) : Int) := by simpa using e
    have l1 := F5.hi
    obtain ⟨cs, c1, c2, c3⟩ := F5.get
    refine K h5 ⟨some ⟨h.size, 0, none⟩, n.toNat, n.toNat⟩ ⟨⟨by simp, fun e => (by cases e), fun p hp => ?_⟩, fun p hp => ?_⟩ F5.fr ⟨_, rfl, Nat.le_refl _⟩
    · cases hp
      refine ⟨rfl, cs, _, _, c1, by simp; omega, fun i hi => ?_⟩
      simp only [List.length_replicate] at hi
      simp only [Nat.zero_add]
      rw [c3 i (by omega), List.getElem?_replicate, if_pos hi]
      rfl
    · cases hp
      exact ⟨cs, _, c1⟩
end Go.Hv.W

/- The memory without bounds: new objects, bytes, the next one, two that become one another. -/
namespace Go.Hv.W
open Go Go.Hv

theorem not_eq_true_of {b : Bool} (h : (!b) = true) : b = false := by cases b <;> simp_all
theorem not_eq_false_of {b : Bool} (h : (!b) = false) : b = true := by cases b <;> simp_all

theorem flat_Blank {cls kind size : Int} {h : Heap} {R : Value → Heap → Prop}
    (K1 : newOK cls kind size = true → ∀ h' sw sb, SlW h' sw .i64 (blankA cls kind size).w → SlW h' sb .u8 (blankA cls kind size).b → Fr [] h h' → (∀ k ∈ sw.blk ++ sb.blk, h.size ≤ k) → (sw.blk ++ sb.blk).Nodup →
      R (.tuple #[.agg (objCells cls kind sw sb), .bool true]) h')
    (K0 : newOK cls kind size = false → ∀ h', Fr [] h h' → R (.tuple #[.agg (objCells 0 0 nilSl nilSl), .bool false]) h') :
    HC P F_flat_Blank #[.int .i64 cls, .int .i64 kind, .int .i64 size] h R := by
  refine S_flat_Blank (box_new fun h1 g1 f1 s1 => word_Named ⟨_, _, rfl, box_new fun h2 g2 f2 s2 => box_w (sw := nilSl) (sb := nilSl) (sw' := nilSl) (sb' := nilSl) g2 rfl fun h3 g3 f3 => ?_⟩)
  have f13 : Fr [] h h3 := (f1.trans' f2).trans f3 fun k hk => .inr (by simp at hk; omega)
  have b3 : h3[h.size]? = some (.cells (objCells 0 0 nilSl nilSl) T_api_Obj (0, 0)) := f3.get (f2.get g1 (by simp)) (by simp [s1])
  -- the way of what may not be
  have bad : newOK cls kind size = false → (StOK h3 (Addr.mk (Array.size h) 0 none) 4 ∧ ∀ h4 : Heap, h4 = putsH h3 (Addr.mk (Array.size h) 0 none) [Value.int .i64 0, Value.int .i64 0, Value.slice none 0 0, Value.slice none 0 0] 0 →
      ∃ z2 : Int, cellH h4 (Addr.add (Addr.mk (Array.size h) 0 none) 0) = some (Value.int .i64 z2) ∧ ∃ z3 : Int, cellH h4 (Addr.add (Addr.mk (Array.size h) 0 none) 1) = some (Value.int .i64 z3) ∧
      ∃ s1 : Sl, cellH h4 (Addr.add (Addr.mk (Array.size h) 0 none) 2) = some (Value.slice s1.a s1.n s1.c) ∧ ∃ s2 : Sl, cellH h4 (Addr.add (Addr.mk (Array.size h) 0 none) 3) = some (Value.slice s2.a s2.n s2.c) ∧
      R (.tuple #[.agg #[.int .i64 z2, .int .i64 z3, .slice s1.a s1.n s1.c, .slice s2.a s2.n s2.c], .bool false]) h4) := fun hb => by
    refine box_w (sw := nilSl) (sb := nilSl) (sw' := nilSl) (sb' := nilSl) b3 rfl fun h4 g4 f4 => box4 g4 ?_
    exact K0 hb h4 (f13.trans f4 fun k hk => .inr (by simp at hk; omega))
  -- the end of what may be
  refine fun J1 hJ1 => ?_
  have fin : newOK cls kind size = true → ∀ b, J1 b h3 := fun hok b => by
    refine hJ1 b h3 fun J2 hJ2 => ?_
    have ende : ∀ h5 sw sb, h5[h1.size]? = some (.cells (objCells cls kind sw sb) T_api_Obj (0, 0)) → h5[h.size]? = some (.cells (objCells 0 0 nilSl nilSl) T_api_Obj (0, 0)) → Fr [] h h5 →
        SlW h5 sw .i64 (blankA cls kind size).w → SlW h5 sb .u8 (blankA cls kind size).b → (∀ k ∈ sw.blk ++ sb.blk, h3.size ≤ k) → (sw.blk ++ sb.blk).Nodup → J2 h5 := by
      intro h5 sw sb a1 a2 a3 a4 a5 a6 a7
      refine hJ2 h5 (box4 a1 ?_)
      refine box_w (sw' := sw) (sb' := sb) a2 rfl fun h6 g6 f6 => box4 g6 ?_
      have z3 := f13.size
      have z4 := f3.size
      have far : ∀ k ∈ sw.blk ++ sb.blk, k ∉ [h.size] := fun k hk => by have := a6 k hk; simp; omega
      exact K1 hok h6 sw sb (a4.fr f6 fun b hb => far b (by simp [hb])) (a5.fr f6 fun b hb => far b (by simp [hb])) (a3.trans f6 fun k hk => .inr (by simp at hk; omega))
        (fun k hk => by have := a6 k hk; omega) a7
    simp only [newOK, Bool.and_eq_true, Bool.or_eq_true, beq_iff_eq, decide_eq_true_eq] at hok
    obtain ⟨_, hk, hs0, hs1⟩ := hok
    have z3 := f13.size
    have z4 := f3.size
    refine condI (fun e => ?_) fun e => ?_
    · have e : kind = 1 := by simpa using e
      refine box_new fun h5 g5 f5 s5 => slices_Repeat_1 ⟨some ⟨h3.size, 0, none⟩, 1, 1⟩ rfl rfl g5 hs0 (by omega) fun h6 s' W6 f6 hp6 => ⟨s', rfl, ?_⟩
      obtain ⟨p, hp, hp6⟩ := hp6
      have k6 := f6.get (f5.get g3 (by simp)) (by simp)
      have b6 := f6.get (f5.get b3 (by simp)) (by simp)
      rw [add_add]
      refine ⟨StOK_of k6 (by simp [objCells]), fun h7 e7 => ?_⟩
      have k7 : h7[h1.size]? = some (.cells (objCells cls kind s' nilSl) T_api_Obj (0, 0)) := by rw [e7]; exact get_putH_eq k6
      have f7 : Fr [h1.size] h6 h7 := by rw [e7]; exact Fr.put (.inl (by simp))
      have hw : (blankA cls kind size).w = List.replicate size.toNat 2 := by simp [blankA, e]
      have hb : (blankA cls kind size).b = [] := by simp [blankA, e]
      have far : ∀ k ∈ s'.blk, h3.size + 1 ≤ k := fun k hk => by simp [Sl.blk, hp] at hk; subst hk; have := f6.size; omega
      refine ende h7 s' nilSl k7 (f7.get b6 (by simp [s1])) (((f13.trans' f5).trans' f6).trans f7 fun k hk => .inr (by simp at hk; omega)) (by rw [hw]; exact W6.fr f7 fun b hb' => by have := far b hb'; simp; omega) ?_ ?_ ?_
      · rw [hb]
        exact ⟨⟨rfl, fun _ => rfl, fun p hp => by cases hp⟩, fun p hp => by cases hp⟩
      · intro k hk
        simp only [nilSl, Sl.blk, List.append_nil] at hk
        have := far k hk; omega
      · simp [nilSl, Sl.blk, hp]
    · have e : kind = 2 := by
        have : kind ≠ 1 := by simpa using e
        omega
      refine ⟨hs0, Int.le_refl _, by omega, by omega, rfl, by omega, box_new fun h5 g5 f5 s5 => ?_⟩
      have k5 := f5.get g3 (by simp)
      have b5 := f5.get b3 (by simp)
      rw [add_add]
      refine ⟨StOK_of k5 (by simp [objCells]), fun h7 e7 => ?_⟩
      have k7 : h7[h1.size]? = some (.cells (objCells cls kind nilSl ⟨some ⟨h3.size, 0, none⟩, size.toNat, size.toNat⟩) T_api_Obj (0, 0)) := by rw [e7]; exact get_putH_eq k5
      have f7 : Fr [h1.size] h5 h7 := by rw [e7]; exact Fr.put (.inl (by simp))
      have hw : (blankA cls kind size).w = [] := by simp [blankA, e]
      have hb : (blankA cls kind size).b = List.replicate size.toNat 0 := by simp [blankA, e]
      refine ende h7 nilSl ⟨some ⟨h3.size, 0, none⟩, size.toNat, size.toNat⟩ k7 (f7.get b5 (by simp [s1])) ((f13.trans' f5).trans f7 fun k hk => .inr (by simp at hk; omega)) ?_ ?_ ?_ ?_
      · rw [hw]
        exact ⟨⟨rfl, fun _ => rfl, fun p hp => by cases hp⟩, fun p hp => by cases hp⟩
      · rw [hb]
        have g7 : h7[h3.size]? = some (.cells (List.replicate size.toNat (Value.int .u8 0)).toArray T_uint8 (0, 0)) := by
          rw [f7.get g5 (by simp; omega)]
          congr 3
          induction size.toNat with
          | zero => rfl
          | succ k ih => simp only [List.replicate_succ, List.flatten_cons, ih]; rfl
        refine ⟨⟨by simp, fun e => (by cases e), fun p hp => ?_⟩, fun p hp => ?_⟩
        · cases hp
          refine ⟨rfl, _, _, _, g7, by simp, fun i hi => ?_⟩
          simp only [List.length_replicate] at hi
          simp [hi]
        · cases hp
          exact ⟨_, _, g7⟩
      · intro k hk
        simp [nilSl, Sl.blk] at hk; omega
      · simp [nilSl, Sl.blk]
  have hnew : newOK cls kind size = (namB cls && ((kind == 1 || kind == 2) && (decide (0 ≤ size) && decide (size ≤ 1000)))) := rfl
  refine condI (fun e => bad ?_) fun e => condI (fun e2 => condI (fun e3 => bad ?_) fun e3 => condI (fun e4 => bad ?_) fun e4 => condI (fun e5 => bad ?_) fun e5 => fin ?_ _) fun e2 => condI (fun e4 => bad ?_) fun e4 => condI (fun e5 => bad ?_) fun e5 => fin ?_ _
  · rw [hnew, not_eq_true_of e]; rfl
  · simp at e2 e3; rw [hnew]; simp [e2, e3]
  · simp at e4; rw [hnew]; have : ¬ (0 ≤ size) := by omega
    simp [this]
  · simp at e5; rw [hnew]; have : ¬ (size ≤ 1000) := by omega
    simp [this]
  · simp at e3 e4 e5; rw [hnew, not_eq_false_of e]; simp [e3, e4, e5]
  · simp at e4; rw [hnew]; have : ¬ (0 ≤ size) := by omega
    simp [this]
  · simp at e5; rw [hnew]; have : ¬ (size ≤ 1000) := by omega
    simp [this]
  · simp at e2 e4 e5; rw [hnew, not_eq_false_of e]; simp [e2, e4, e5]
end Go.Hv.W

/- The memory without bounds: an object more; a byte. -/
namespace Go.Hv.W
open Go Go.Hv

theorem mfind_of_ne {n : Int} : ∀ {l : List MapEntry}, (∀ e ∈ l, ∃ a, e.key = .int .i64 a ∧ a ≠ n) → mfind n l = none
  | [], _ => rfl
  | e :: l, H => by
    obtain ⟨a, ha, hn⟩ := H e (by simp)
    have ih : mfind n l = none := mfind_of_ne fun x hx => H x (List.mem_cons_of_mem _ hx)
    simp only [mfind, ha, if_neg hn, ih]
    rfl

/-- an object more -/
theorem Flat.add {h : Heap} {pb mb : Nat} {made : Int} {L : List LO} (F : Flat h pb mb made L) {o : LO} (ok : ObjOK h o) (hid : o.id = made + 1) (hfp : ∀ k ∈ o.fp, k ∉ fpM pb mb L) {es : Array MapEntry} {clk : Nat}
    {h1 h2 : Heap} (e1 : h1 = putH h ⟨pb, 1, none⟩ (.int .i64 (made + 1))) (hes : h1[mb]? = some (.map es clk)) (e2 : h2 = h1.setIfInBounds mb (mput es clk (.int .i64 (made + 1)) (made + 1) (.pointer (some ⟨o.bo, 0, none⟩)))) :
    Flat h2 pb mb (made + 1) (L ++ [o]) ∧ Fr [pb, mb] h h2 := by
  have f1 : Fr [pb, mb] h h1 := by rw [e1]; exact Fr.put (.inl (by simp))
  have f2 : Fr [pb, mb] h1 h2 := by rw [e2]; exact Fr.set (.inl (by simp))
  have f12 := f1.trans' f2
  obtain ⟨es', clk', m1, m2, m3, m4⟩ := F.map
  have hm1 : h1[mb]? = some (.map es' clk') := by rw [e1, get_putH_ne (fun e => F.ne (by simpa using e.symm))]; exact m1
  rw [hes] at hm1
  cases hm1
  have hk : ∀ e ∈ es.toList, ∃ a, e.key = .int .i64 a ∧ a ≤ made := fun e he => by
    have : (e.key, e.val) ∈ L.map LO.entry := by rw [← m2]; exact List.mem_map.2 ⟨e, he, rfl⟩
    obtain ⟨x, hx, hxe⟩ := List.mem_map.1 this
    simp only [LO.entry, Prod.mk.injEq] at hxe
    exact ⟨x.id, hxe.1.symm, (F.rng x hx).2⟩
  have hnone : mfind (made + 1) es.toList = none := mfind_of_ne fun e he => by
    obtain ⟨a, h1, h2⟩ := hk e he
    exact ⟨a, h1, by omega⟩
  have hput : mput es clk (.int .i64 (made + 1)) (made + 1) (.pointer (some ⟨o.bo, 0, none⟩)) = .map (es.push { key := .int .i64 (made + 1), val := .pointer (some ⟨o.bo, 0, none⟩), born := clk }) (clk + 1) := by
    unfold mput
    rw [hnone]
  have hlt : mb < h1.size := lt_of_get hes
  have hofr : ∀ b ∈ o.fp, b ∉ [pb, mb] := fun b hb hm => by
    have := hfp b hb
    simp at hm
    exact this (mem_fpM.2 (hm.elim .inl fun h => .inr (.inl h)))
  refine ⟨⟨?_, ⟨es.push { key := .int .i64 (made + 1), val := .pointer (some ⟨o.bo, 0, none⟩), born := clk }, clk + 1, ?_, ?_, ?_, ?_⟩, ?_, ?_, F.ne, ?_, ?_, by have := F.pos; omega⟩, f12⟩
  · rw [e2, Array.getElem?_setIfInBounds_ne (fun e => F.ne e.symm), e1]
    exact get_putH_eq F.mem
  · rw [e2, hput, Array.getElem?_setIfInBounds_self_of_lt hlt]
  · rw [Array.toList_push, List.map_append, List.map_append, m2]
    simp [LO.entry, hid]
  · intro e he
    rw [Array.toList_push, List.mem_append] at he
    rcases he with he | he
    · have := m3 e he; omega
    · simp at he; subst he; simp
  · rw [Array.toList_push, List.map_append, List.nodup_append]
    refine ⟨m4, by simp, fun a ha b hb => ?_⟩
    obtain ⟨e, he, rfl⟩ := List.mem_map.1 ha
    simp at hb
    subst hb
    have := m3 e he
    omega
  · intro x hx
    rw [List.mem_append] at hx
    rcases hx with hx | hx
    · exact (F.objs x hx).fr f12 fun b hb => by
        have := F.own x hx
        simp
        exact ⟨fun e => this.1 (e ▸ hb), fun e => this.2 (e ▸ hb)⟩
    · simp at hx; subst hx
      exact ok.fr f12 hofr
  · intro x hx
    rw [List.mem_append] at hx
    rcases hx with hx | hx
    · have := F.rng x hx; omega
    · simp at hx; subst hx
      have := F.pos; omega
  · intro x hx
    rw [List.mem_append] at hx
    rcases hx with hx | hx
    · exact F.own x hx
    · simp at hx; subst hx
      exact ⟨fun hb => hofr _ hb (by simp), fun hb => hofr _ hb (by simp)⟩
  · rw [List.pairwise_append]
    refine ⟨F.ord, by simp, fun a ha b hb => ?_⟩
    simp at hb
    subst hb
    refine ⟨by have := F.rng a ha; omega, fun x hx hx' => ?_⟩
    exact hfp x hx' (mem_fpM.2 (.inr (.inr ⟨a, ha, hx⟩)))

theorem blank_ok {cls kind size : Int} (h : newOK cls kind size = true) : (blankA cls kind size).OK := by
  simp only [newOK, Bool.and_eq_true, Bool.or_eq_true, beq_iff_eq, decide_eq_true_eq] at h
  obtain ⟨h0, hk, hs0, hs1⟩ := h
  refine ⟨h0, ?_⟩
  rcases hk with rfl | rfl
  · refine .inl ⟨rfl, rfl, by simp [blankA]; omega, fun x hx => ?_⟩
    simp [blankA] at hx
    rw [hx.2]; decide
  · refine .inr ⟨rfl, rfl, by simp [blankA]; omega, fun x hx => ?_⟩
    simp [blankA] at hx
    rw [hx.2]; decide

theorem flat_Memory_New {h : Heap} {pb mb : Nat} {made : Int} {L : List LO} {cls kind size : Int} {R : Value → Heap → Prop} (F : Flat h pb mb made L) (hm : made < 4611686018427387904)
    (K1 : newOK cls kind size = true → ∀ h' o, o.id = made + 1 → o.ao = blankA cls kind size → (∀ k ∈ o.fp, h.size ≤ k) → Flat h' pb mb (made + 1) (L ++ [o]) → Fr [pb, mb] h h' → R (.tuple #[.int .i64 (oopV (made + 1)), .int .i64 0]) h')
    (K0 : newOK cls kind size = false → ∀ h', Fr [] h h' → R (.tuple #[.int .i64 0, .int .i64 2]) h') :
    HC P F_flat_Memory_New #[.pointer (some ⟨pb, 0, none⟩), .int .i64 cls, .int .i64 kind, .int .i64 size] h R := by
  refine S_flat_Memory_New (flat_Blank (fun hok h1 sw sb W1 B1 f1 hn hd => ⟨_, _, sw, sb, _, rfl, ?_⟩) fun hok h1 f1 => ⟨_, _, nilSl, nilSl, _, rfl, ?_⟩)
  · refine box_new fun h2 g2 f2 s2 => box_w (sw := nilSl) (sb := nilSl) (sw' := sw) (sb' := sb) g2 rfl fun h3 g3 f3 => ?_
    have f13 : Fr [] h h3 := (f1.trans' f2).trans f3 fun k hk => .inr (by have := f1.size; simp at hk; omega)
    have F3 := F.grow f13
    have z1 := f1.size
    have hpos := F.pos
    have hmbne : mb ≠ pb := fun e => F.ne e.symm
    simp only [Option.isNone_some, cond_false, Bool.not_true, oE_some, add_add, cellH_of F3.mem]
    refine ⟨made, rfl, ⟨by omega, by omega⟩, StOK_of F3.mem (by simp), fun h4 e4 => ?_⟩
    have g4 : h4[pb]? = some (.cells #[.map (some mb), .int .i64 (made + 1)] T_flat_Memory (0, 0)) := by rw [e4]; exact get_putH_eq F3.mem
    simp only [cellH_of g4]
    obtain ⟨es, clk, m1, m2, m3, m4⟩ := F3.map
    have m1' : h4[mb]? = some (.map es clk) := by rw [e4, get_putH_ne hmbne]; exact m1
    refine ⟨some mb, rfl, made + 1, rfl, ?_⟩
    simp only [oE_some]
    refine ⟨es, clk, m1', intKeys_of m2, fun h5 e5 => ?_⟩
    have far : ∀ {s : Sl}, (∀ b ∈ s.blk, b < h1.size) → ∀ b ∈ s.blk, b ∉ [h1.size] := fun hs b hb => by have := hs b hb; simp; omega
    have ok3 : ObjOK h3 ⟨made + 1, h1.size, sw, sb, blankA cls kind size⟩ := by
      refine ⟨g3, (W1.fr f2 (by simp)).fr f3 (far W1.is.lt), (B1.fr f2 (by simp)).fr f3 (far B1.is.lt), blank_ok hok, ?_⟩
      simp only [LO.fp, List.nodup_cons]
      refine ⟨fun hk => ?_, hd⟩
      rw [List.mem_append] at hk
      rcases hk with hk | hk
      · have := W1.is.lt _ hk; omega
      · have := B1.is.lt _ hk; omega
    have hfpn : ∀ k ∈ LO.fp ⟨made + 1, h1.size, sw, sb, blankA cls kind size⟩, h.size ≤ k := fun k hk => by
      simp only [LO.fp, List.mem_cons] at hk
      rcases hk with rfl | hk
      · exact z1
      · exact hn k hk
    obtain ⟨F5, f35⟩ := F3.add ok3 rfl (fun k hk hm => by have := hfpn k hk; have := F.lt k hm; omega) e4 m1' e5
    have f5 : Fr [pb, mb] h h5 := (f13.mono (by simp)).trans' f35
    have g5 := F5.mem
    simp only [cellH_of g5]
    exact ⟨made + 1, rfl, word_Oop ⟨_, rfl, K1 hok h5 _ rfl rfl hfpn F5 f5⟩⟩
  · refine box_new fun h2 g2 f2 s2 => box_w (sw := nilSl) (sb := nilSl) (sw' := nilSl) (sb' := nilSl) g2 rfl fun h3 g3 f3 => ?_
    simp only [Option.isNone_some, cond_false, Bool.not_false, cond_true]
    exact K0 hok h3 ((f1.trans' f2).trans f3 fun k hk => .inr (by have := f1.size; simp at hk; omega))

theorem flat_Byte {h : Heap} {pb mb : Nat} {made : Int} {L : List LO} {r i : Int} {R : Value → Heap → Prop} (F : Flat h pb mb made L)
    (K1 : ∀ o h' z, lk L (namV r) = some o → o.ao.kind = 2 → 0 ≤ i → o.ao.b[i.toNat]? = some z → 0 ≤ z → z ≤ 255 → Fr [] h h' → R (.tuple #[.int .i64 z, .int .i64 0]) h')
    (K0 : ∀ h', placeE ((lk L (namV r)).map (·.ao)) 2 i ≠ 0 → Fr [] h h' → R (.tuple #[.int .i64 0, .int .i64 (placeE ((lk L (namV r)).map (·.ao)) 2 i)]) h') :
    HC P F_flat_Memory_Byte #[.pointer (some ⟨pb, 0, none⟩), .int .i64 r, .int .i64 i] h R := by
  refine S_flat_Memory_Byte (flat_place F (fun o h' hl hk h0 h1 hf => ⟨_, _, rfl, ?_⟩) fun h' hne hf => ⟨_, _, rfl, ?_⟩)
  · rw [AO.OK.size2 hk] at h1
    have F' := F.grow hf
    have ho := F'.objs o (lk_some hl).1
    have hlt : i.toNat < o.ao.b.length := by omega
    obtain ⟨p, hp⟩ := ho.b.is.addr hlt
    have hn := ho.b.is.len
    simp only [show ((0 : Int) != 0) = false from rfl, cond_false, oE_some, ptrOf, add_add, cellH_of ho.cell]
    refine ⟨o.sb, rfl, ?_⟩
    rw [hp]
    simp only [oE_some, Nat.mul_one]
    have hz := List.getElem?_eq_getElem hlt
    have hr : 0 ≤ o.ao.b[i.toNat] ∧ o.ao.b[i.toNat] ≤ 255 := by
      rcases ho.ok.kind with ⟨h2, _⟩ | ⟨_, _, _, h4⟩
      · rw [hk] at h2; cases h2
      · exact h4 _ (List.getElem_mem hlt)
    exact ⟨h0, by omega, _, ho.b.is.cell hp hz, ⟨by omega, by omega⟩, K1 o h' _ hl hk h0 hz hr.1 hr.2 hf⟩
  · have hb : (placeE ((lk L (namV r)).map (·.ao)) 2 i != 0) = true := by simpa using hne
    rw [hb]
    exact K0 h' hne hf
end Go.Hv.W

/- The memory without bounds: two that become one another; the next one. -/
namespace Go.Hv.W
open Go Go.Hv

/-- two of them have changed places -/
def sw2 (x y : LO) (o : LO) : LO := if o.id = x.id then { o with sw := y.sw, sb := y.sb, ao := y.ao } else if o.id = y.id then { o with sw := x.sw, sb := x.sb, ao := x.ao } else o

theorem sw2_id (x y o : LO) : (sw2 x y o).id = o.id := by unfold sw2; split <;> (try split) <;> rfl
theorem sw2_bo (x y o : LO) : (sw2 x y o).bo = o.bo := by unfold sw2; split <;> (try split) <;> rfl

theorem Flat.sw2_fp {h : Heap} {pb mb : Nat} {made : Int} {L : List LO} (F : Flat h pb mb made L) {x y o : LO} (hx : x ∈ L) (hy : y ∈ L) (ho : o ∈ L) {k : Nat} (hk : k ∈ (sw2 x y o).fp) :
    k = o.bo ∨ ∃ u ∈ L, k ∈ u.sw.blk ++ u.sb.blk ∧ u.id = if o.id = x.id then y.id else if o.id = y.id then x.id else o.id := by
  unfold sw2 at hk
  split at hk
  · rename_i e
    simp only [LO.fp, List.mem_cons] at hk
    rcases hk with hk | hk
    · exact .inl hk
    · exact .inr ⟨y, hy, hk, by rw [if_pos e]⟩
  · split at hk
    · rename_i e1 e
      simp only [LO.fp, List.mem_cons] at hk
      rcases hk with hk | hk
      · exact .inl hk
      · exact .inr ⟨x, hx, hk, by rw [if_neg e1, if_pos e]⟩
    · rename_i e1 e2
      simp only [LO.fp, List.mem_cons] at hk
      rcases hk with hk | hk
      · exact .inl hk
      · exact .inr ⟨o, ho, hk, by rw [if_neg e1, if_neg e2]⟩

theorem Flat.swap {h : Heap} {pb mb : Nat} {made : Int} {L : List LO} (F : Flat h pb mb made L) {x y : LO} (hx : x ∈ L) (hy : y ∈ L) {h1 h2 : Heap}
    (e1 : h1 = putsH h ⟨x.bo, 0, none⟩ [.int .i64 y.ao.cls, .int .i64 y.ao.kind, .slice y.sw.a y.sw.n y.sw.c, .slice y.sb.a y.sb.n y.sb.c] 0)
    (e2 : h2 = putsH h1 ⟨y.bo, 0, none⟩ [.int .i64 x.ao.cls, .int .i64 x.ao.kind, .slice x.sw.a x.sw.n x.sw.c, .slice x.sb.a x.sb.n x.sb.c] 0) :
    Flat h2 pb mb made (L.map (sw2 x y)) ∧ Fr [x.bo, y.bo] h h2 := by
  have f1 : Fr [x.bo, y.bo] h h1 := by rw [e1]; exact Fr.puts (.inl (by simp))
  have f2 : Fr [x.bo, y.bo] h1 h2 := by rw [e2]; exact Fr.puts (.inl (by simp))
  have f := f1.trans' f2
  have okx := F.objs x hx
  have oky := F.objs y hy
  have bo_fp : ∀ o : LO, o.bo ∈ o.fp := fun o => by simp [LO.fp]
  have sl_fp : ∀ (o : LO) k, k ∈ o.sw.blk ++ o.sb.blk → k ∈ o.fp := fun o k hk => by simp only [LO.fp, List.mem_cons]; exact .inr hk
  have sl_bo : ∀ o ∈ L, ∀ k ∈ o.sw.blk ++ o.sb.blk, k ≠ o.bo := fun o ho k hk e => by
    have := (F.objs o ho).nd
    simp only [LO.fp, List.nodup_cons] at this
    exact this.1 (e ▸ hk)
  -- a block of slices is no box
  have sl_box : ∀ o ∈ L, ∀ u ∈ L, ∀ k ∈ o.sw.blk ++ o.sb.blk, k ≠ u.bo := fun o ho u hu k hk e => by
    by_cases hid : o.id = u.id
    · have := F.uniq ho hu hid
      subst this
      exact sl_bo o ho k hk e
    · exact F.two ho hu hid k (sl_fp o k hk) (e ▸ bo_fp u)
  have hpbx : pb ∉ [x.bo, y.bo] := fun hm => by
    simp at hm
    rcases hm with e | e
    · exact (F.own x hx).1 (e ▸ bo_fp x)
    · exact (F.own y hy).1 (e ▸ bo_fp y)
  have hmbx : mb ∉ [x.bo, y.bo] := fun hm => by
    simp at hm
    rcases hm with e | e
    · exact (F.own x hx).2 (e ▸ bo_fp x)
    · exact (F.own y hy).2 (e ▸ bo_fp y)
  obtain ⟨es, clk, m1, m2, m3, m4⟩ := F.map
  have far : ∀ o ∈ L, ∀ k ∈ o.sw.blk ++ o.sb.blk, k ∉ [x.bo, y.bo] := fun o ho k hk hm => by
    simp at hm
    exact hm.elim (sl_box o ho x hx k hk) (sl_box o ho y hy k hk)
  refine ⟨⟨f.get F.mem hpbx, ⟨es, clk, f.get m1 hmbx, ?_, m3, m4⟩, ?_, ?_, F.ne, ?_, ?_, F.pos⟩, f⟩
  · rw [m2, List.map_map]
    apply List.map_congr_left
    intro o _
    simp only [Function.comp, LO.entry, sw2_id, sw2_bo]
  · intro o' ho'
    obtain ⟨o, ho, rfl⟩ := List.mem_map.1 ho'
    have oko := F.objs o ho
    have nd : ∀ u ∈ L, (o.bo :: (u.sw.blk ++ u.sb.blk)).Nodup := fun u hu => by
      rw [List.nodup_cons]
      refine ⟨fun hk => sl_box u hu o ho o.bo hk rfl, ?_⟩
      have := (F.objs u hu).nd
      simp only [LO.fp, List.nodup_cons] at this
      exact this.2
    unfold sw2
    split
    · rename_i e
      have := F.uniq ho hx e
      subst this
      refine ⟨?_, oky.w.fr f fun b hb => far y hy b (by simp [hb]), oky.b.fr f fun b hb => far y hy b (by simp [hb]), oky.ok, nd y hy⟩
      have g1 : h1[o.bo]? = some (.cells (objCells y.ao.cls y.ao.kind y.sw y.sb) T_api_Obj (0, 0)) := by rw [e1]; exact get_putsH_eq okx.cell
      by_cases hxy : o.bo = y.bo
      · have hid : o.id = y.id := by
          by_cases hid : o.id = y.id
          · exact hid
          · exact absurd (hxy ▸ bo_fp y) (F.two ho hy hid o.bo (bo_fp o))
        have := F.uniq ho hy hid
        subst this
        rw [e2]
        exact get_putsH_eq g1
      · rw [e2, get_putsH_ne (by exact hxy)]
        exact g1
    · split
      · rename_i e0 e
        have := F.uniq ho hy e
        subst this
        refine ⟨?_, okx.w.fr f fun b hb => far x hx b (by simp [hb]), okx.b.fr f fun b hb => far x hx b (by simp [hb]), okx.ok, nd x hx⟩
        have hne : o.bo ≠ x.bo := fun hb => F.two ho hx e0 o.bo (bo_fp o) (hb ▸ bo_fp x)
        have g1 : h1[o.bo]? = some (.cells (objCells o.ao.cls o.ao.kind o.sw o.sb) T_api_Obj (0, 0)) := by rw [e1, get_putsH_ne (by exact hne)]; exact oky.cell
        rw [e2]
        exact get_putsH_eq g1
      · rename_i e0 e3
        refine oko.fr f fun b hb hm => ?_
        simp at hm
        rcases hm with rfl | rfl
        · exact F.two ho hx e0 _ hb (bo_fp x)
        · exact F.two ho hy e3 _ hb (bo_fp y)
  · intro o' ho'
    obtain ⟨o, ho, rfl⟩ := List.mem_map.1 ho'
    rw [sw2_id]
    exact F.rng o ho
  · intro o' ho'
    obtain ⟨o, ho, rfl⟩ := List.mem_map.1 ho'
    refine ⟨fun hk => ?_, fun hk => ?_⟩
    · rcases F.sw2_fp hx hy ho hk with e | ⟨u, hu, hk, _⟩
      · exact (F.own o ho).1 (e ▸ bo_fp o)
      · exact (F.own u hu).1 (sl_fp u _ hk)
    · rcases F.sw2_fp hx hy ho hk with e | ⟨u, hu, hk, _⟩
      · exact (F.own o ho).2 (e ▸ bo_fp o)
      · exact (F.own u hu).2 (sl_fp u _ hk)
  · rw [List.pairwise_map]
    refine F.ord.imp_of_mem fun {a b} ha hb hab => ?_
    rw [sw2_id, sw2_id]
    refine ⟨hab.1, fun k hka hkb => ?_⟩
    have hne : a.id ≠ b.id := by have := hab.1; omega
    rcases F.sw2_fp hx hy ha hka with e | ⟨u, hu, hku, iu⟩
    · rcases F.sw2_fp hx hy hb hkb with e' | ⟨v, hv, hkv, iv⟩
      · exact F.two ha hb hne k (e ▸ bo_fp a) (e' ▸ bo_fp b)
      · exact sl_box v hv a ha k hkv e
    · rcases F.sw2_fp hx hy hb hkb with e' | ⟨v, hv, hkv, iv⟩
      · exact sl_box u hu b hb k hku e'
      · have huv : u.id ≠ v.id := by
          rw [iu, iv]
          split <;> split <;> (try split) <;> (try split) <;> omega
        exact F.two hu hv huv k (sl_fp u k hku) (sl_fp v k hkv)

theorem flat_Become {h : Heap} {pb mb : Nat} {made : Int} {L : List LO} {a b : Int} {R : Value → Heap → Prop} (F : Flat h pb mb made L)
    (K1 : ∀ x y h', lk L (namV a) = some x → lk L (namV b) = some y → Flat h' pb mb made (L.map (sw2 x y)) → Fr [x.bo, y.bo] h h' → R (.int .i64 0) h')
    (K0 : (lk L (namV a) = none ∨ lk L (namV b) = none) → R (.int .i64 4) h) :
    HC P F_flat_Memory_Become #[.pointer (some ⟨pb, 0, none⟩), .int .i64 a, .int .i64 b] h R := by
  refine S_flat_Memory_Become (flat_at F (fun x hx => ⟨_, _, rfl, ?_⟩) fun hn => ⟨_, _, rfl, K0 (.inl hn)⟩)
  refine flat_at F (fun y hy => ⟨_, _, rfl, ?_⟩) fun hn => ⟨_, _, rfl, K0 (.inr hn)⟩
  have okx := F.objs x (lk_some hx).1
  have oky := F.objs y (lk_some hy).1
  simp only [show ((0 : Int) != 0) = false from rfl, cond_false, oE_some, ptrOf]
  refine box4 oky.cell (box4 okx.cell ?_)
  refine ⟨StOK_of okx.cell (by simp [objCells]), fun h1 e1 => ?_⟩
  have g1 : ∃ cs, h1[y.bo]? = some (.cells cs T_api_Obj (0, 0)) ∧ cs.size = 4 := by
    by_cases e : y.bo = x.bo
    · rw [e1, e]
      exact ⟨_, get_putsH_eq okx.cell, by rw [size_setsA]; simp [objCells]⟩
    · rw [e1, get_putsH_ne (by exact e)]
      exact ⟨_, oky.cell, by simp [objCells]⟩
  obtain ⟨cs, g1, g2⟩ := g1
  refine ⟨StOK_of g1 (by omega), fun h2 e2 => ?_⟩
  obtain ⟨F2, f2⟩ := F.swap (lk_some hx).1 (lk_some hy).1 e1 e2
  exact K1 x y h2 hx hy F2 f2

/-! ### The next one -/
def nxt (L : List LO) (id : Int) : Int := match L.find? fun o => decide (id < o.id) with | some o => o.id | none => 0

theorem nxt_spec {h : Heap} {pb mb : Nat} {made : Int} {L : List LO} (F : Flat h pb mb made L) {id z : Int} (h0 : z = 0 ∨ ∃ o ∈ L, o.id = z ∧ id < z) (h1 : ∀ o ∈ L, id < o.id → z ≠ 0 ∧ z ≤ o.id) : z = nxt L id := by
  unfold nxt
  cases hf : L.find? fun o => decide (id < o.id) with
  | none =>
    rw [List.find?_eq_none] at hf
    rcases h0 with h0 | ⟨o, ho, h2, h3⟩
    · exact h0
    · have := hf o ho; simp at this; omega
  | some o =>
    have hm := List.mem_of_find?_eq_some hf
    have hlt : id < o.id := by simpa using List.find?_some hf
    obtain ⟨a1, a2⟩ := h1 o hm hlt
    rcases h0 with h0 | ⟨x, hx, h2, h3⟩
    · exact absurd h0 a1
    · obtain ⟨_, l, r, hl, hall⟩ := List.find?_eq_some_iff_append.1 hf
      have hord := F.ord
      rw [hl] at hx hord
      rcases List.mem_append.1 hx with hx | hx
      · have := hall x hx; simp at this; omega
      · rcases List.mem_cons.1 hx with rfl | hx
        · exact h2.symm
        · have := (List.pairwise_cons.1 (List.pairwise_append.1 hord).2.1).1 x hx
          have := this.1
          simp only; omega

/-- the state of a range over the map -/
structure NxI (h0 : Heap) (r pb mb : Nat) (L : List LO) (es : Array MapEntry) (clk : Nat) (id z : Int) (h' : Heap) : Prop where
  it : ∃ seen, h'[r]? = some (.mapIter (some mb) clk seen clk) ∧ (∀ e ∈ es.toList, e.born ∈ seen.toList → ∀ a, e.key = .int .i64 a → id < a → z ≠ 0 ∧ z ≤ a)
  z : z = 0 ∨ ∃ o ∈ L, o.id = z ∧ id < z
  fr : Fr [] h0 h'

def unseen (es : Array MapEntry) (r : Nat) (h' : Heap) : Nat := match h'[r]? with | some (.mapIter _ _ seen _) => (es.toList.filter fun e => !(seen.toList.contains e.born)).length | _ => 0

theorem unseen_lt {es : Array MapEntry} {r : Nat} {h h' : Heap} {m : Option Nat} {a b : Nat} {seen : Array Nat} {e : MapEntry} (hr : h[r]? = some (.mapIter m a seen b)) (he : e ∈ es.toList) (hs : e.born ∉ seen.toList)
    {m' : Option Nat} {a' b' : Nat} (hr' : h'[r]? = some (.mapIter m' a' (seen.push e.born) b')) : unseen es r h' < unseen es r h := by
  unfold unseen
  rw [hr, hr']
  simp only
  have sub : ∀ l : List MapEntry, (l.filter fun x => !((seen.push e.born).toList.contains x.born)).length ≤ (l.filter fun x => !(seen.toList.contains x.born)).length := by
    intro l
    induction l with
    | nil => simp
    | cons x l ih =>
      simp only [List.filter_cons]
      by_cases h1 : x.born ∈ seen.toList
      · have h2 : x.born ∈ (seen.push e.born).toList := by simp at h1 ⊢; exact .inl h1
        simp only [List.contains_iff_mem.2 h1, List.contains_iff_mem.2 h2, Bool.not_true]
        exact ih
      · by_cases h2 : x.born ∈ (seen.push e.born).toList
        · rw [List.contains_iff_mem.2 h2]
          have : (seen.toList.contains x.born) = false := by simpa using h1
          rw [this]
          simp only [Bool.not_true, Bool.false_eq_true, if_false, Bool.not_false, if_true, List.length_cons]
          omega
        · have a1 : (seen.toList.contains x.born) = false := by simpa using h1
          have a2 : ((seen.push e.born).toList.contains x.born) = false := by simpa using h2
          rw [a1, a2]
          simp only [Bool.not_false, if_true, List.length_cons]
          omega
  obtain ⟨l1, l2, hl⟩ := List.append_of_mem he
  rw [hl, List.filter_append, List.filter_append, List.length_append, List.length_append, List.filter_cons, List.filter_cons]
  have h1 := sub l1
  have h2 := sub l2
  have a1 : (seen.toList.contains e.born) = false := by simpa using hs
  have a2 : ((seen.push e.born).toList.contains e.born) = true := by simp
  rw [a1, a2]
  simp only [Bool.not_true, Bool.false_eq_true, if_false, Bool.not_false, if_true, List.length_cons]
  omega

theorem flat_Next {h : Heap} {pb mb : Nat} {made : Int} {L : List LO} {r : Int} {R : Value → Heap → Prop} (F : Flat h pb mb made L)
    (K : ∀ h', Fr [] h h' → R (.tuple #[.int .i64 (oopV (nxt L (namV r))), .bool (decide (0 < nxt L (namV r)))]) h') :
    HC P F_flat_Memory_Next #[.pointer (some ⟨pb, 0, none⟩), .int .i64 r] h R := by
  refine S_flat_Memory_Next ?_
  simp only [Option.isNone_some, cond_false]
  obtain ⟨es, clk, m1, m2, m3, m4⟩ := F.map
  refine word_Named ⟨_, _, rfl, ?_⟩
  simp only [oE_some, add_add, cellH_of F.mem]
  refine ⟨some mb, rfl, ?_⟩
  simp only [oE_some]
  have hmb := lt_of_get m1
  have hkey : ∀ e ∈ es.toList, ∃ o ∈ L, e.key = .int .i64 o.id := fun e he => by
    have : (e.key, e.val) ∈ L.map LO.entry := by rw [← m2]; exact List.mem_map.2 ⟨e, he, rfl⟩
    obtain ⟨o, ho, hoe⟩ := List.mem_map.1 this
    simp only [LO.entry, Prod.mk.injEq] at hoe
    exact ⟨o, ho, hoe.1.symm⟩
  have hobj : ∀ o ∈ L, ∃ e ∈ es.toList, e.key = .int .i64 o.id := fun o ho => by
    have : LO.entry o ∈ es.toList.map (fun e => (e.key, e.val)) := by rw [m2]; exact List.mem_map.2 ⟨o, ho, rfl⟩
    obtain ⟨e, he, hoe⟩ := List.mem_map.1 this
    simp only [LO.entry, Prod.mk.injEq] at hoe
    exact ⟨e, he, hoe.1⟩
  refine ⟨es, clk, m1, box_new fun h2 g2 f2 s2 => ⟨fun z h' => NxI h h.size pb mb L es clk (namV r) z h', fun z h' => unseen es h.size h', ⟨⟨#[], g2, fun e _ hs => by simp at hs⟩, .inl rfl, f2⟩, fun z h3 I => ?_⟩⟩
  obtain ⟨seen, i1, i2⟩ := I.it
  have m1' := I.fr.get m1 (by simp)
  refine ⟨trivial, ⟨mb, clk, seen, clk, es, clk, i1, m1', fun e he => ⟨m3 e he, m3 e he⟩, by omega⟩, fun k v h4 hn => ?_, fun hend => ?_⟩
  · obtain ⟨m, since, seen', last, es', clk', e, n1, n2, n3, n4, rfl, rfl, n7⟩ := hn.ok
    rw [i1] at n1
    simp only [Option.some.injEq, Obj.mapIter.injEq] at n1
    obtain ⟨rfl, rfl, rfl, rfl⟩ := n1
    rw [m1'] at n2
    simp only [Option.some.injEq, Obj.map.injEq] at n2
    obtain ⟨rfl, rfl⟩ := n2
    have hlt3 : h.size < h3.size := lt_of_get i1
    have g4 : h4[h.size]? = some (.mapIter (some mb) clk (seen.push e.born) clk) := by rw [n7, Array.getElem?_setIfInBounds_self_of_lt hlt3]
    have m4' : h4[mb]? = some (.map es clk) := by rw [n7, Array.getElem?_setIfInBounds_ne (by omega)]; exact m1'
    have f4 : Fr [] h h4 := I.fr.trans (G := [h.size]) (by rw [n7]; exact Fr.set (.inl (by simp))) fun k hk => .inr (by simp at hk; omega)
    obtain ⟨o, ho, hoe⟩ := hkey e n3
    have hfind : es.find? (fun x => x.born == e.born) = some e := by
      rw [← Array.find?_toList]
      cases hf : es.toList.find? (fun x => x.born == e.born) with
      | none => exact absurd (List.find?_eq_none.1 hf e n3) (by simp)
      | some x =>
        have hx := List.mem_of_find?_eq_some hf
        have hxb : x.born = e.born := by simpa using List.find?_some hf
        have : x = e := by
          obtain ⟨i, hi, rfl⟩ := List.getElem_of_mem hx
          obtain ⟨j, hj, rfl⟩ := List.getElem_of_mem n3
          have hij : i = j := by
            have h1 : (es.toList.map (·.born))[i]'(by simpa using hi) = (es.toList.map (·.born))[j]'(by simpa using hj) := by simpa using hxb
            exact (List.getElem_inj m4).1 h1
          subst hij
          rfl
        rw [this]
    refine ⟨trivial, e.key, e.val, ⟨mb, clk, seen.push e.born, clk, es, e, g4, m4', by simp, hfind, rfl, rfl⟩, ?_⟩
    rw [hoe]
    simp only [asI, if_true]
    have hmeas := unseen_lt i1 n3 n4 g4
    have hborn : ∀ x ∈ es.toList, x.born ∈ (seen.push e.born).toList → ∀ a, x.key = .int .i64 a → (x.born ∈ seen.toList ∨ a = o.id) := by
      intro x hx hs a ha
      simp only [Array.toList_push, List.mem_append, List.mem_singleton] at hs
      rcases hs with hs | hs
      · exact .inl hs
      · refine .inr ?_
        have : es.toList.find? (fun y => y.born == e.born) = some e := by rw [Array.find?_toList]; exact hfind
        have hxe : x = e := by
          obtain ⟨i, hi, rfl⟩ := List.getElem_of_mem hx
          obtain ⟨j, hj, rfl⟩ := List.getElem_of_mem n3
          have hij : i = j := by
            have h1 : (es.toList.map (·.born))[i]'(by simpa using hi) = (es.toList.map (·.born))[j]'(by simpa using hj) := by simpa using hs
            exact (List.getElem_inj m4).1 h1
          subst hij
          rfl
        subst hxe
        rw [hoe] at ha
        simpa using ha.symm
    have stay : (namV r < o.id → z ≠ 0 ∧ z ≤ o.id) → NxI h h.size pb mb L es clk (namV r) z h4 := fun hz => ⟨⟨_, g4, fun x hx hs a ha hlt => by
      rcases hborn x hx hs a ha with hb | rfl
      · exact i2 x hx hb a ha hlt
      · exact hz hlt⟩, I.z, f4⟩
    have turn : namV r < o.id → (z = 0 ∨ o.id < z) → NxI h h.size pb mb L es clk (namV r) o.id h4 := fun hlt hz => ⟨⟨_, g4, fun x hx hs a ha hlt' => by
      have hpos := (F.rng o ho).1
      rcases hborn x hx hs a ha with hb | rfl
      · have := i2 x hx hb a ha hlt'; omega
      · omega⟩, .inr ⟨o, ho, rfl, hlt⟩, f4⟩
    refine condI (fun e1 => ?_) fun e1 => ?_
    · have e1 := of_decide_eq_true e1
      refine condI (fun e2 => ?_) fun e2 => ?_
      · have e2 : z = 0 := by simpa using e2
        exact ⟨turn e1 (.inl e2), hmeas⟩
      · have e2 : z ≠ 0 := by simpa using e2
        refine condI (fun e3 => ?_) fun e3 => ?_
        · exact ⟨turn e1 (.inr (of_decide_eq_true e3)), hmeas⟩
        · have e3 : ¬ o.id < z := by simpa using e3
          exact ⟨stay fun _ => ⟨e2, by omega⟩, hmeas⟩
    · have e1 : ¬ namV r < o.id := by simpa using e1
      exact ⟨stay fun h => absurd h e1, hmeas⟩
  · obtain ⟨m, since, seen', last, es', clk', n1, n2, n3⟩ := hend.ok
    rw [i1] at n1
    simp only [Option.some.injEq, Obj.mapIter.injEq] at n1
    obtain ⟨rfl, rfl, rfl, rfl⟩ := n1
    rw [m1'] at n2
    simp only [Option.some.injEq, Obj.map.injEq] at n2
    obtain ⟨rfl, rfl⟩ := n2
    have hz : z = nxt L (namV r) := nxt_spec F I.z fun o ho hlt => by
      obtain ⟨e, he, hoe⟩ := hobj o ho
      exact i2 e he (n3 e he) o.id hoe hlt
    subst hz
    exact word_Oop ⟨_, rfl, K h3 I.fr⟩
end Go.Hv.W

/- The memory without bounds keeps the contract. -/
namespace Go.Hv.W
open Go Go.Hv

theorem HI_of {v : Value} {f : FuncId} {n : String} {args bs : Array Value} {h : Heap} {R : Value → Heap → Prop} (H : HC P f bs h R) (e : ∀ w : World, (callMethod v n args).run P w = (callFunc f bs).run P w) : HI P v n args h R :=
  ⟨⟨f, bs, fun w _ => e w, H⟩⟩

theorem hn_flat (pb : Nat) (n : String) (hn : n ∈ ["New", "Obj", "Fetch", "Set", "Byte", "SetByte", "Become", "Next", "Made"]) : HN P (.func (.method n) #[flatV pb] #[]) := by
  refine ⟨fun w o ρ x ho hx => ?_⟩
  obtain ⟨dst, op, ty, pos, after, guard⟩ := o
  simp only at ho
  subst ho
  simp only [execOp, hx]
  simp only [List.mem_cons, List.not_mem_nil, or_false] at hn
  rcases hn with rfl | rfl | rfl | rfl | rfl | rfl | rfl | rfl | rfl <;> kernel_rfl

theorem place_fetch {s : St} {L : List LO} (h : s.objs = L.map fun o => (o.id, o.ao)) (o i : Int) : fetchE s o i = placeE ((lk L (namV o)).map (·.ao)) 1 i := by
  unfold fetchE placeE
  rw [get_lk h]
  try rfl
theorem place_byte {s : St} {L : List LO} (h : s.objs = L.map fun o => (o.id, o.ao)) (o i : Int) : byteE s o i = placeE ((lk L (namV o)).map (·.ao)) 2 i := by
  unfold byteE placeE
  rw [get_lk h]
  try rfl

theorem FRep.ok {pb : Nat} {h : Heap} {F : List Nat} {s : St} (H : FRep pb h F s) : s.OK := by
  obtain ⟨mb, L, fl, rfl, hs⟩ := H
  refine ⟨?_, ?_, ?_, fl.pos⟩
  · rw [hs]
    intro p hp
    obtain ⟨o, ho, rfl⟩ := List.mem_map.1 hp
    exact (fl.objs o ho).ok
  · rw [hs]
    intro p hp
    obtain ⟨o, ho, rfl⟩ := List.mem_map.1 hp
    exact fl.rng o ho
  · rw [hs, List.pairwise_map]
    exact fl.ord.imp fun h => h.1

theorem FRep.grow {pb : Nat} {h h' : Heap} {F : List Nat} {s : St} (H : FRep pb h F s) (x : Fr [] h h') : FRep pb h' F s ∧ Mv F h F h' := by
  obtain ⟨mb, L, fl, hF, hs⟩ := H
  exact ⟨⟨mb, L, fl.grow x, hF, hs⟩, Mv.grow x⟩

theorem mem_upd' {L : List LO} {o o' x : LO} (hx : x ∈ upd L o.id fun _ => o') : x = o' ∨ x ∈ L := by
  unfold upd at hx
  obtain ⟨y, hy, rfl⟩ := List.mem_map.1 hx
  split
  · exact .inl rfl
  · exact .inr hy

theorem flatSto (pb : Nat) : Sto (flatV pb) (FRep pb) (fun _ => False) where
  iface := ⟨_, _, rfl⟩
  hn := hn_flat pb
  lt := fun H => by
    obtain ⟨mb, L, fl, rfl, hs⟩ := H
    exact fl.lt
  fr := fun H x hF => by
    obtain ⟨mb, L, fl, rfl, hs⟩ := H
    exact ⟨mb, L, fl.fr x hF, rfl, hs⟩
  inv := FRep.ok
  new := fun {h F s cls kind size R} H hm K1 K0 _ => by
    have H0 := H
    obtain ⟨mb, L, fl, rfl, hs⟩ := H
    refine HI_of (flat_Memory_New fl hm (fun hok h' o hid hao hfp fl' hf => K1 hok h' (fpM pb mb (L ++ [o])) ⟨mb, L ++ [o], fl', rfl, ?_⟩ ⟨hf.mono ?_, ?_⟩) fun hok h' hf => K0 hok h' _ (H0.grow hf).1 (H0.grow hf).2) fun w => by kernel_rfl
    · simp [St.add, hs, hid, hao]
    · intro k hk
      simp at hk
      exact .inl (mem_fpM.2 (hk.elim .inl fun h => .inr (.inl h)))
    · intro k hk
      rcases mem_fpM.1 hk with hk2 | hk2 | ⟨x, hx, hk2⟩
      · exact .inl (mem_fpM.2 (.inl hk2))
      · exact .inl (mem_fpM.2 (.inr (.inl hk2)))
      · rw [List.mem_append] at hx
        rcases hx with hx | hx
        · exact .inl (mem_fpM.2 (.inr (.inr ⟨x, hx, hk2⟩)))
        · simp at hx; subst hx
          exact .inr (hfp k hk2)
  obj := fun {h F s o R} H K1 K0 => by
    have H0 := H
    obtain ⟨mb, L, fl, rfl, hs⟩ := H
    have hg := get_lk hs (namV o)
    refine HI_of (flat_Obj fl (fun x h' sw sb hl hf hw hb hn hcap => K1 x.ao (by rw [hg, hl]; rfl) h' _ sw sb (H0.grow hf).1 (H0.grow hf).2 hw hb (fun k hk => ⟨hn k hk, fun hm => ?_⟩) hcap) fun h' hl hf => K0 (by rw [hg, hl]; rfl) h' _ (H0.grow hf).1 (H0.grow hf).2) fun w => by kernel_rfl
    have := hn k hk
    have := fl.lt k hm
    omega
  fetch := fun {h F s o i R} H K _ => by
    have H0 := H
    obtain ⟨mb, L, fl, rfl, hs⟩ := H
    have hg := get_lk hs (namV o)
    have hp := place_fetch hs o i
    refine HI_of (flat_Fetch (r := o) (i := i) fl (fun x h' z hl hk h0 hz hf => ?_) fun h' hne hf => ?_) fun w => by kernel_rfl
    · have hlt : i.toNat < x.ao.w.length := (List.getElem?_eq_some_iff.1 hz).1
      have e0 : fetchE s o i = 0 := by
        rw [hp, hl]
        simp only [Option.map_some, placeE, hk, AO.OK.size1 hk]
        rw [if_neg (by simp), if_neg (by omega)]
      have ev : fetchV s o i = z := by
        unfold fetchV
        rw [hg, hl]
        simp only [Option.map_some, e0, if_true, hz, Option.getD_some]
      have := K h' _ (H0.grow hf).1 (H0.grow hf).2
      rw [e0, ev] at this
      exact this
    · have ev : fetchV s o i = 0 := by
        unfold fetchV
        rw [hp]
        split
        · rfl
        · rw [if_neg hne]
      have := K h' _ (H0.grow hf).1 (H0.grow hf).2
      rw [hp, ev] at this
      exact this
  set := fun {h F s o i x R} H K _ => by
    have H0 := H
    obtain ⟨mb, L, fl, rfl, hs⟩ := H
    have hg := get_lk hs (namV o)
    have hp := place_fetch hs o i
    have e0 : ∀ u, lk L (namV o) = some u → u.ao.kind = 1 → 0 ≤ i → i < (u.ao.w.length : Int) → fetchE s o i = 0 := fun u hl hk h0 h1 => by
      rw [hp, hl]
      simp only [Option.map_some, placeE, hk, AO.OK.size1 hk]
      rw [if_neg (by simp), if_neg (by omega)]
    refine HI_of (flat_Set (r := o) (i := i) (v := x) fl (fun u h' hl hk h0 h1 hv fl' hf => ?_) (fun u h' hl hk h0 h1 hv hf => ?_) fun h' hne hf => ?_) fun w => by kernel_rfl
    · have ee : setE' s o i x = 0 := by simp [setE', e0 u hl hk h0 h1, hv]
      have es : setS s o i x = s.set (namV o) { u.ao with w := u.ao.w.set i.toNat x } := by
        unfold setS
        rw [hg, hl]
        simp only [Option.map_some, ee, if_true]
      obtain ⟨hu, hid⟩ := lk_some hl
      have hfp : fpM pb mb (upd L u.id fun _ => { u with ao := { u.ao with w := u.ao.w.set i.toNat x } }) = fpM pb mb L := fpM_upd fun y hy hyi => by
        have := fl.uniq hy hu hyi
        subst this
        rfl
      have := K h' _ ⟨mb, _, by rw [es]; exact fl', rfl, by rw [es, ← hid]; exact set_upd (o := u) (o' := { u with ao := { u.ao with w := u.ao.w.set i.toNat x } }) hs rfl⟩ ⟨hf.mono fun k hk => .inl (mem_fpM.2 (.inr (.inr ⟨u, hu, by simp [LO.fp, hk]⟩))), fun k hk => .inl (by rw [hfp] at hk; exact hk)⟩
      rw [ee] at this
      exact this
    · have ee : setE' s o i x = 2 := by simp [setE', e0 u hl hk h0 h1, hv]
      have es : setS s o i x = s := by
        unfold setS
        rw [hg, hl]
        simp [ee]
      have := K h' _ (by rw [es]; exact (H0.grow hf).1) (H0.grow hf).2
      rw [ee] at this
      exact this
    · rw [← hp] at hne
      have ee : setE' s o i x = fetchE s o i := by simp [setE', hne]
      have es : setS s o i x = s := by
        unfold setS
        rw [ee]
        split
        · rfl
        · rw [if_neg hne]
      have := K h' _ (by rw [es]; exact (H0.grow hf).1) (H0.grow hf).2
      rw [ee] at this
      rw [hp] at this
      exact this
  byte := fun {h F s o i R} H K _ => by
    have H0 := H
    obtain ⟨mb, L, fl, rfl, hs⟩ := H
    have hg := get_lk hs (namV o)
    have hp := place_byte hs o i
    refine HI_of (flat_Byte (r := o) (i := i) fl (fun x h' z hl hk h0 hz _ _ hf => ?_) fun h' hne hf => ?_) fun w => by kernel_rfl
    · have hlt : i.toNat < x.ao.b.length := (List.getElem?_eq_some_iff.1 hz).1
      have e0 : byteE s o i = 0 := by
        rw [hp, hl]
        simp only [Option.map_some, placeE, hk, AO.OK.size2 hk]
        rw [if_neg (by simp), if_neg (by omega)]
      have ev : byteV s o i = z := by
        unfold byteV
        rw [hg, hl]
        simp only [Option.map_some, e0, if_true, hz, Option.getD_some]
      have := K h' _ (H0.grow hf).1 (H0.grow hf).2
      rw [e0, ev] at this
      exact this
    · have ev : byteV s o i = 0 := by
        unfold byteV
        rw [hp]
        split
        · rfl
        · rw [if_neg hne]
      have := K h' _ (H0.grow hf).1 (H0.grow hf).2
      rw [hp, ev] at this
      exact this
  setByte := fun {h F s o i x R} H K _ => by
    have H0 := H
    obtain ⟨mb, L, fl, rfl, hs⟩ := H
    have hg := get_lk hs (namV o)
    have hp := place_byte hs o i
    have e0 : ∀ u, lk L (namV o) = some u → u.ao.kind = 2 → 0 ≤ i → i < (u.ao.b.length : Int) → byteE s o i = 0 := fun u hl hk h0 h1 => by
      rw [hp, hl]
      simp only [Option.map_some, placeE, hk, AO.OK.size2 hk]
      rw [if_neg (by simp), if_neg (by omega)]
    refine HI_of (flat_SetByte (r := o) (i := i) (v := x) fl (fun u h' hl hk h0 h1 hv0 hv1 fl' hf => ?_) (fun u h' hl hk h0 h1 hv hf => ?_) fun h' hne hf => ?_) fun w => by kernel_rfl
    · have ee : setByteE s o i x = 0 := by simp [setByteE, e0 u hl hk h0 h1]; omega
      have es : setByteS s o i x = s.set (namV o) { u.ao with b := u.ao.b.set i.toNat x } := by
        unfold setByteS
        rw [hg, hl]
        simp only [Option.map_some, ee, if_true]
      obtain ⟨hu, hid⟩ := lk_some hl
      have hfp : fpM pb mb (upd L u.id fun _ => { u with ao := { u.ao with b := u.ao.b.set i.toNat x } }) = fpM pb mb L := fpM_upd fun y hy hyi => by
        have := fl.uniq hy hu hyi
        subst this
        rfl
      have := K h' _ ⟨mb, _, by rw [es]; exact fl', rfl, by rw [es, ← hid]; exact set_upd (o := u) (o' := { u with ao := { u.ao with b := u.ao.b.set i.toNat x } }) hs rfl⟩ ⟨hf.mono fun k hk => .inl (mem_fpM.2 (.inr (.inr ⟨u, hu, by simp [LO.fp, hk]⟩))), fun k hk => .inl (by rw [hfp] at hk; exact hk)⟩
      rw [ee] at this
      exact this
    · have ee : setByteE s o i x = 2 := by simp [setByteE, e0 u hl hk h0 h1]; omega
      have es : setByteS s o i x = s := by
        unfold setByteS
        rw [hg, hl]
        simp [ee]
      have := K h' _ (by rw [es]; exact (H0.grow hf).1) (H0.grow hf).2
      rw [ee] at this
      exact this
    · rw [← hp] at hne
      have ee : setByteE s o i x = byteE s o i := by simp [setByteE, hne]
      have es : setByteS s o i x = s := by
        unfold setByteS
        rw [ee]
        split
        · rfl
        · rw [if_neg hne]
      have := K h' _ (by rw [es]; exact (H0.grow hf).1) (H0.grow hf).2
      rw [ee] at this
      rw [hp] at this
      exact this
  become := fun {h F s a b R} H K _ => by
    have H0 := H
    obtain ⟨mb, L, fl, rfl, hs⟩ := H
    have ga := get_lk hs (namV a)
    have gb := get_lk hs (namV b)
    refine HI_of (flat_Become (a := a) (b := b) fl (fun x y h' hx hy fl' hf => ?_) fun hn => ?_) fun w => by kernel_rfl
    · obtain ⟨mx, ix⟩ := lk_some hx
      obtain ⟨my, iy⟩ := lk_some hy
      have ee : becomeE s a b = 0 := by simp [becomeE, ga, gb, hx, hy]
      have es : becomeS s a b = (s.set (namV a) y.ao).set (namV b) x.ao := by simp [becomeS, ga, gb, hx, hy]
      have := K h' (fpM pb mb (L.map (sw2 x y))) ⟨mb, _, by rw [es]; exact fl', rfl, ?_⟩ ⟨hf.mono fun k hk => ?_, fun k hk => .inl ?_⟩
      · rw [ee] at this
        exact this
      · rw [es]
        simp only [St.set, hs, List.map_map]
        apply List.map_congr_left
        intro o ho
        simp only [Function.comp, ← ix, ← iy]
        unfold sw2
        by_cases e1 : o.id = x.id
        · have := fl.uniq ho mx e1
          subst this
          by_cases e2 : o.id = y.id
          · have := fl.uniq ho my e2
            subst this
            simp
          · simp [e2]
        · by_cases e2 : o.id = y.id
          · have e3 : ¬ y.id = x.id := fun e => e1 (e2.trans e)
            simp [e2, e3]
          · simp [e1, e2]
      · simp at hk
        rcases hk with rfl | rfl
        · exact .inl (mem_fpM.2 (.inr (.inr ⟨x, mx, by simp [LO.fp]⟩)))
        · exact .inl (mem_fpM.2 (.inr (.inr ⟨y, my, by simp [LO.fp]⟩)))
      · rcases mem_fpM.1 hk with hk | hk | ⟨u, hu, hk⟩
        · exact mem_fpM.2 (.inl hk)
        · exact mem_fpM.2 (.inr (.inl hk))
        · obtain ⟨o, ho, rfl⟩ := List.mem_map.1 hu
          rcases fl.sw2_fp mx my ho hk with e | ⟨u, hu, hk, _⟩
          · exact mem_fpM.2 (.inr (.inr ⟨o, ho, by simp [LO.fp, e]⟩))
          · exact mem_fpM.2 (.inr (.inr ⟨u, hu, by simp only [LO.fp, List.mem_cons]; exact .inr hk⟩))
    · have ee : becomeE s a b = 4 := by
        unfold becomeE
        rw [ga, gb]
        rcases hn with hn | hn
        · simp [hn]
        · simp [hn]
      have es : becomeS s a b = s := by
        unfold becomeS
        rw [ga, gb]
        rcases hn with hn | hn
        · simp [hn]
        · rw [hn]
          cases (lk L (namV a)).map (·.ao) <;> rfl
      have := K h _ (by rw [es]; exact H0) (Mv.refl _ _)
      rw [ee] at this
      exact this
  next := fun {h F s o R} H K => by
    have H0 := H
    obtain ⟨mb, L, fl, rfl, hs⟩ := H
    refine HI_of (flat_Next (r := o) fl fun h' hf => ?_) fun w => by kernel_rfl
    have en : nxt L (namV o) = s.nextId (namV o) := by
      unfold nxt St.nextId
      rw [hs, List.find?_map]
      rw [show ((fun p : Int × AO => decide (namV o < p.1)) ∘ fun x : LO => (x.id, x.ao)) = fun x => decide (namV o < x.id) from rfl]
      cases L.find? fun x => decide (namV o < x.id) <;> rfl
    rw [en]
    exact K h' _ (H0.grow hf).1 (H0.grow hf).2
  made := fun {h F s R} H K => by
    have H0 := H
    obtain ⟨mb, L, fl, rfl, hs⟩ := H
    exact HI_of (flat_Made fl (K h _ H0 (Mv.refl _ _))) fun w => by kernel_rfl
end Go.Hv.W

/- Searches in slices; small numbers; shapes of classes; new instances: over any memory. -/
namespace Go.Hv.W
open Go Go.Hv

theorem word_Small {n : Int} {h : Heap} {R : Value → Heap → Prop} (K : R (.tuple #[.int .i64 (smallV n), .int .i64 (smallE n)]) h) : HC P F_word_Small #[.int .i64 n] h R := by
  refine S_word_Small (condI (fun e => ?_) fun e => condI (fun e2 => ?_) fun e2 => ?_)
  · have e := of_decide_eq_true e
    have : smallOK n = false := by simp [smallOK]; omega
    simpa [smallV, smallE, this] using K
  · have e2 := of_decide_eq_true e2
    have : smallOK n = false := by simp [smallOK]; omega
    simpa [smallV, smallE, this] using K
  · have e : ¬ n < -1073741824 := by simpa using e
    have e2 : ¬ 1073741823 < n := by simpa using e2
    have : smallOK n = true := by simp [smallOK]; omega
    refine ⟨⟨by omega, by omega⟩, ⟨by omega, by omega⟩, ?_⟩
    simpa [smallV, smallE, this] using K

theorem numV_bounds (o : Int) : -1073741824 ≤ numV o ∧ numV o ≤ 1073741823 := by
  unfold numV
  split
  · rename_i h
    simp [numB] at h
    omega
  · omega
theorem namV_bounds (o : Int) : 0 ≤ namV o ∧ namV o < 1073741824 := by
  unfold namV
  split
  · rename_i h
    simp [namB] at h
    omega
  · omega

/-! ### Searches -/
/-- the place of the first, or -1 -/
def idxF (p : Int → Bool) : List Int → Int → Int
  | [], _ => -1
  | x :: l, i => if p x then i else idxF p l (i + 1)

theorem idxF_any (p : Int → Bool) : ∀ (l : List Int) (i : Int), 0 ≤ i → decide (0 ≤ idxF p l i) = l.any p
  | [], i, _ => by simp [idxF]
  | x :: l, i, h => by
    simp only [idxF, List.any_cons]
    by_cases hx : p x = true
    · simp [hx, h]
    · simp only [hx, Bool.false_eq_true, if_false, Bool.false_or]
      exact idxF_any p l (i + 1) (by omega)

theorem slices_IndexFunc_int {s : Sl} {l : List Int} {g : Value} {p : Int → Bool} {h : Heap} {R : Value → Heap → Prop} (H : SlX h s .i64 l) (hl : l.length ≤ 1000000000)
    (hg : ∀ (z : Int) (R' : Value → Heap → Prop), R' (.bool (p z)) h → HV P g #[.int .i64 z] h R') (K : R (.int .i64 (idxF p l 0)) h) : HC P F_slices_IndexFunc_int_int #[.slice s.a s.n s.c, g] h R := by
  have hn := H.len
  refine S_slices_IndexFunc_int_int ⟨fun z _ h' => 0 ≤ z ∧ h' = h ∧ z ≤ l.length ∧ idxF p l 0 = idxF p (l.drop z.toNat) z, fun z _ _ => (l.length - z).toNat, ⟨Int.le_refl _, rfl, by omega, rfl⟩, fun z _ h' I => ?_⟩
  obtain ⟨i0, rfl, i1, i2⟩ := I
  refine condI (fun e => ?_) fun e => ?_
  · have e := of_decide_eq_true e
    have hlt : z.toNat < l.length := by omega
    obtain ⟨a, ha⟩ := H.addr hlt
    rw [ha, oE_some, Nat.mul_one]
    have hd : l.drop z.toNat = l[z.toNat] :: l.drop (z.toNat + 1) := List.drop_eq_getElem_cons hlt
    refine ⟨i0, e, _, H.cell ha (List.getElem?_eq_getElem hlt), hg _ _ ⟨_, rfl, condI (fun e2 => ?_) fun e2 => ?_⟩⟩
    · rw [hd] at i2
      simp only [idxF, e2, if_true] at i2
      rw [i2] at K
      exact K
    · rw [hd] at i2
      simp only [idxF, e2, Bool.false_eq_true, if_false] at i2
      exact ⟨⟨by omega, by omega⟩, ⟨by omega, rfl, by omega, by rw [i2, show (z + 1).toNat = z.toNat + 1 by omega]⟩, by show Int.toNat _ < Int.toNat _; omega⟩
  · have e : ¬ z < (s.n : Int) := by simpa using e
    have : l.drop z.toNat = [] := List.drop_eq_nil_of_le (by omega)
    rw [this] at i2
    simp only [idxF] at i2
    rw [i2] at K
    exact K

theorem slices_ContainsFunc_int {s : Sl} {l : List Int} {g : Value} {p : Int → Bool} {h : Heap} {R : Value → Heap → Prop} (H : SlX h s .i64 l) (hl : l.length ≤ 1000000000)
    (hg : ∀ (z : Int) (R' : Value → Heap → Prop), R' (.bool (p z)) h → HV P g #[.int .i64 z] h R') (K : R (.bool (l.any p)) h) : HC P F_slices_ContainsFunc_int_int #[.slice s.a s.n s.c, g] h R := by
  refine S_slices_ContainsFunc_int_int (slices_IndexFunc_int H hl hg ⟨_, rfl, ?_⟩)
  rw [idxF_any p l 0 (Int.le_refl _)]
  exact K

theorem slices_Index_int {s : Sl} {l : List Int} {x : Int} {h : Heap} {R : Value → Heap → Prop} (H : SlI h s .i64 l) (hl : l.length ≤ 1000000000)
    (K : R (.int .i64 (idxF (fun y => x == y) l 0)) h) : HC P F_slices_Index_int_int #[.slice s.a s.n s.c, .int .i64 x] h R := by
  have hn := H.len
  refine S_slices_Index_int_int ⟨fun z _ h' => 0 ≤ z ∧ h' = h ∧ z ≤ l.length ∧ idxF (fun y => x == y) l 0 = idxF (fun y => x == y) (l.drop z.toNat) z, fun z _ _ => (l.length - z).toNat, ⟨Int.le_refl _, rfl, by omega, rfl⟩, fun z _ h' I => ?_⟩
  obtain ⟨i0, rfl, i1, i2⟩ := I
  refine condI (fun e => ?_) fun e => ?_
  · have e := of_decide_eq_true e
    have hlt : z.toNat < l.length := by omega
    obtain ⟨a, ha⟩ := H.addr hlt
    rw [ha, oE_some, Nat.mul_one]
    have hd : l.drop z.toNat = l[z.toNat] :: l.drop (z.toNat + 1) := List.drop_eq_getElem_cons hlt
    refine ⟨i0, e, _, H.cell ha (List.getElem?_eq_getElem hlt), condI (fun e2 => ?_) fun e2 => ?_⟩
    · rw [hd] at i2
      simp only [idxF, e2, if_true] at i2
      rw [i2] at K
      exact K
    · rw [hd] at i2
      simp only [idxF, e2, Bool.false_eq_true, if_false] at i2
      exact ⟨⟨by omega, by omega⟩, ⟨by omega, rfl, by omega, by rw [i2, show (z + 1).toNat = z.toNat + 1 by omega]⟩, by show Int.toNat _ < Int.toNat _; omega⟩
  · have e : ¬ z < (s.n : Int) := by simpa using e
    have : l.drop z.toNat = [] := List.drop_eq_nil_of_le (by omega)
    rw [this] at i2
    simp only [idxF] at i2
    rw [i2] at K
    exact K

theorem slices_Contains_int {s : Sl} {l : List Int} {x : Int} {h : Heap} {R : Value → Heap → Prop} (H : SlI h s .i64 l) (hl : l.length ≤ 1000000000)
    (K : R (.bool (l.any fun y => x == y)) h) : HC P F_slices_Contains_int_int #[.slice s.a s.n s.c, .int .i64 x] h R := by
  refine S_slices_Contains_int_int (slices_Index_int H hl ⟨_, rfl, ?_⟩)
  rw [idxF_any _ l 0 (Int.le_refl _)]
  exact K

/-! ### Classes -/
def shapeOK (o : Int) : Bool := numB o && (decide (0 ≤ numV o) && ((numV o % 4 == 1 || numV o % 4 == 2) && !(numV o % 4 == 2 && decide (0 < numV o / 4 % 256))))
def shapeE (s : St) (c : Int) : Int := if fetchE s c 2 ≠ 0 then fetchE s c 2 else if shapeOK (fetchV s c 2) then 0 else 2
def shK (s : St) (c : Int) : Int := if shapeE s c = 0 then numV (fetchV s c 2) % 4 else 0
def shF (s : St) (c : Int) : Int := if shapeE s c = 0 then numV (fetchV s c 2) / 4 % 256 else 0
def shM (s : St) (c : Int) : Bool := if shapeE s c = 0 then numV (fetchV s c 2) / 1024 % 2 == 1 else false
def classE (s : St) (o : Int) : Int := if (s.get (namV o)).isSome then 0 else 4
def classV (s : St) (o : Int) : Int := match s.get (namV o) with | some a => a.cls | none => 0
def clsOfE (s : St) (o : Int) : Int := if numB o then fetchE s 8 0 else classE s o
def clsOfV (s : St) (o : Int) : Int := if numB o then fetchV s 8 0 else classV s o

section
variable {v : Value} {Rep : Heap → List Nat → St → Prop} {Tight : St → Prop} (S : Sto v Rep Tight) {h : Heap} {F : List Nat} {s : St} (H : Rep h F s) {R : Value → Heap → Prop}
include S H

theorem kit_Special {i : Int} (K : ∀ h' F', Rep h' F' s → Mv F h F' h' → R (.tuple #[.int .i64 (fetchV s 8 i), .int .i64 (fetchE s 8 i)]) h')
    (KF : fetchE s 8 i = 0 → Tight s → ∀ h' F', Rep h' F' s → Mv F h F' h' → R (.tuple #[.int .i64 0, .int .i64 3]) h') : HC P F_kit_Special #[v, .int .i64 i] h R :=
  S_kit_Special (S.fetch H (fun h1 F1 H1 m1 => ⟨_, _, rfl, K h1 F1 H1 m1⟩) fun he ht h1 F1 H1 m1 => ⟨_, _, rfl, KF he ht h1 F1 H1 m1⟩)

theorem flat_Class {o : Int} (K : ∀ h' F', Rep h' F' s → Mv F h F' h' → R (.tuple #[.int .i64 (classV s o), .int .i64 (classE s o)]) h') : HC P F_flat_Class #[v, .int .i64 o] h R := by
  have fin : ∀ {h1 F1 h2} (cls kind : Int) (sw sb : Sl), Rep h1 F1 s → Mv F h F1 h1 → h2[h1.size]? = some (.cells (objCells cls kind sw sb) T_api_Obj (0, 0)) → Fr [] h1 h2 → Rep h2 F1 s ∧ Mv F h F1 h2 := fun cls kind sw sb H1 m1 g2 f2 =>
    ⟨S.fr H1 f2 (by simp), m1.trans (Mv.grow f2)⟩
  refine S_flat_Class (S.obj H (fun a ha h1 F1 sw sb H1 m1 _ _ _ _ => ⟨_, _, sw, sb, _, rfl, box_new fun h2 g2 f2 s2 => box_w (sw := nilSl) (sb := nilSl) (sw' := sw) (sb' := sb) g2 rfl fun h3 g3 f3 => ?_⟩)
    fun hn h1 F1 H1 m1 => ⟨_, _, nilSl, nilSl, _, rfl, box_new fun h2 g2 f2 s2 => box_w (sw := nilSl) (sb := nilSl) (sw' := nilSl) (sb' := nilSl) g2 rfl fun h3 g3 f3 => ?_⟩)
  · obtain ⟨a1, a2⟩ := fin _ _ _ _ H1 m1 g3 (f2.trans f3 fun k hk => .inr (by simp at hk; omega))
    have := K h3 F1 a1 a2
    simp only [classV, classE, ha, Option.isSome_some, if_true] at this
    simp only [add_add, cellH_of g3]
    exact ⟨_, rfl, this⟩
  · obtain ⟨a1, a2⟩ := fin _ _ _ _ H1 m1 g3 (f2.trans f3 fun k hk => .inr (by simp at hk; omega))
    have := K h3 F1 a1 a2
    simp only [classV, classE, hn, Option.isSome_none, Bool.false_eq_true, if_false] at this
    simp only [add_add, cellH_of g3]
    exact ⟨_, rfl, this⟩

theorem kit_ClassOf {o : Int} (K : ∀ h' F', Rep h' F' s → Mv F h F' h' → R (.tuple #[.int .i64 (clsOfV s o), .int .i64 (clsOfE s o)]) h')
    (KF : clsOfE s o = 0 → Tight s → ∀ h' F', Rep h' F' s → Mv F h F' h' → R (.tuple #[.int .i64 0, .int .i64 3]) h') : HC P F_kit_ClassOf #[v, .int .i64 o] h R := by
  refine S_kit_ClassOf (word_Number ⟨_, _, rfl, condI (fun e => kit_Special S H (fun h1 F1 H1 m1 => ⟨_, _, rfl, ?_⟩) fun he ht h1 F1 H1 m1 => ⟨_, _, rfl, KF (by simp only [clsOfE, e, if_true]; exact he) ht h1 F1 H1 m1⟩) fun e => flat_Class S H fun h1 F1 H1 m1 => ⟨_, _, rfl, ?_⟩⟩)
  · have := K h1 F1 H1 m1
    simpa only [clsOfV, clsOfE, e, if_true] using this
  · have := K h1 F1 H1 m1
    simpa only [clsOfV, clsOfE, e, Bool.false_eq_true, if_false] using this

theorem kit_Shape {c : Int} (K : ∀ h' F', Rep h' F' s → Mv F h F' h' → R (.tuple #[.int .i64 (shK s c), .int .i64 (shF s c), .bool (shM s c), .int .i64 (shapeE s c)]) h')
    (KF : fetchE s c 2 = 0 → Tight s → ∀ h' F', Rep h' F' s → Mv F h F' h' → R (.tuple #[.int .i64 0, .int .i64 0, .bool false, .int .i64 3]) h') : HC P F_kit_Shape #[v, .int .i64 c] h R := by
  refine S_kit_Shape (S.fetch H (fun h1 F1 H1 m1 => ⟨_, _, rfl, condI (fun e => ?_) fun e => ?_⟩) fun he ht h1 F1 H1 m1 => ⟨_, _, rfl, KF he ht h1 F1 H1 m1⟩)
  · have e : fetchE s c 2 ≠ 0 := by simpa using e
    have hE : shapeE s c = fetchE s c 2 := by simp [shapeE, e]
    have := K h1 F1 H1 m1
    simp only [shK, shF, shM, hE, if_neg e] at this
    exact this
  · have e : fetchE s c 2 = 0 := by simpa using e
    have K := K h1 F1 H1 m1
    have hE : shapeE s c = if shapeOK (fetchV s c 2) then 0 else 2 := by simp [shapeE, e]
    have nb := numV_bounds (fetchV s c 2)
    have bad : shapeOK (fetchV s c 2) = false → R (.tuple #[.int .i64 0, .int .i64 0, .bool false, .int .i64 2]) h1 := fun hb => by
      have hE : shapeE s c = 2 := by rw [hE, hb]; rfl
      simpa only [shK, shF, shM, hE, show ¬ ((2 : Int) = 0) by omega, if_false] using K
    have good : shapeOK (fetchV s c 2) = true → R (.tuple #[.int .i64 (andI .i64 (numV (fetchV s c 2)) 3), .int .i64 (andI .i64 (numV (fetchV s c 2) / 4) 255), .bool (andI .i64 (numV (fetchV s c 2) / 1024) 1 == 1), .int .i64 0]) h1 := fun hb => by
      have hE : shapeE s c = 0 := by rw [hE, hb]; rfl
      rw [andI_3, andI_255, andI_1]
      simpa only [shK, shF, shM, hE, if_true] using K
    refine word_Number ⟨_, _, rfl, by omega, by omega, fun J1 hJ1 => ?_⟩
    have hJ : shapeOK (fetchV s c 2) = true → J1 0 false 0 0 h1 := fun hb => hJ1 _ _ _ _ _ ⟨by omega, by omega, good hb⟩
    have hs : shapeOK (fetchV s c 2) = (numB (fetchV s c 2) && (decide (0 ≤ numV (fetchV s c 2)) && ((numV (fetchV s c 2) % 4 == 1 || numV (fetchV s c 2) % 4 == 2) && !(numV (fetchV s c 2) % 4 == 2 && decide (0 < numV (fetchV s c 2) / 4 % 256))))) := rfl
    generalize numV (fetchV s c 2) = f at *
    generalize numB (fetchV s c 2) = b at *
    refine condI (fun e => bad ?_) fun e => condI (fun e2 => bad ?_) fun e2 => ?_
    · rw [hs, not_eq_true_of e]; rfl
    · have e2 := of_decide_eq_true e2
      rw [hs]; have : ¬ (0 ≤ f) := by omega
      simp [this]
    · have e := not_eq_false_of e
      have e2 : ¬ f < 0 := by simpa using e2
      have e3 : 0 ≤ f := by omega
      rw [andI_3] at *
      rw [andI_255] at *
      rw [e] at hs
      simp only [e3, decide_true, Bool.true_and] at hs
      refine condI (fun a1 => condI (fun a2 => bad ?_) fun a2 => condI (fun a3 => condI (fun a4 => bad ?_) fun a4 => hJ ?_) fun a3 => ?_) fun a1 => condI (fun a3 => ?_) fun a3 => hJ ?_
      · simp at a1 a2; rw [hs]; simp [a1, a2]
      · simp at a3; have a4 := of_decide_eq_true a4; rw [hs]; simp [a3, a4]
      · simp at a3; rw [hs]; simp [a3]; simp at a4; omega
      · simp at a2 a3; omega
      · simp at a1 a3; omega
      · simp at a1; rw [hs]; simp [a1]

theorem kit_Instance {c : Int} {sl : Sl} {l : List Int} (hs : SlI h sl .i64 l) (hd : ∀ k ∈ sl.blk, k ∉ F) (hl : l.length ≤ 1000) (hm : s.made < 4611686018427387904)
    (KE : ∀ e, (shapeE s c ≠ 0 ∧ e = shapeE s c) ∨ (shapeE s c = 0 ∧ (1 < l.length ∨ (∃ x ∈ l, x < 0 ∨ 1000 < x) ∨ (l.length = 1 ∧ shM s c = false)) ∧ e = 2) → ∀ h' F', Rep h' F' s → Mv F h F' h' → R (.tuple #[.int .i64 0, .int .i64 e]) h')
    (K1 : shapeE s c = 0 → ∀ size, (l = [] ∧ size = shF s c) ∨ (∃ x, l = [x] ∧ 0 ≤ x ∧ x ≤ 1000 ∧ shM s c = true ∧ size = shF s c + x) → newOK c (shK s c) size = true → ∀ h' F', Rep h' F' (s.add (blankA c (shK s c) size)) → Mv F h F' h' → R (.tuple #[.int .i64 (oopV (s.made + 1)), .int .i64 0]) h')
    (K0 : shapeE s c = 0 → ∀ size, (l = [] ∧ size = shF s c) ∨ (∃ x, l = [x] ∧ 0 ≤ x ∧ x ≤ 1000 ∧ shM s c = true ∧ size = shF s c + x) → newOK c (shK s c) size = false → ∀ h' F', Rep h' F' s → Mv F h F' h' → R (.tuple #[.int .i64 0, .int .i64 2]) h')
    (KF : (∃ t, Tight t) → ∀ h' F', Rep h' F' s → Mv F h F' h' → R (.tuple #[.int .i64 0, .int .i64 3]) h') : HC P F_kit_Instance #[v, .int .i64 c, .slice sl.a sl.n sl.c] h R := by
  refine S_kit_Instance (kit_Shape S H (fun h1 F1 H1 m1 => ⟨_, _, _, _, rfl, condI (fun e => KE _ (.inl ⟨by simpa using e, rfl⟩) h1 F1 H1 m1) fun e => ?_⟩) fun he ht h1 F1 H1 m1 => ⟨_, _, _, _, rfl, KF ⟨_, ht⟩ h1 F1 H1 m1⟩)
  have e0 : shapeE s c = 0 := by simpa using e
  obtain ⟨hs1, hd1⟩ := m1.sl hs hd
  have hn := hs.len
  refine fun J1 hJ1 => condI (fun e1 => KE _ (.inr ⟨e0, .inl (by have := of_decide_eq_true e1; omega), rfl⟩) h1 F1 H1 m1) fun e1 => ?_
  have e1 : ¬ (1 : Int) < (sl.n : Int) := by simpa using e1
  refine slices_ContainsFunc_int (p := fun x => decide (x < 0) || decide (1000 < x)) hs1.x (by omega) (fun z R' hR' => HV.of_func (first := #[]) (cap := #[]) (S_kit_Instance_1 (condI (fun a => ?_) fun a => ?_))) ⟨_, rfl, condI (fun e2 => KE _ (.inr ⟨e0, .inr (.inl ?_), rfl⟩) h1 F1 H1 m1) fun e2 => ?_⟩
  · rw [a] at hR'; exact hR'
  · rw [a] at hR'; exact hR'
  · simp only [List.any_eq_true, Bool.or_eq_true, decide_eq_true_eq] at e2
    exact e2
  have e2 : ∀ x ∈ l, 0 ≤ x ∧ x ≤ 1000 := fun x hx => by
    have := List.any_eq_false.1 e2 x hx
    simp at this
    omega
  have hF : 0 ≤ shF s c ∧ shF s c ≤ 255 := by unfold shF; split <;> omega
  have body : ((l.length = 1 → shM s c = true)) → J1 0 0 h1 := fun hmore => by
    refine hJ1 _ _ h1 ⟨fun z y h' => h' = h1 ∧ 0 ≤ z ∧ z ≤ l.length ∧ y = shF s c + (l.take z.toNat).sum, fun z _ _ => (l.length - z).toNat, ⟨rfl, Int.le_refl _, by omega, by simp⟩, fun z y h' I => ?_⟩
    obtain ⟨rfl, i0, i1, i2⟩ := I
    have hsum : 0 ≤ (l.take z.toNat).sum ∧ (l.take z.toNat).sum ≤ 1000 := by
      match l, e2, hn, e1 with
      | [], _, _, _ => simp
      | [x], e2, _, _ =>
        have := e2 x (by simp)
        cases z.toNat with
        | zero => simp
        | succ k => simp; omega
      | _ :: _ :: _, _, hn, e1 => simp at hn; omega
    refine condI (fun a => ?_) fun a => ?_
    · have a := of_decide_eq_true a
      have hlt : z.toNat < l.length := by omega
      obtain ⟨p, hp⟩ := hs1.addr hlt
      rw [hp, oE_some, Nat.mul_one]
      have hx := e2 _ (List.getElem_mem hlt)
      refine ⟨i0, a, _, hs1.cell hp (List.getElem?_eq_getElem hlt), ⟨by omega, by omega⟩, ⟨by omega, by omega⟩, ⟨rfl, by omega, by omega, ?_⟩, by show Int.toNat _ < Int.toNat _; omega⟩
      rw [show (z + 1).toNat = z.toNat + 1 by omega, List.take_add_one, List.getElem?_eq_getElem hlt, i2, List.sum_append]
      simp [Int.add_assoc]
    · have a : ¬ z < (sl.n : Int) := by simpa using a
      have hall : l.take z.toNat = l := List.take_of_length_le (by omega)
      rw [hall] at i2
      have hsz : (l = [] ∧ y = shF s c) ∨ (∃ x, l = [x] ∧ 0 ≤ x ∧ x ≤ 1000 ∧ shM s c = true ∧ y = shF s c + x) := by
        match l, e2, hn, e1, hmore, i2 with
        | [], _, _, _, _, i2 => exact .inl ⟨rfl, by simpa using i2⟩
        | [x], e2, _, _, hmore, i2 =>
          have := e2 x (by simp)
          exact .inr ⟨x, rfl, this.1, this.2, hmore rfl, by simpa using i2⟩
        | _ :: _ :: _, _, hn, e1, _, _ => simp at hn; omega
      exact S.new H1 hm (fun hok h2 F2 H2 m2 => ⟨_, _, rfl, K1 e0 y hsz hok h2 F2 H2 (m1.trans m2)⟩) (fun hok h2 F2 H2 m2 => ⟨_, _, rfl, K0 e0 y hsz hok h2 F2 H2 (m1.trans m2)⟩) fun hok ht h2 F2 H2 m2 => ⟨_, _, rfl, KF ⟨_, ht⟩ h2 F2 H2 (m1.trans m2)⟩
  refine condI (fun e3 => condI (fun e4 => KE _ (.inr ⟨e0, .inr (.inr ⟨?_, not_eq_true_of e4⟩), rfl⟩) h1 F1 H1 m1) fun e4 => body fun _ => not_eq_false_of e4) fun e3 => body fun hl1 => ?_
  · have e3 : (sl.n : Int) = 1 := by simpa using e3
    omega
  · have e3 : ¬ (sl.n : Int) = 1 := by simpa using e3
    omega
end
end Go.Hv.W

/- Primitives on objects: over any memory. -/
namespace Go.Hv.W
open Go Go.Hv

/-! ### How many arguments -/
def countsL : List (Int × Int) := [(1, 1), (2, 1), (3, 1), (4, 1), (5, 1), (6, 1), (7, 1), (8, 1), (9, 1), (10, 1), (11, 1), (12, 1), (14, 1), (15, 1), (21, 1), (22, 1), (29, 1), (60, 1), (61, 2), (62, 0), (70, 0), (71, 1), (72, 1), (73, 1), (74, 2), (75, 0), (76, 0), (110, 1), (111, 0)]
def countsC : List Value := countsL.flatMap fun p => [.int .i64 p.1, .int .i64 p.2]
/-- the table lies there -/
structure HasCounts (h : Heap) : Prop where
  get : ∃ cs T q, h[G_prim_counts]? = some (.cells cs T q) ∧ cs.toList = countsC

theorem HasCounts.fr {F : List Nat} {h h' : Heap} (H : HasCounts h) (x : Fr F h h') (hF : G_prim_counts ∉ F) : HasCounts h' := by
  obtain ⟨cs, T, q, h1, h2⟩ := H.get
  exact ⟨cs, T, q, x.get h1 hF, h2⟩

def knownF (n : Int) : Option Int := (countsL.find? fun p => p.1 == n).map (·.2)

theorem counts_at : ∀ i : Nat, i < 29 → (List.take 2 (List.drop (i * 2) countsC)) = [.int .i64 (countsL.getD i (0, 0)).1, .int .i64 (countsL.getD i (0, 0)).2] := by
  intro i hi
  match i, hi with
  | 0, _ | 1, _ | 2, _ | 3, _ | 4, _ | 5, _ | 6, _ | 7, _ | 8, _ | 9, _ | 10, _ | 11, _ | 12, _ | 13, _ | 14, _ | 15, _ | 16, _ | 17, _ | 18, _ | 19, _ | 20, _ | 21, _ | 22, _ | 23, _ | 24, _ | 25, _ | 26, _ | 27, _ | 28, _ => rfl
  | k + 29, hi => omega

theorem find_counts (n : Int) : ∀ (k : Nat), (∀ j, j < k → (countsL.getD j (0, 0)).1 ≠ n) → knownF n = ((countsL.drop k).find? fun p => p.1 == n).map (·.2)
  | 0, _ => rfl
  | k + 1, H => by
    rw [find_counts n k fun j hj => H j (by omega)]
    by_cases hk : k < countsL.length
    · rw [List.drop_eq_getElem_cons hk, List.find?_cons]
      have := H k (by omega)
      rw [List.getD_eq_getElem?_getD, List.getElem?_eq_getElem hk] at this
      have h2 : (countsL[k].1 == n) = false := by simpa using this
      rw [h2]
    · rw [List.drop_eq_nil_of_le (by omega), List.drop_eq_nil_of_le (by omega)]

theorem prim_Known {n : Int} {h : Heap} {R : Value → Heap → Prop} (H : HasCounts h) (K : ∀ h', Fr [] h h' → R (.tuple #[.int .i64 ((knownF n).getD 0), .bool (knownF n).isSome]) h') : HC P F_prim_Known #[.int .i64 n] h R := by
  obtain ⟨cs, T, q, h1, h2⟩ := H.get
  refine S_prim_Known ⟨countsC, ?_, fun z _ _ h' => 0 ≤ z ∧ z ≤ 29 ∧ Fr [] h h' ∧ ∀ j : Nat, (j : Int) < z → (countsL.getD j (0, 0)).1 ≠ n, fun z _ _ _ => (29 - z).toNat, ⟨Int.le_refl _, by omega, Fr.refl _ _, fun j hj => by omega⟩, fun z b y h' I => ?_⟩
  · rw [cellsH_of h1 (by rw [← Array.length_toList, h2]; decide), h2]
    rfl
  obtain ⟨i0, i1, i2, i3⟩ := I
  refine condI (fun e => ?_) fun e => ?_
  · have e := of_decide_eq_true e
    have hc := counts_at z.toNat (by omega)
    refine ⟨i0, e, _, _, hc, box_new fun h2 g2 f2 s2 => ⟨StOK_of g2 (by simp), fun h3 e3 => ?_⟩⟩
    have g3 : h3[h'.size]? = some (.cells #[.int .i64 (countsL.getD z.toNat (0, 0)).1, .int .i64 (countsL.getD z.toNat (0, 0)).2] T__2_int (0, 0)) := by rw [e3]; exact get_putsH_eq g2
    have f3 : Fr [] h h3 := (i2.trans' f2).trans (G := [h'.size]) (by rw [e3]; exact Fr.puts (.inl (by simp))) fun k hk => .inr (by simp at hk; have := i2.size; omega)
    simp only [add_add, cellH_of g3]
    refine ⟨by omega, by omega, _, rfl, condI (fun e4 => ?_) fun e4 => ?_⟩
    · have e4 : (countsL.getD z.toNat (0, 0)).1 ≠ n := by simpa using e4
      refine ⟨⟨by omega, by omega⟩, ⟨by omega, by omega, f3, fun j hj => ?_⟩, by omega⟩
      by_cases hj' : (j : Int) < z
      · exact i3 j hj'
      · have : j = z.toNat := by omega
        subst this
        exact e4
    · have e4 : (countsL.getD z.toNat (0, 0)).1 = n := by simpa using e4
      refine ⟨by omega, by omega, _, rfl, ?_⟩
      have hlt : z.toNat < countsL.length := by show z.toNat < 29; omega
      have hk : knownF n = some (countsL.getD z.toNat (0, 0)).2 := by
        rw [find_counts n z.toNat fun j hj => i3 j (by omega), List.drop_eq_getElem_cons hlt, List.find?_cons]
        rw [List.getD_eq_getElem?_getD, List.getElem?_eq_getElem hlt] at e4 ⊢
        have : (countsL[z.toNat].1 == n) = true := by simpa using e4
        rw [this]
        rfl
      have := K h3 f3
      rw [hk] at this
      exact this
  · have e : ¬ z < 29 := by simpa using e
    have hk : knownF n = none := by
      rw [find_counts n 29 fun j hj => i3 j (by omega)]
      rfl
    have := K h' i2
    rw [hk] at this
    exact this

theorem prim_truth {b : Bool} {h : Heap} {R : Value → Heap → Prop} (K : R (.int .i64 (if b then 4 else 6)) h) : HC P F_prim_truth #[.bool b] h R := by
  refine S_prim_truth ?_
  cases b <;> exact K

theorem prim_small {n e : Int} {h : Heap} {R : Value → Heap → Prop} (K : R (.tuple #[.int .i64 (if e ≠ 0 then 0 else smallV n), .int .i64 (if e ≠ 0 then e else smallE n)]) h) : HC P F_prim_small #[.int .i64 n, .int .i64 e] h R := by
  refine S_prim_small (condI (fun a => ?_) fun a => word_Small ⟨_, _, rfl, ?_⟩)
  · have a : e ≠ 0 := by simpa using a
    simpa only [if_pos a] using K
  · have a : ¬ e ≠ 0 := by simpa using a
    simpa only [if_neg a] using K

/-! ### Places -/
def behE (s : St) (o : Int) : Int := match s.get (namV o) with | none => 4 | some a => if shapeE s a.cls ≠ 0 then shapeE s a.cls else if (a.size : Int) < shF s a.cls then 2 else 0
def behF (s : St) (o : Int) : Int := match s.get (namV o) with | none => 0 | some a => shF s a.cls
def behN (s : St) (o : Int) : Int := match s.get (namV o) with | none => 0 | some a => a.size - shF s a.cls
def behK (s : St) (o : Int) : Int := match s.get (namV o) with | none => 0 | some a => a.kind

def atE (s : St) (o i : Int) : Int := if behE s o ≠ 0 then behE s o else if numB i = false ∨ numV i < 1 ∨ behN s o < numV i then 21 else 0
def atV (s : St) (o i : Int) : Int := behF s o + numV i - 1
def getE' (s : St) (o i : Int) : Int := if atE s o i ≠ 0 then atE s o i else if behK s o = 1 then fetchE s o (atV s o i) else if byteE s o (atV s o i) ≠ 0 then byteE s o (atV s o i) else smallE (byteV s o (atV s o i))
def getV (s : St) (o i : Int) : Int := if atE s o i ≠ 0 then 0 else if behK s o = 1 then fetchV s o (atV s o i) else if byteE s o (atV s o i) ≠ 0 then 0 else smallV (byteV s o (atV s o i))
def putE (s : St) (o i v : Int) : Int := if atE s o i ≠ 0 then atE s o i else if behK s o = 1 then setE' s o (atV s o i) v else if numB v = false then 2 else setByteE s o (atV s o i) (numV v)
def putV (s : St) (o i v : Int) : Int := if atE s o i ≠ 0 then 0 else if behK s o = 1 then v else if numB v = false then 0 else v
def putS (s : St) (o i v : Int) : St := if atE s o i ≠ 0 then s else if behK s o = 1 then setS s o (atV s o i) v else if numB v = false then s else setByteS s o (atV s o i) (numV v)

theorem AO.OK.size_le {a : AO} (h : a.OK) : a.size ≤ 1000 := by
  unfold AO.size
  rcases h.kind with ⟨hk, _, hl, _⟩ | ⟨hk, _, hl, _⟩
  · simp [hk, hl]
  · simp [hk, hl]

theorem St.OK.of_get {s : St} (h : s.OK) {id : Int} {a : AO} (hg : s.get id = some a) : a.OK := by
  unfold St.get at hg
  cases hf : s.objs.find? fun p => p.1 == id with
  | none => rw [hf] at hg; cases hg
  | some p =>
    rw [hf] at hg
    simp only [Option.map_some, Option.some.injEq] at hg
    subst hg
    exact h.objs p (List.mem_of_find?_eq_some hf)

theorem shF_bounds (s : St) (c : Int) : 0 ≤ shF s c ∧ shF s c ≤ 255 := by unfold shF; split <;> omega
theorem behF_bounds (s : St) (o : Int) : 0 ≤ behF s o ∧ behF s o ≤ 255 := by
  unfold behF
  split
  · omega
  · exact shF_bounds _ _

section
variable {v : Value} {Rep : Heap → List Nat → St → Prop} {Tight : St → Prop} (S : Sto v Rep Tight) {h : Heap} {F : List Nat} {s : St} (H : Rep h F s) {R : Value → Heap → Prop}
include S H

theorem prim_behind {o : Int} (K : ∀ h' F', Rep h' F' s → Mv F h F' h' → R (.tuple #[.int .i64 (behF s o), .int .i64 (behN s o), .int .i64 (behK s o), .int .i64 (behE s o)]) h')
    (KF : Tight s → ∀ h' F' n k, 0 ≤ n → n ≤ 1000 → Rep h' F' s → Mv F h F' h' → R (.tuple #[.int .i64 0, .int .i64 n, .int .i64 k, .int .i64 3]) h') : HC P F_prim_behind #[v, .int .i64 o] h R := by
  refine S_prim_behind (S.obj H (fun a ha h1 F1 sw sb H1 m1 Gw Gb hb _ => ⟨_, _, sw, sb, _, rfl, box_new fun h2 g2 f2 s2 => box_w (sw := nilSl) (sb := nilSl) (sw' := sw) (sb' := sb) g2 rfl fun h3 g3 f3 => ?_⟩)
    fun hn h1 F1 H1 m1 => ⟨_, _, nilSl, nilSl, _, rfl, box_new fun h2 g2 f2 s2 => box_w (sw := nilSl) (sb := nilSl) (sw' := nilSl) (sb' := nilSl) g2 rfl fun h3 g3 f3 => ?_⟩)
  · have f13 : Fr [] h1 h3 := f2.trans f3 fun k hk => .inr (by simp at hk; omega)
    have H3 := S.fr H1 f13 (by simp)
    have m3 := m1.trans (Mv.grow f13)
    have hok := (S.inv H).of_get ha
    have hsz := hok.size_le
    have lw := Gw.len
    have lb := Gb.len
    have hbox : h1.size ∉ F1 := fun hm => by have := S.lt H1 _ hm; omega
    simp only [show ((0 : Int) != 0) = false from rfl, cond_false, add_add, cellH_of g3]
    refine ⟨a.cls, rfl, ?_⟩
    have hsize : (if a.kind = 1 then (sw.n : Int) else if a.kind = 2 then (sb.n : Int) else 0) = (a.size : Int) := by
      unfold AO.size
      rw [lw, lb]
      split
      · rfl
      · split <;> rfl
    -- the end, from any heap with the box
    have ende : ∀ h4 F4 f e, Rep h4 F4 s → Mv F h F4 h4 → h4[h1.size]? = some (.cells (objCells a.cls a.kind sw sb) T_api_Obj (0, 0)) → 0 ≤ f → f ≤ 255 →
        (∀ h5 F5, Rep h5 F5 s → Mv F h F5 h5 → R (.tuple #[.int .i64 f, .int .i64 (a.size - f), .int .i64 a.kind, .int .i64 e]) h5) →
        (∃ z9 : Int, cellH h4 ⟨h1.size, 0 + 0, none⟩ = some (Value.int .i64 z9) ∧ ∃ z10 : Int, cellH h4 ⟨h1.size, 0 + 1, none⟩ = some (Value.int .i64 z10) ∧
          ∃ s3 : Sl, cellH h4 ⟨h1.size, 0 + 2, none⟩ = some (Value.slice s3.a s3.n s3.c) ∧ ∃ s4 : Sl, cellH h4 ⟨h1.size, 0 + 3, none⟩ = some (Value.slice s4.a s4.n s4.c) ∧
          ∃ z11 : Int, cellH h4 ⟨h1.size, 0 + 1, none⟩ = some (Value.int .i64 z11) ∧
          HC P F_wide_Size #[.agg #[.int .i64 z9, .int .i64 z10, .slice s3.a s3.n s3.c, .slice s4.a s4.n s4.c]] h4 fun v3 h3_1 => ∃ z12 : Int, v3 = .int .i64 z12 ∧
            (∃ z13 : Int, cellH h3_1 ⟨h1.size, 0 + 1, none⟩ = some (Value.int .i64 z13) ∧ Value.int .i64 z13 = Value.int .i64 z11) ∧ InI (z12 - f) ∧
            R (.tuple #[.int .i64 f, .int .i64 (z12 - f), .int .i64 z11, .int .i64 e]) h3_1) := by
      intro h4 F4 f e H4 m4 g4 f0 f1 KK
      simp only [cellH_of g4]
      refine ⟨_, rfl, _, rfl, sw, rfl, sb, rfl, _, rfl, wide_Size fun h5 f5 => ?_⟩
      rw [hsize]
      simp only [cellH_of (f5.get g4 (by simp))]
      exact ⟨_, rfl, ⟨_, rfl, rfl⟩, ⟨by omega, by omega⟩, KK h5 F4 (S.fr H4 f5 (by simp)) (m4.trans (Mv.grow f5))⟩
    refine kit_Shape S H3 (fun h4 F4 H4 m4 => ?_) fun he ht h4 F4 H4 m4 => ?_
    · have g4 := m4.fr.get g3 (fun hm => by have := S.lt H1 _ hm; omega)
      have hF := shF_bounds s a.cls
      refine ⟨_, _, _, _, rfl, fun J1 hJ1 => ?_⟩
      have fin : ∀ e h4 F4, Rep h4 F4 s → Mv F h F4 h4 → h4[h1.size]? = some (.cells (objCells a.cls a.kind sw sb) T_api_Obj (0, 0)) → behE s o = e → J1 e h4 := fun e h4 F4 H4 m4 g4 he => by
        refine hJ1 e h4 (ende h4 F4 _ e H4 m4 g4 hF.1 hF.2 fun h5 F5 H5 m5 => ?_)
        have := K h5 F5 H5 m5
        simp only [behF, behN, behK, ha, he] at this
        exact this
      refine condI (fun e => ?_) fun e => ?_
      · have e : shapeE s a.cls = 0 := by simpa using e
        simp only [cellH_of g4]
        refine ⟨_, rfl, _, rfl, sw, rfl, sb, rfl, wide_Size fun h5 f5 => ?_⟩
        rw [hsize]
        have g5 := f5.get g4 (by simp)
        have H5 := S.fr H4 f5 (by simp)
        have m5 := (m3.trans m4).trans (Mv.grow f5)
        refine ⟨_, rfl, condI (fun e2 => fin 2 h5 F4 H5 m5 g5 ?_) fun e2 => fin _ h5 F4 H5 m5 g5 ?_⟩
        · have e2 := of_decide_eq_true e2
          simp only [behE, ha, e, ne_eq, not_true, if_false, if_pos e2]
        · have e2 : ¬ (a.size : Int) < shF s a.cls := by simpa using e2
          simp only [behE, ha, e, ne_eq, not_true, if_false, if_neg e2]
      · have e : shapeE s a.cls ≠ 0 := by simpa using e
        exact fin _ h4 F4 H4 (m3.trans m4) g4 (by simp only [behE, ha, if_pos e])
    · have g4 := m4.fr.get g3 (fun hm => by have := S.lt H1 _ hm; omega)
      refine ⟨_, _, _, _, rfl, fun J1 hJ1 => condI (fun e => by simp at e) fun _ => hJ1 3 h4 (ende h4 F4 0 3 H4 (m3.trans m4) g4 (by omega) (by omega) fun h5 F5 H5 m5 => KF ht h5 F5 _ _ (by omega) (by omega) H5 m5)⟩
  · have f13 : Fr [] h1 h3 := f2.trans f3 fun k hk => .inr (by simp at hk; omega)
    refine condI (fun _ => ?_) fun e => (by simp at e)
    have := K h3 F1 (S.fr H1 f13 (by simp)) (m1.trans (Mv.grow f13))
    simp only [behF, behN, behK, behE, hn] at this
    exact this

theorem prim_at {o i : Int} (K : ∀ h' F', Rep h' F' s → Mv F h F' h' → R (.tuple #[.int .i64 (atV s o i), .int .i64 (behK s o), .int .i64 (atE s o i)]) h')
    (KF : Tight s → ∀ h' F' n k, Rep h' F' s → Mv F h F' h' → R (.tuple #[.int .i64 n, .int .i64 k, .int .i64 3]) h') : HC P F_prim_at #[v, .int .i64 o, .int .i64 i] h R := by
  have nb := numV_bounds i
  have fb := behF_bounds s o
  refine S_prim_at (prim_behind S H (fun h1 F1 H1 m1 => ⟨_, _, _, _, rfl, word_Number ⟨_, _, rfl, fun J1 hJ1 => ?_⟩⟩) fun ht h1 F1 n k hn0 hn1 H1 m1 => ⟨_, _, _, _, rfl, word_Number ⟨_, _, rfl, fun J1 hJ1 => condI (fun e => by simp at e) fun _ => hJ1 3 h1 ⟨⟨by omega, by omega⟩, ⟨by omega, by omega⟩, KF ht h1 F1 _ _ H1 m1⟩⟩⟩)
  have fin : ∀ e, atE s o i = e → J1 e h1 := fun e he => hJ1 e h1 ⟨⟨by omega, by omega⟩, ⟨by omega, by omega⟩, by
    have := K h1 F1 H1 m1
    rw [he] at this
    exact this⟩
  refine condI (fun e => ?_) fun e => ?_
  · have e : behE s o = 0 := by simpa using e
    have he : atE s o i = if numB i = false ∨ numV i < 1 ∨ behN s o < numV i then 21 else 0 := by simp [atE, e]
    refine condI (fun e1 => fin _ ?_) fun e1 => condI (fun e2 => fin _ ?_) fun e2 => condI (fun e3 => fin _ ?_) fun e3 => fin _ ?_
    · rw [he, if_pos (.inl (not_eq_true_of e1))]
    · rw [he, if_pos (.inr (.inl (of_decide_eq_true e2)))]
    · rw [he, if_pos (.inr (.inr (of_decide_eq_true e3)))]
    · have e1 := not_eq_false_of e1
      have e2 : ¬ numV i < 1 := by simpa using e2
      have e3 : ¬ behN s o < numV i := by simpa using e3
      rw [he, if_neg (by simp [e1, e2, e3]), e]
  · have e : behE s o ≠ 0 := by simpa using e
    exact fin _ (by simp [atE, e])

theorem prim_get {o i : Int} (K : ∀ h' F', Rep h' F' s → Mv F h F' h' → R (.tuple #[.int .i64 (getV s o i), .int .i64 (getE' s o i)]) h')
    (KF : Tight s → ∀ h' F', Rep h' F' s → Mv F h F' h' → R (.tuple #[.int .i64 0, .int .i64 3]) h') : HC P F_prim_get #[v, .int .i64 o, .int .i64 i] h R := by
  refine S_prim_get (prim_at S H (fun h1 F1 H1 m1 => ⟨_, _, _, rfl, condI (fun e => ?_) fun e => condI (fun e2 => ?_) fun e2 => ?_⟩) fun ht h1 F1 n k H1 m1 => ⟨_, _, _, rfl, KF ht h1 F1 H1 m1⟩)
  · have e : atE s o i ≠ 0 := by simpa using e
    have := K h1 F1 H1 m1
    simp only [getV, getE', if_pos e] at this
    exact this
  · have e : atE s o i = 0 := by simpa using e
    have e2 : behK s o = 1 := by simpa using e2
    refine S.fetch H1 (fun h2 F2 H2 m2 => ⟨_, _, rfl, ?_⟩) fun he ht h2 F2 H2 m2 => ⟨_, _, rfl, KF ht h2 F2 H2 (m1.trans m2)⟩
    have := K h2 F2 H2 (m1.trans m2)
    simp only [getV, getE', e, ne_eq, not_true, if_false, if_pos e2] at this
    exact this
  · have e : atE s o i = 0 := by simpa using e
    have e2 : behK s o ≠ 1 := by simpa using e2
    refine S.byte H1 (fun h2 F2 H2 m2 => ⟨_, _, rfl, condI (fun e3 => ?_) fun e3 => word_Small ⟨_, _, rfl, ?_⟩⟩) fun he ht h2 F2 H2 m2 => ⟨_, _, rfl, KF ht h2 F2 H2 (m1.trans m2)⟩
    · have e3 : byteE s o (atV s o i) ≠ 0 := by simpa using e3
      have := K h2 F2 H2 (m1.trans m2)
      simp only [getV, getE', e, ne_eq, not_true, if_false, if_neg e2, e3, not_false_eq_true, if_true] at this
      exact this
    · have e3 : byteE s o (atV s o i) = 0 := by simpa using e3
      have := K h2 F2 H2 (m1.trans m2)
      simp only [getV, getE', e, ne_eq, not_true, if_false, if_neg e2, e3] at this
      exact this

theorem prim_put {o i x : Int} (K : ∀ h' F', Rep h' F' (putS s o i x) → Mv F h F' h' → R (.tuple #[.int .i64 (putV s o i x), .int .i64 (putE s o i x)]) h')
    (KF : (∃ t, Tight t) → ∀ h' F' v, Rep h' F' s → Mv F h F' h' → R (.tuple #[.int .i64 v, .int .i64 3]) h') : HC P F_prim_put #[v, .int .i64 o, .int .i64 i, .int .i64 x] h R := by
  refine S_prim_put (prim_at S H (fun h1 F1 H1 m1 => ⟨_, _, _, rfl, condI (fun e => ?_) fun e => condI (fun e2 => ?_) fun e2 => ?_⟩) fun ht h1 F1 n k H1 m1 => ⟨_, _, _, rfl, KF ⟨_, ht⟩ h1 F1 _ H1 m1⟩)
  · have e : atE s o i ≠ 0 := by simpa using e
    have := K h1 F1
    simp only [putV, putE, putS, if_pos e] at this
    exact this H1 m1
  · have e : atE s o i = 0 := by simpa using e
    have e2 : behK s o = 1 := by simpa using e2
    refine S.set H1 (fun h2 F2 H2 m2 => ⟨_, rfl, ?_⟩) fun he ht h2 F2 H2 m2 => ⟨_, rfl, KF ⟨_, ht⟩ h2 F2 _ H2 (m1.trans m2)⟩
    have := K h2 F2
    simp only [putV, putE, putS, e, ne_eq, not_true, if_false, if_pos e2] at this
    exact this H2 (m1.trans m2)
  · have e : atE s o i = 0 := by simpa using e
    have e2 : behK s o ≠ 1 := by simpa using e2
    refine word_Number ⟨_, _, rfl, condI (fun e3 => ?_) fun e3 => ?_⟩
    · have e3 := not_eq_true_of e3
      have := K h1 F1
      simp only [putV, putE, putS, e, ne_eq, not_true, if_false, if_neg e2, e3, if_true] at this
      exact this H1 m1
    · have e3 := not_eq_false_of e3
      refine S.setByte H1 (fun h2 F2 H2 m2 => ⟨_, rfl, ?_⟩) fun he ht h2 F2 H2 m2 => ⟨_, rfl, KF ⟨_, ht⟩ h2 F2 _ H2 (m1.trans m2)⟩
      have := K h2 F2
      simp only [putV, putE, putS, e, ne_eq, not_true, if_false, if_neg e2, e3, Bool.true_eq_false] at this
      exact this H2 (m1.trans m2)
end
end Go.Hv.W

/- Primitives on numbers and on objects: over any memory. -/
namespace Go.Hv.W
open Go Go.Hv

/-! ### Numbers -/
def cmpF (n x y : Int) : Option Bool :=
  if n = 2 then some (decide (x < y)) else if n = 3 then some (decide (y < x)) else if n = 4 then some (decide (x ≤ y)) else if n = 5 then some (decide (y ≤ x)) else if n = 6 then some (x == y) else if n = 7 then some (x != y) else none
def truthV (b : Bool) : Int := if b then 4 else 6

theorem prim_compared {n x y : Int} {h : Heap} {R : Value → Heap → Prop} (K : R (.tuple #[.int .i64 (((cmpF n x y).map truthV).getD 0), .bool (cmpF n x y).isSome]) h) :
    HC P F_prim_compared #[.int .i64 n, .int .i64 x, .int .i64 y] h R := by
  refine S_prim_compared (condI (fun e => ?_) fun e2 => condI (fun e => ?_) fun e3 => condI (fun e => ?_) fun e4 => condI (fun e => ?_) fun e5 => condI (fun e => ?_) fun e6 => condI (fun e => ?_) fun e7 => ?_)
  · have e : n = 2 := by simpa using e
    simp only [cmpF, e, if_true] at K
    exact prim_truth ⟨_, rfl, K⟩
  · have e : n = 3 := by simpa using e
    subst e
    exact prim_truth ⟨_, rfl, K⟩
  · have e : n = 4 := by simpa using e
    subst e
    exact prim_truth ⟨_, rfl, K⟩
  · have e : n = 5 := by simpa using e
    subst e
    exact prim_truth ⟨_, rfl, K⟩
  · have e : n = 6 := by simpa using e
    subst e
    exact prim_truth ⟨_, rfl, K⟩
  · have e : n = 7 := by simpa using e
    subst e
    exact prim_truth ⟨_, rfl, K⟩
  · simp at e2 e3 e4 e5 e6 e7
    simp only [cmpF, e2, e3, e4, e5, e6, e7, if_false] at K
    exact K

def downQ (x y : Int) : Int := if Int.tmod x y ≠ 0 ∧ (decide (Int.tmod x y < 0) != decide (y < 0)) = true then Int.tdiv x y - 1 else Int.tdiv x y
def downR (x y : Int) : Int := if Int.tmod x y ≠ 0 ∧ (decide (Int.tmod x y < 0) != decide (y < 0)) = true then Int.tmod x y + y else Int.tmod x y

/-- a small number -/
structure Sm (x : Int) : Prop where
  lo : -1073741824 ≤ x
  hi : x ≤ 1073741823

theorem tdiv_bd {x y : Int} (hx : Sm x) (hy : y ≠ 0) : -1073741824 ≤ Int.tdiv x y ∧ Int.tdiv x y ≤ 1073741824 := by
  have h1 := Int.natAbs_tdiv_le_natAbs x y
  have := hx.lo
  have := hx.hi
  omega
theorem tmod_bd {x y : Int} (hx : Sm x) (hy : y ≠ 0) : -1073741824 ≤ Int.tmod x y ∧ Int.tmod x y ≤ 1073741824 := by
  have h1 : (Int.tmod x y).natAbs ≤ x.natAbs := by
    rw [Int.natAbs_tmod]
    exact Nat.mod_le _ _
  have := hx.lo
  have := hx.hi
  omega

theorem prim_down {x y : Int} {h : Heap} {R : Value → Heap → Prop} (hx : Sm x) (hy : Sm y) (h0 : y ≠ 0) (K : R (.tuple #[.int .i64 (downQ x y), .int .i64 (downR x y)]) h) : HC P F_prim_down #[.int .i64 x, .int .i64 y] h R := by
  have b1 := tdiv_bd hx h0
  have b2 := tmod_bd hx h0
  have b3 := hy.lo
  have b4 := hy.hi
  refine S_prim_down ⟨h0, ⟨by omega, by omega⟩, h0, fun J1 hJ1 => ?_⟩
  have no : ¬ (Int.tmod x y ≠ 0 ∧ (decide (Int.tmod x y < 0) != decide (y < 0)) = true) → J1 0 0 h := fun hn => hJ1 0 0 h (by simpa only [downQ, downR, if_neg hn] using K)
  refine condI (fun e => condI (fun e2 => ⟨⟨by omega, by omega⟩, ⟨by omega, by omega⟩, ?_⟩) fun e2 => no ?_) fun e => no ?_
  · have e : Int.tmod x y ≠ 0 := by simpa using e
    simpa only [downQ, downR, if_pos (And.intro e e2)] using K
  · intro hc; rw [hc.2] at e2; cases e2
  · intro hc; have : Int.tmod x y = 0 := by simpa using e
    exact hc.1 this

def numF (n x y : Int) : Int × Bool :=
  if n = 0 then (x + y, true) else if n = 1 then (x - y, true) else if n = 8 then (x * y, true) else if n = 14 then (andI .i64 x y, true) else if n = 15 then (orI .i64 x y, true)
  else if y = 0 ∨ (n ≠ 9 ∧ n ≠ 10 ∧ n ≠ 13) then (0, false) else if n = 10 then (downR x y, true) else if n = 13 then (downQ x y, true) else (downQ x y, downR x y == 0)

theorem mul_bd {x y : Int} (hx : Sm x) (hy : Sm y) : -1152921504606846976 ≤ x * y ∧ x * y ≤ 1152921504606846976 := by
  have h1 : (x * y).natAbs ≤ 1073741824 * 1073741824 := by
    rw [Int.natAbs_mul]
    exact Nat.mul_le_mul (by have := hx.lo; have := hx.hi; omega) (by have := hy.lo; have := hy.hi; omega)
  omega

theorem prim_number {n x y : Int} {h : Heap} {R : Value → Heap → Prop} (hx : Sm x) (hy : Sm y) (K : R (.tuple #[.int .i64 (numF n x y).1, .bool (numF n x y).2]) h) : HC P F_prim_number #[.int .i64 n, .int .i64 x, .int .i64 y] h R := by
  have := hx.lo
  have := hx.hi
  have := hy.lo
  have := hy.hi
  have bm := mul_bd hx hy
  refine S_prim_number fun J1 hJ1 => condI (fun e => ?_) fun e0 => condI (fun e => ?_) fun e1 => condI (fun e => ?_) fun e8 => condI (fun e => ?_) fun e14 => condI (fun e => ?_) fun e15 => condI (fun e => ?_) fun ey => ?_
  · have e : n = 0 := by simpa using e
    subst e
    exact ⟨⟨by omega, by omega⟩, K⟩
  · have e : n = 1 := by simpa using e
    subst e
    exact ⟨⟨by omega, by omega⟩, K⟩
  · have e : n = 8 := by simpa using e
    subst e
    exact ⟨⟨by omega, by omega⟩, K⟩
  · have e : n = 14 := by simpa using e
    subst e
    exact K
  · have e : n = 15 := by simpa using e
    subst e
    exact K
  · have e : y = 0 := by simpa using e
    simp at e0 e1 e8 e14 e15
    simp only [numF, e0, e1, e8, e14, e15, if_false, e, true_or, if_true] at K
    exact K
  · simp at e0 e1 e8 e14 e15 ey
    have go : (n = 9 ∨ n = 10 ∨ n = 13) → J1 false 0 h := fun hn => hJ1 false 0 h (prim_down hx hy ey ⟨_, _, rfl, by
      simp only [numF, e0, e1, e8, e14, e15, if_false, ey, false_or] at K
      rw [if_neg (by omega)] at K
      refine condI (fun e => ?_) fun e => condI (fun e' => ?_) fun e' => ?_
      · have e : n = 10 := by simpa using e
        simp only [e, if_true] at K
        exact K
      · have e : n ≠ 10 := by simpa using e
        have e' : n = 13 := by simpa using e'
        simp only [e', if_true] at K
        exact K
      · have e : n ≠ 10 := by simpa using e
        have e' : n ≠ 13 := by simpa using e'
        simp only [e, e', if_false] at K
        exact K⟩)
    refine condI (fun a => condI (fun b => condI (fun c => ?_) fun c => go ?_) fun b => go ?_) fun a => go ?_
    · simp at a b c
      simp only [numF, e0, e1, e8, e14, e15, if_false, ey, a, b, c, false_or, ne_eq, not_false_eq_true, and_self, if_true] at K
      exact K
    · simp at c; exact .inr (.inr c)
    · simp at b; exact .inr (.inl b)
    · simp at a; exact .inl a

/-- two references, reckoned with -/
def arF (n a b : Int) : Int × Bool :=
  if numB a = false ∨ numB b = false then (0, false) else
  match cmpF n (numV a) (numV b) with
  | some t => (truthV t, true)
  | none => if (numF n (numV a) (numV b)).2 = true ∧ smallOK (numF n (numV a) (numV b)).1 = true then (2 * (numF n (numV a) (numV b)).1 + 1, true) else (0, false)

theorem prim_Arith {n a b : Int} {h : Heap} {R : Value → Heap → Prop} (K : R (.tuple #[.int .i64 (arF n a b).1, .bool (arF n a b).2]) h) : HC P F_prim_Arith #[.int .i64 n, .int .i64 a, .int .i64 b] h R := by
  have na := numV_bounds a
  have nb := numV_bounds b
  refine S_prim_Arith (word_Number ⟨_, _, rfl, word_Number ⟨_, _, rfl, condI (fun e => ?_) fun e => condI (fun e2 => ?_) fun e2 => prim_compared ⟨_, _, rfl, condI (fun e3 => ?_) fun e3 => prim_number ⟨na.1, na.2⟩ ⟨nb.1, nb.2⟩ ⟨_, _, rfl, word_Small ⟨_, _, rfl, condI (fun e4 => ?_) fun e4 => condI (fun e5 => ?_) fun e5 => ?_⟩⟩⟩⟩⟩)
  · have e := not_eq_true_of e
    simp only [arF, e, true_or, if_true] at K
    exact K
  · have e2 := not_eq_true_of e2
    simp only [arF, e2, or_true, if_true] at K
    exact K
  all_goals have e := not_eq_false_of e
  all_goals have e2 := not_eq_false_of e2
  all_goals simp only [arF, e, e2, Bool.true_eq_false, or_self, if_false] at K
  · cases hc : cmpF n (numV a) (numV b) with
    | none => rw [hc] at e3; cases e3
    | some t => rw [hc] at K; exact K
  all_goals
    have hc : cmpF n (numV a) (numV b) = none := by
      cases hc : cmpF n (numV a) (numV b) with
      | none => rfl
      | some t => rw [hc] at e3; cases e3
    rw [hc] at K
    simp only at K
  · have e4 := not_eq_true_of e4
    rw [if_neg (by rw [e4]; simp)] at K
    exact K
  · have e4 := not_eq_false_of e4
    have e5 : smallOK (numF n (numV a) (numV b)).1 = false := by
      unfold smallE at e5
      cases hs : smallOK (numF n (numV a) (numV b)).1 with
      | false => rfl
      | true => rw [hs] at e5; simp at e5
    rw [if_neg (by rw [e5]; simp)] at K
    exact K
  · have e4 := not_eq_false_of e4
    have e5 : smallOK (numF n (numV a) (numV b)).1 = true := by
      unfold smallE at e5
      cases hs : smallOK (numF n (numV a) (numV b)).1 with
      | false => rw [hs] at e5; simp at e5
      | true => rfl
    rw [if_pos ⟨e4, e5⟩] at K
    simp only [smallV, e5, if_true]
    exact K

theorem arF_no {n a b : Int} (h : (arF n a b).2 = false) : (arF n a b).1 = 0 := by
  unfold arF at h ⊢
  split
  · rfl
  · rename_i h0
    rw [if_neg h0] at h
    split
    · rename_i t ht; rw [ht] at h; cases h
    · rename_i ht
      rw [ht] at h
      simp only at h ⊢
      split
      · rename_i h1; rw [if_pos h1] at h; cases h
      · rfl

theorem websterlaw16_known {h : Heap} {R : Value → Heap → Prop} (H : HasCounts h) (K : ∀ h', Fr [] h h' → R (.bool true) h') : HC P F_websterlaw16_known #[] h R := by
  have a1 : arF 13 (-13) 5 = (-7, true) := by decide
  have a2 : arF 10 (-13) 5 = (3, true) := by decide
  have a3 : arF 0 2147483647 3 = (0, false) := by decide
  have a4 : knownF 61 = some 2 := by decide
  refine S_websterlaw16_known (prim_Arith ⟨_, _, rfl, prim_Arith ⟨_, _, rfl, prim_Arith ⟨_, _, rfl, prim_Known H fun h1 f1 => ⟨_, _, rfl, ?_⟩⟩⟩⟩)
  rw [a1, a2, a3, a4]
  exact K h1 f1

/-! ### Objects -/
structure Out where
  v : Int
  e : Int
  s : St

def badL (l : List Int) : Bool := l.any fun x => decide (x < 0) || decide (1000 < x)
def instSize (s : St) (c : Int) (l : List Int) : Int := shF s c + l.sum
def instR (s : St) (c : Int) (l : List Int) : Out :=
  if shapeE s c ≠ 0 then ⟨0, shapeE s c, s⟩
  else if 1 < l.length ∨ badL l = true ∨ (l.length = 1 ∧ shM s c = false) then ⟨0, 2, s⟩
  else if newOK c (shK s c) (instSize s c l) = true then ⟨oopV (s.made + 1), 0, s.add (blankA c (shK s c) (instSize s c l))⟩ else ⟨0, 2, s⟩

/-- the numbers that are meant -/
def kOf (x : Int) : Int := if numB x then numV x else -1

def objR (s : St) (n o : Int) (l : List Int) : Out :=
  if n = 60 then ⟨getV s o (l.getD 0 0), getE' s o (l.getD 0 0), s⟩
  else if n = 61 then ⟨putV s o (l.getD 0 0) (l.getD 1 0), putE s o (l.getD 0 0) (l.getD 1 0), putS s o (l.getD 0 0) (l.getD 1 0)⟩
  else if n = 62 then ⟨if behE s o ≠ 0 then 0 else smallV (behN s o), if behE s o ≠ 0 then behE s o else smallE (behN s o), s⟩
  else if n = 70 ∨ n = 71 then instR s o (l.map kOf)
  else if n = 72 then ⟨o, becomeE s o (l.getD 0 0), becomeS s o (l.getD 0 0)⟩
  else if n = 73 then ⟨fetchV s o (kOf (l.getD 0 0) - 1), fetchE s o (kOf (l.getD 0 0) - 1), s⟩
  else if n = 74 then ⟨l.getD 1 0, setE' s o (kOf (l.getD 0 0) - 1) (l.getD 1 0), setS s o (kOf (l.getD 0 0) - 1) (l.getD 1 0)⟩
  else if n = 75 then (if namB o then ⟨smallV (namV o), smallE (namV o), s⟩ else ⟨0, 4, s⟩)
  else if n = 76 then ⟨if 0 < s.nextId (namV o) then oopV (s.nextId (namV o)) else 2, 0, s⟩
  else if n = 110 then ⟨truthV (o == l.getD 0 0), 0, s⟩
  else ⟨clsOfV s o, clsOfE s o, s⟩

section
variable {v : Value} {Rep : Heap → List Nat → St → Prop} {Tight : St → Prop} (S : Sto v Rep Tight) {h : Heap} {F : List Nat} {s : St} (H : Rep h F s) {R : Value → Heap → Prop}
include S H

theorem kit_Instance' {c : Int} {sl : Sl} {l : List Int} (hs : SlI h sl .i64 l) (hd : ∀ k ∈ sl.blk, k ∉ F) (hl : l.length ≤ 1000) (hm : s.made < 4611686018427387904)
    (K : ∀ h' F', Rep h' F' (instR s c l).s → Mv F h F' h' → R (.tuple #[.int .i64 (instR s c l).v, .int .i64 (instR s c l).e]) h')
    (KF : (∃ t, Tight t) → ∀ h' F', Rep h' F' s → Mv F h F' h' → R (.tuple #[.int .i64 0, .int .i64 3]) h') : HC P F_kit_Instance #[v, .int .i64 c, .slice sl.a sl.n sl.c] h R := by
  have sz : ∀ size, (l = [] ∧ size = shF s c) ∨ (∃ x, l = [x] ∧ 0 ≤ x ∧ x ≤ 1000 ∧ shM s c = true ∧ size = shF s c + x) → size = instSize s c l ∧ ¬ (1 < l.length ∨ badL l = true ∨ (l.length = 1 ∧ shM s c = false)) := by
    intro size hsz
    rcases hsz with ⟨rfl, rfl⟩ | ⟨x, rfl, h0, h1, h2, rfl⟩
    · simp [instSize, badL]
    · simp [instSize, badL, h2]; omega
  refine kit_Instance S H hs hd hl hm (fun e he h' F' H' m' => ?_) (fun e0 size hsz hok h' F' H' m' => ?_) (fun e0 size hsz hok h' F' H' m' => ?_) KF
  · have K := K h' F'
    rcases he with ⟨h1, rfl⟩ | ⟨h1, h2, rfl⟩
    · simp only [instR, if_pos h1] at K
      exact K H' m'
    · have h3 : 1 < l.length ∨ badL l = true ∨ (l.length = 1 ∧ shM s c = false) := by
        rcases h2 with h2 | ⟨x, hx, h2⟩ | h2
        · exact .inl h2
        · refine .inr (.inl ?_)
          simp only [badL, List.any_eq_true, Bool.or_eq_true, decide_eq_true_eq]
          exact ⟨x, hx, h2⟩
        · exact .inr (.inr h2)
      simp only [instR, h1, ne_eq, not_true, if_false, if_pos h3] at K
      exact K H' m'
  · obtain ⟨rfl, h3⟩ := sz size hsz
    have K := K h' F'
    simp only [instR, e0, ne_eq, not_true, if_false, if_neg h3, hok, if_true] at K
    exact K H' m'
  · obtain ⟨rfl, h3⟩ := sz size hsz
    have K := K h' F'
    simp only [instR, e0, ne_eq, not_true, if_false, if_neg h3, hok, Bool.false_eq_true] at K
    exact K H' m'

theorem prim_objects {n o : Int} {sl : Sl} {l : List Int} (hs : SlX h sl .i64 l) (hd : ∀ k ∈ blkL sl l, k ∉ F) (hl : l.length ≤ 1000) (hm : s.made < 4611686018427387904) (hn : knownF n = some (l.length : Int))
    (K : ∀ h' F', Rep h' F' (objR s n o l).s → Mv F h F' h' → R (.tuple #[.int .i64 (objR s n o l).v, .int .i64 (objR s n o l).e]) h')
    (KF : (∃ t, Tight t) → ∀ h' F' v, Rep h' F' s → Mv F h F' h' → R (.tuple #[.int .i64 v, .int .i64 3]) h') : HC P F_prim_objects #[v, .int .i64 n, .int .i64 o, .slice sl.a sl.n sl.c] h R := by
  have hlen := hs.len
  refine S_prim_objects ⟨fun z s1 h' => 0 ≤ z ∧ z ≤ l.length ∧ SlG h' s1 .i64 ((l.take z.toNat).map kOf) ∧ Fr [] h h' ∧ (∀ b ∈ s1.blk, h.size ≤ b), fun z s1 h' => (l.length - z).toNat, ⟨Int.le_refl _, by omega, by simpa using SlG.empty h .i64, Fr.refl _ _, by simp [Sl.blk]⟩, fun z s1 h1 I => ?_⟩
  obtain ⟨i0, i1, G1, f1, b1⟩ := I
  have hs1 := hs.fr f1 (by simp)
  refine condI (fun e => ?_) fun e => ?_
  · have e := of_decide_eq_true e
    have hlt : z.toNat < l.length := by omega
    obtain ⟨p, hp⟩ := hs1.addr hlt
    intro J1 hJ1
    rw [hp, oE_some, Nat.mul_one]
    refine ⟨i0, e, _, hs1.cell hp (List.getElem?_eq_getElem hlt), word_Number ⟨_, _, rfl, fun J2 hJ2 => ?_⟩⟩
    have step : J2 (kOf l[z.toNat]) h1 := by
      refine hJ2 _ h1 (box_new fun h3 g3 f3 s3 => ?_)
      have G3 := G1.fr f3 (by simp)
      have X : SlI h3 ⟨some ⟨h1.size, 0, none⟩, 1, 1⟩ .i64 [kOf l[z.toNat]] := ⟨rfl, fun e => (by cases e), fun q hq => by
        cases hq
        exact ⟨rfl, _, _, _, g3, by simp, fun i hi => by
          have : i = 0 := by simp at hi; omega
          subst this; rfl⟩⟩
      have l1 := G1.is.len
      simp only [List.length_map, List.length_take] at l1
      refine ⟨G3.appOK X (by omega) (by simp only; omega), rfl, fun s2 h4 A => hJ1 s2 h4 ?_⟩
      obtain ⟨a1, a2, a3⟩ := G3.appended X A
      have f4 : Fr [] h h4 := (f1.trans' f3).trans a2 fun k hk => .inr (b1 k hk)
      refine ⟨⟨by omega, by omega⟩, ⟨by omega, by omega, ?_, f4, fun b hb => ?_⟩, by show Int.toNat _ < Int.toNat _; omega⟩
      · rw [show (z + 1).toNat = z.toNat + 1 by omega, List.take_add_one, List.getElem?_eq_getElem hlt, List.map_append]
        exact a1
      · rcases a3 b hb with hb | hb
        · exact b1 b hb
        · have := f1.size; have := f3.size; omega
    unfold kOf at step
    refine condI (fun e2 => ?_) fun e2 => ?_
    · rw [not_eq_true_of e2] at step; exact step
    · rw [not_eq_false_of e2] at step; exact step
  · have e : ¬ z < (sl.n : Int) := by simpa using e
    have hall : l.take z.toNat = l := List.take_of_length_le (by omega)
    rw [hall] at G1
    have H1 := S.fr H f1 (by simp)
    have m1 : Mv F h F h1 := Mv.grow f1
    have hn1 := G1.is.len
    rw [List.length_map] at hn1
    have hkF : ∀ k ∈ s1.blk, k ∉ F := fun k hk hm => by have := b1 k hk; have := S.lt H k hm; omega
    -- an argument is read
    have arg : ∀ i : Nat, i < l.length → ∃ p, sl.a = some p ∧ cellH h1 (p.add i) = some (.int .i64 (l.getD i 0)) := fun i hi => by
      obtain ⟨p, hp⟩ := hs1.addr hi
      refine ⟨p, hp, hs1.cell hp ?_⟩
      rw [List.getD_eq_getElem?_getD, List.getElem?_eq_getElem hi]
      rfl
    have arg0 : ∀ p, cellH h1 (p.add 0) = cellH h1 p := fun p => rfl
    have karg : ∀ i : Nat, i < l.length → ∃ p, s1.a = some p ∧ cellH h1 (p.add i) = some (.int .i64 (kOf (l.getD i 0))) := fun i hi => by
      obtain ⟨p, hp⟩ := G1.is.addr (by simpa using hi)
      refine ⟨p, hp, G1.is.cell hp ?_⟩
      rw [List.getElem?_map, List.getD_eq_getElem?_getD, List.getElem?_eq_getElem hi]
      rfl
    have kb : ∀ x, -1073741824 ≤ kOf x ∧ kOf x ≤ 1073741823 := fun x => by
      have := numV_bounds x
      unfold kOf
      split <;> omega
    have num : ∀ m k, n = m → knownF m = some k → (l.length : Int) = k := fun m k h1 h2 => by
      rw [h1, h2] at hn
      simpa using hn.symm
    intro J1 hJ1
    refine condI (fun e => ?_) fun e60 => condI (fun e => ?_) fun e61 => condI (fun e => ?_) fun e62 => condI (fun e => ?_) fun e70 => condI (fun e => ?_) fun e71 => condI (fun e => ?_) fun e72 => condI (fun e => ?_) fun e73 =>
      condI (fun e => ?_) fun e74 => condI (fun e => ?_) fun e75 => condI (fun e => ?_) fun e76 => condI (fun e => ?_) fun e110 => ?_
    · have e : n = 60 := by simpa using e
      have hl1 := num 60 1 e (by decide)
      subst e
      obtain ⟨p, hp, hc⟩ := arg 0 (by omega)
      rw [hp, oE_some]
      exact ⟨by omega, by omega, _, hc, prim_get S H1 (fun h2 F2 H2 m2 => ⟨_, _, rfl, K h2 F2 H2 (m1.trans m2)⟩) fun ht h2 F2 H2 m2 => ⟨_, _, rfl, KF ⟨_, ht⟩ h2 F2 _ H2 (m1.trans m2)⟩⟩
    · have e : n = 61 := by simpa using e
      have hl1 := num 61 2 e (by decide)
      subst e
      obtain ⟨p, hp, hc⟩ := arg 0 (by omega)
      obtain ⟨p', hp', hc'⟩ := arg 1 (by omega)
      rw [hp, oE_some]
      rw [hp] at hp'
      cases hp'
      exact ⟨by omega, by omega, _, hc, by omega, by omega, _, hc', prim_put S H1 (fun h2 F2 H2 m2 => ⟨_, _, rfl, K h2 F2 H2 (m1.trans m2)⟩) fun ht h2 F2 w H2 m2 => ⟨_, _, rfl, KF ht h2 F2 _ H2 (m1.trans m2)⟩⟩
    · have e : n = 62 := by simpa using e
      subst e
      exact prim_behind S H1 (fun h2 F2 H2 m2 => ⟨_, _, _, _, rfl, prim_small ⟨_, _, rfl, K h2 F2 H2 (m1.trans m2)⟩⟩) fun ht h2 F2 n k h0 hn H2 m2 => ⟨_, _, _, _, rfl, prim_small ⟨_, _, rfl, KF ⟨_, ht⟩ h2 F2 _ H2 (m1.trans m2)⟩⟩
    · have e : n = 70 := by simpa using e
      subst e
      exact kit_Instance' S H1 G1.is hkF (by simpa using hl) hm (fun h2 F2 H2 m2 => ⟨_, _, rfl, K h2 F2 H2 (m1.trans m2)⟩) fun ht h2 F2 H2 m2 => ⟨_, _, rfl, KF ht h2 F2 _ H2 (m1.trans m2)⟩
    · have e : n = 71 := by simpa using e
      subst e
      exact kit_Instance' S H1 G1.is hkF (by simpa using hl) hm (fun h2 F2 H2 m2 => ⟨_, _, rfl, K h2 F2 H2 (m1.trans m2)⟩) fun ht h2 F2 H2 m2 => ⟨_, _, rfl, KF ht h2 F2 _ H2 (m1.trans m2)⟩
    · have e : n = 72 := by simpa using e
      have hl1 := num 72 1 e (by decide)
      subst e
      obtain ⟨p, hp, hc⟩ := arg 0 (by omega)
      rw [hp, oE_some]
      exact ⟨by omega, by omega, _, hc, S.hn _ (by simp), S.become H1 (fun h2 F2 H2 m2 => ⟨_, rfl, K h2 F2 H2 (m1.trans m2)⟩) fun _ ht h2 F2 H2 m2 => ⟨_, rfl, KF ⟨_, ht⟩ h2 F2 _ H2 (m1.trans m2)⟩⟩
    · have e : n = 73 := by simpa using e
      have hl1 := num 73 1 e (by decide)
      subst e
      obtain ⟨p, hp, hc⟩ := karg 0 (by omega)
      have := kb (l.getD 0 0)
      rw [hp, oE_some]
      exact ⟨by omega, by omega, _, hc, ⟨by omega, by omega⟩, S.hn _ (by simp), S.fetch H1 (fun h2 F2 H2 m2 => ⟨_, _, rfl, K h2 F2 H2 (m1.trans m2)⟩) fun _ ht h2 F2 H2 m2 => ⟨_, _, rfl, KF ⟨_, ht⟩ h2 F2 _ H2 (m1.trans m2)⟩⟩
    · have e : n = 74 := by simpa using e
      have hl1 := num 74 2 e (by decide)
      subst e
      obtain ⟨p, hp, hc⟩ := karg 0 (by omega)
      obtain ⟨q, hq, hc'⟩ := arg 1 (by omega)
      have := kb (l.getD 0 0)
      have stay : ∀ h2 F2, Mv F h1 F2 h2 → cellH h2 (q.add 1) = some (.int .i64 (l.getD 1 0)) := fun h2 F2 m2 => by
        obtain ⟨hs2, _⟩ := m2.slx hs1 hd
        have h11 : 1 < l.length := by omega
        refine hs2.cell hq ?_
        rw [List.getD_eq_getElem?_getD, List.getElem?_eq_getElem h11]
        rfl
      rw [hp, hq, oE_some]
      simp only [oE_some]
      exact ⟨by omega, by omega, _, hc', by omega, by omega, _, hc, ⟨by omega, by omega⟩, by omega, by omega, _, hc', S.hn _ (by simp),
        S.set H1 (fun h2 F2 H2 m2 => ⟨_, rfl, ⟨_, stay h2 F2 m2, rfl⟩, K h2 F2 H2 (m1.trans m2)⟩) fun _ ht h2 F2 H2 m2 => ⟨_, rfl, ⟨_, stay h2 F2 m2, rfl⟩, KF ⟨_, ht⟩ h2 F2 _ H2 (m1.trans m2)⟩⟩
    · have e : n = 75 := by simpa using e
      subst e
      have K := K h1 F
      refine word_Named ⟨_, _, rfl, condI (fun e => ?_) fun e => word_Small ⟨_, _, rfl, ?_⟩⟩
      · have e := not_eq_true_of e
        simp only [objR, e] at K
        exact K H1 m1
      · have e := not_eq_false_of e
        simp only [objR, e] at K
        exact K H1 m1
    · have e : n = 76 := by simpa using e
      subst e
      refine S.next H1 fun h2 F2 H2 m2 => ⟨_, _, rfl, ?_⟩
      have K := K h2 F2 H2 (m1.trans m2)
      refine condI (fun e => ?_) fun e => ?_
      · have e := of_decide_eq_true e
        simp only [objR, e] at K
        exact K
      · have e : ¬ 0 < s.nextId (namV o) := by simpa using e
        simp only [objR, e] at K
        exact K
    · have e : n = 110 := by simpa using e
      have hl1 := num 110 1 e (by decide)
      subst e
      obtain ⟨p, hp, hc⟩ := arg 0 (by omega)
      rw [hp, oE_some]
      exact ⟨by omega, by omega, _, hc, prim_truth ⟨_, rfl, K h1 F H1 m1⟩⟩
    · simp at e60 e61 e62 e70 e71 e72 e73 e74 e75 e76 e110
      have he : objR s n o l = ⟨clsOfV s o, clsOfE s o, s⟩ := by
        simp [objR, e60, e61, e62, e70, e71, e72, e73, e74, e75, e76, e110]
      rw [he] at K
      exact hJ1 0 0 h1 (kit_ClassOf S H1 (fun h2 F2 H2 m2 => ⟨_, _, rfl, K h2 F2 H2 (m1.trans m2)⟩) fun _ ht h2 F2 H2 m2 => ⟨_, _, rfl, KF ⟨_, ht⟩ h2 F2 _ H2 (m1.trans m2)⟩)
end
end Go.Hv.W

/- A primitive is done: over any memory. -/
namespace Go.Hv.W
open Go Go.Hv

def arithL : List Int := [0, 0, 1, 2, 3, 4, 5, 6, 7, 8, 9, 10, 13, 0, 14, 15]

structure DoOut where
  v : Int
  b : Bool
  e : Int
  s : St

/-- what a primitive on objects comes to -/
def doneR (o : Out) : DoOut := if o.e = 0 then ⟨o.v, true, 0, o.s⟩ else if o.e = 3 then ⟨0, false, 3, o.s⟩ else ⟨0, false, 0, o.s⟩

def isSum (n : Int) : Bool := [21, 22, 29].any fun y => n == y

def doR (sums : St → Int → Int → Int → Out) (s : St) (n r : Int) (l : List Int) : DoOut :=
  if knownF n ≠ some (l.length : Int) then ⟨0, false, 0, s⟩
  else if n < 16 then ⟨(arF (arithL.getD n.toNat 0) r (l.getD 0 0)).1, (arF (arithL.getD n.toNat 0) r (l.getD 0 0)).2, 0, s⟩
  else if isSum n then doneR (sums s n r (l.getD 0 0)) else doneR (objR s n r l)

theorem known_pos {n k : Int} (h : knownF n = some k) : 1 ≤ n ∧ (n < 16 → k = 1) ∧ (isSum n = true → k = 1) ∧ 0 ≤ k := by
  unfold knownF at h
  cases hf : countsL.find? fun p => p.1 == n with
  | none => rw [hf] at h; cases h
  | some p =>
    rw [hf] at h
    simp only [Option.map_some, Option.some.injEq] at h
    have hm := List.mem_of_find?_eq_some hf
    have hp : p.1 = n := by simpa using List.find?_some hf
    have all : ∀ p ∈ countsL, 1 ≤ p.1 ∧ (p.1 < 16 → p.2 = 1) ∧ (isSum p.1 = true → p.2 = 1) ∧ 0 ≤ p.2 := by decide
    have := all p hm
    rw [hp, h] at this
    exact this

section
variable {v : Value} {Rep : Heap → List Nat → St → Prop} {Tight : St → Prop} (S : Sto v Rep Tight) {h : Heap} {F : List Nat} {s : St} (H : Rep h F s) {R : Value → Heap → Prop}
include S H

theorem prim_Do {sums : St → Int → Int → Int → Out} {n r : Int} {sl : Sl} {l : List Int} (hC : HasCounts h) (hCF : G_prim_counts ∉ F) (hs : SlX h sl .i64 l) (hd : ∀ k ∈ blkL sl l, k ∉ F) (hl : l.length ≤ 1000) (hm : s.made < 4611686018427387904)
    (hsum : isSum n = true → knownF n = some 1 → ∀ h1 (R' : Value → Heap → Prop), Rep h1 F s → Fr [] h h1 → (∀ h' F', Rep h' F' (sums s n r (l.getD 0 0)).s → Mv F h1 F' h' → R' (.tuple #[.int .i64 (sums s n r (l.getD 0 0)).v, .int .i64 (sums s n r (l.getD 0 0)).e]) h') →
      ((∃ t, Tight t) → ∀ h' F' v s', Rep h' F' s' → Mv F h1 F' h' → R' (.tuple #[.int .i64 v, .int .i64 3]) h') → HC P F_prim_sums #[v, .int .i64 n, .int .i64 r, .int .i64 (l.getD 0 0)] h1 R')
    (K : ∀ h' F', Rep h' F' (doR sums s n r l).s → Mv F h F' h' → R (.tuple #[.int .i64 (doR sums s n r l).v, .bool (doR sums s n r l).b, .int .i64 (doR sums s n r l).e]) h')
    (KF : (∃ t, Tight t) → ∀ h' F' s', Rep h' F' s' → Mv F h F' h' → R (.tuple #[.int .i64 0, .bool false, .int .i64 3]) h') : HC P F_prim_Do #[v, .int .i64 n, .int .i64 r, .slice sl.a sl.n sl.c] h R := by
  have hlen := hs.len
  refine S_prim_Do (prim_Known hC fun h1 f1 => ⟨_, _, rfl, ?_⟩)
  have H1 := S.fr H f1 (by simp)
  have m1 : Mv F h F h1 := Mv.grow f1
  have no : knownF n ≠ some (l.length : Int) → R (.tuple #[.int .i64 0, .bool false, .int .i64 0]) h1 := fun hk => by
    have := K h1 F
    simp only [doR, if_pos hk] at this
    exact this H1 m1
  refine condI (fun e => no ?_) fun e => condI (fun e2 => no ?_) fun e2 => ?_
  · have e := not_eq_true_of e
    cases hk : knownF n with
    | none => simp
    | some k => rw [hk] at e; cases e
  · have e2 : (knownF n).getD 0 ≠ (sl.n : Int) := by simpa using e2
    intro hk
    rw [hk] at e2
    simp only [Option.getD_some] at e2
    omega
  · have e := not_eq_false_of e
    have e2 : (knownF n).getD 0 = (sl.n : Int) := by simpa using e2
    have hk : knownF n = some (l.length : Int) := by
      cases hk : knownF n with
      | none => rw [hk] at e; cases e
      | some k => rw [hk] at e2; simp only [Option.getD_some] at e2; rw [e2, hlen]
    obtain ⟨k1, k2, k3, _⟩ := known_pos hk
    have arg0 : ∀ h', Fr [] h h' → l.length = 1 → ∃ p, sl.a = some p ∧ cellH h' (p.add 0) = some (.int .i64 (l.getD 0 0)) := fun h' f' hl1 => by
      have hs' := hs.fr f' (by simp)
      have h0 : 0 < l.length := by omega
      obtain ⟨p, hp⟩ := hs'.addr h0
      refine ⟨p, hp, hs'.cell hp ?_⟩
      rw [List.getD_eq_getElem?_getD, List.getElem?_eq_getElem h0]
      rfl
    have K' : ∀ (o : Out), doR sums s n r l = doneR o → ∀ h' F', Rep h' F' o.s → Mv F h F' h' →
        (cond (o.e == 0) (R (.tuple #[.int .i64 o.v, .bool true, .int .i64 0]) h') (cond (o.e == 3) (R (.tuple #[.int .i64 0, .bool false, .int .i64 o.e]) h') (R (.tuple #[.int .i64 0, .bool false, .int .i64 0]) h'))) := by
      intro o ho h' F' H' m'
      have K := K h' F'
      rw [ho] at K
      unfold doneR at K
      refine condI (fun a => ?_) fun a => condI (fun b => ?_) fun b => ?_
      · have a : o.e = 0 := by simpa using a
        simp only [a, if_true] at K
        exact K H' m'
      · have a : o.e ≠ 0 := by simpa using a
        have b : o.e = 3 := by simpa using b
        rw [if_neg a, if_pos b] at K
        rw [b]
        exact K H' m'
      · have a : o.e ≠ 0 := by simpa using a
        have b : o.e ≠ 3 := by simpa using b
        rw [if_neg a, if_neg b] at K
        exact K H' m'
    refine box_new fun h2 g2 f2 s2 => ?_
    intro J1 hJ1
    refine condI (fun a => ?_) fun a => ?_
    · have a := of_decide_eq_true a
      have f12 := f1.trans' f2
      obtain ⟨p, hp, hc⟩ := arg0 h2 f12 (by have := k2 a; omega)
      rw [hp, Nat.mul_one, add_add, cellH_of g2, Nat.zero_add]
      simp only [oE_some]
      have hidx : (#[Value.int .i64 0, .int .i64 0, .int .i64 1, .int .i64 2, .int .i64 3, .int .i64 4, .int .i64 5, .int .i64 6, .int .i64 7, .int .i64 8, .int .i64 9, .int .i64 10, .int .i64 13, .int .i64 0, .int .i64 14, .int .i64 15] : Array Value)[n.toNat]? = some (.int .i64 (arithL.getD n.toNat 0)) := by
        have hb : n.toNat < 16 := by omega
        generalize n.toNat = m at hb ⊢
        match m, hb with
        | 0, _ | 1, _ | 2, _ | 3, _ | 4, _ | 5, _ | 6, _ | 7, _ | 8, _ | 9, _ | 10, _ | 11, _ | 12, _ | 13, _ | 14, _ | 15, _ => rfl
        | k + 16, hb => omega
      refine ⟨by omega, a, _, hidx, by omega, by have := k2 a; omega, _, hc, prim_Arith ⟨_, _, rfl, ?_⟩⟩
      have := K h2 F
      simp only [doR, hk, ne_eq, not_true, if_false, if_pos a] at this
      exact this (S.fr H1 f2 (by simp)) (m1.trans (Mv.grow f2))
    · have a : ¬ n < 16 := by simpa using a
      refine box_new fun h3 g3 f3 s3 => ?_
      have f13 := (f1.trans' f2).trans' f3
      have H3 := S.fr H f13 (by simp)
      have m3 : Mv F h F h3 := Mv.grow f13
      have X : SlI h3 ⟨some ⟨h2.size, 0, none⟩, 3, 3⟩ .i64 [21, 22, 29] := ⟨rfl, fun e => (by cases e), fun q hq => by
        cases hq
        exact ⟨rfl, _, _, _, g3, by simp, fun i hi => by
          match i, hi with
          | 0, _ | 1, _ | 2, _ => rfl
          | k + 3, hi => simp at hi; omega⟩⟩
      refine slices_Contains_int X (by simp) ⟨_, rfl, ?_⟩
      have hi : ([21, 22, 29].any fun y => n == y) = isSum n := rfl
      rw [hi]
      refine condI (fun b => ?_) fun b => ?_
      · obtain ⟨p, hp, hc⟩ := arg0 h3 f13 (by have := k3 b; omega)
        have hk1 : knownF n = some 1 := by rw [hk, k3 b]
        have ho : doR sums s n r l = doneR (sums s n r (l.getD 0 0)) := by simp only [doR, hk, ne_eq, not_true, if_false, if_neg a, b, if_true]
        rw [hp, oE_some]
        exact ⟨by omega, by have := k3 b; omega, _, hc, hsum b hk1 h3 _ H3 f13 (fun h4 F4 H4 m4 => ⟨_, _, rfl, hJ1 _ _ _ _ _ _ (K' _ ho h4 F4 H4 (m3.trans m4))⟩)
          fun ht h4 F4 w s' H4 m4 => ⟨_, _, rfl, hJ1 _ _ _ _ _ _ (KF ht h4 F4 s' H4 (m3.trans m4))⟩⟩
      · have ho : doR sums s n r l = doneR (objR s n r l) := by simp only [doR, hk, ne_eq, not_true, if_false, if_neg a, b, Bool.false_eq_true]
        refine prim_objects S H3 (hs.fr f13 (by simp)) hd hl hm hk (fun h4 F4 H4 m4 => ⟨_, _, rfl, hJ1 _ _ _ _ _ _ (K' _ ho h4 F4 H4 (m3.trans m4))⟩) fun ht h4 F4 w H4 m4 => ⟨_, _, rfl, hJ1 _ _ _ _ _ _ (KF ht h4 F4 s H4 (m3.trans m4))⟩
end
end Go.Hv.W

/- Lists of objects; loading them into a memory. -/
namespace Go.Hv.W
open Go Go.Hv

/-- bytes -/
def bytesOK (l : List Int) : Prop := ∀ x ∈ l, 0 ≤ x ∧ x ≤ 255

/-- a slice of objects; its blocks are of B -/
structure SlO (h : Heap) (s : Sl) (l : List AO) (B : List Nat) : Prop where
  len : s.n = l.length
  nil : s.a = none → l = []
  blk : ∀ p, s.a = some p → l ≠ [] → p.block ∈ B
  lt : ∀ k ∈ B, k < h.size
  get : ∀ p, s.a = some p → l ≠ [] → p.spot = none ∧ ∃ cs T q, h[p.block]? = some (.cells cs T q) ∧ p.off + 4 * l.length ≤ cs.size ∧ ∀ i a, l[i]? = some a → ∃ sw sb : Sl,
    cs[p.off + i * 4]? = some (.int .i64 a.cls) ∧ cs[p.off + i * 4 + 1]? = some (.int .i64 a.kind) ∧ cs[p.off + i * 4 + 2]? = some (.slice sw.a sw.n sw.c) ∧ cs[p.off + i * 4 + 3]? = some (.slice sb.a sb.n sb.c) ∧
    SlX h sw .i64 a.w ∧ SlX h sb .u8 a.b ∧ (∀ k ∈ blkL sw a.w ++ blkL sb a.b, k ∈ B) ∧ bytesOK a.b

theorem SlO.fr {F : List Nat} {h h' : Heap} {s : Sl} {l : List AO} {B : List Nat} (H : SlO h s l B) (x : Fr F h h') (hF : ∀ b ∈ B, b ∉ F) : SlO h' s l B := by
  refine ⟨H.len, H.nil, H.blk, fun k hk => Nat.lt_of_lt_of_le (H.lt k hk) x.size, fun p hp hl => ?_⟩
  obtain ⟨h0, cs, T, q, h1, h2, h3⟩ := H.get p hp hl
  refine ⟨h0, cs, T, q, x.get h1 (hF _ (H.blk p hp hl)), h2, fun i a ha => ?_⟩
  obtain ⟨sw, sb, c0, c1, c2, c3, w, b, hb, ho⟩ := h3 i a ha
  exact ⟨sw, sb, c0, c1, c2, c3, w.fr x fun k hk => hF k (hb k (by simp [hk])), b.fr x fun k hk => hF k (hb k (by simp [hk])), hb, ho⟩

theorem Mv.slO {F G : List Nat} {a b : Heap} (x : Mv F a G b) {s : Sl} {l : List AO} {B : List Nat} (H : SlO a s l B) (hf : ∀ k ∈ B, k ∉ F) : SlO b s l B ∧ ∀ k ∈ B, k ∉ G :=
  ⟨H.fr x.fr hf, fun k hk => x.out (H.lt k hk) (hf k hk)⟩

/-- an element is read -/
theorem SlO.at {h : Heap} {s : Sl} {l : List AO} {B : List Nat} (H : SlO h s l B) {i : Nat} {a : AO} (hi : l[i]? = some a) :
    ∃ p sw sb, s.a = some p ∧ cellH h (Addr.add (Addr.add p (i * 4)) 0) = some (.int .i64 a.cls) ∧ cellH h (Addr.add (Addr.add p (i * 4)) 1) = some (.int .i64 a.kind) ∧
      cellH h (Addr.add (Addr.add p (i * 4)) 2) = some (.slice sw.a sw.n sw.c) ∧ cellH h (Addr.add (Addr.add p (i * 4)) 3) = some (.slice sb.a sb.n sb.c) ∧ SlX h sw .i64 a.w ∧ SlX h sb .u8 a.b ∧ (∀ k ∈ blkL sw a.w ++ blkL sb a.b, k ∈ B) ∧ bytesOK a.b := by
  cases hs : s.a with
  | none => have := H.nil hs; subst this; simp at hi
  | some p =>
    obtain ⟨h0, cs, T, q, h1, h2, h3⟩ := H.get p hs fun e => by subst e; simp at hi
    obtain ⟨sw, sb, c0, c1, c2, c3, w, b, hb, ho⟩ := h3 i a hi
    obtain ⟨pb, po, ps⟩ := p
    simp only at h0
    subst h0
    refine ⟨_, sw, sb, rfl, ?_, ?_, ?_, ?_, w, b, hb, ho⟩
    all_goals rw [add_add, add_add, cellH_of h1]
    · exact c0
    · exact c1
    · exact c2
    · exact c3

/-! ### May it be? -/
def chkB (a : AO) : Bool := namB a.cls && ((a.kind == 1 && (a.b.length == 0 && (decide (a.w.length ≤ 1000) && !(a.w.any fun x => !refB x)))) || (a.kind == 2 && (a.w.length == 0 && decide (a.b.length ≤ 1000))))

theorem chkB_ok {a : AO} (h : chkB a = true) (hb : bytesOK a.b) : a.OK := by
  simp only [chkB, Bool.and_eq_true, Bool.or_eq_true, beq_iff_eq, decide_eq_true_eq, Bool.not_eq_true', List.length_eq_zero_iff] at h
  obtain ⟨h0, h1⟩ := h
  refine ⟨h0, ?_⟩
  rcases h1 with ⟨a1, a2, a3, a4⟩ | ⟨a1, a2, a3⟩
  · refine .inl ⟨a1, a2, a3, fun x hx => ?_⟩
    have := List.any_eq_false.1 a4 x hx
    simpa using this
  · exact .inr ⟨a1, a2, a3, hb⟩

theorem wide_ref {o : Int} {h : Heap} {R : Value → Heap → Prop} (K : R (.bool (refB o)) h) : HC P F_wide_ref #[.int .i64 o] h R := by
  refine S_wide_ref (word_Number ⟨_, _, rfl, word_Named ⟨_, _, rfl, condI (fun e => ?_) fun e => ?_⟩⟩)
  · simpa [refB, e] using K
  · simpa [refB, e] using K

theorem wide_Check {a : AO} {sw sb : Sl} {h : Heap} {R : Value → Heap → Prop} (Hw : SlX h sw .i64 a.w) (Hb : SlX h sb .u8 a.b) (K : ∀ h', Fr [] h h' → R (.int .i64 (if chkB a then 0 else 2)) h') :
    HC P F_wide_Check #[.agg #[.int .i64 a.cls, .int .i64 a.kind, .slice sw.a sw.n sw.c, .slice sb.a sb.n sb.c]] h R := by
  have lw := Hw.len
  have lb := Hb.len
  refine S_wide_Check (box_new fun h1 g1 f1 s1 => ?_)
  have g1 : h1[h.size]? = some (.cells (objCells a.cls a.kind sw sb) T_api_Obj (0, 0)) := g1
  have K := K h1 f1
  simp only [add_add, cellH_of g1]
  refine ⟨_, rfl, word_Named ⟨_, _, rfl, fun J1 hJ1 => ?_⟩⟩
  simp only [cellH_of g1]
  refine ⟨_, rfl, ?_⟩
  have fin : ∀ b, chkB a = b → J1 b h1 := fun b hb => hJ1 b h1 (by
    rw [hb] at K
    cases b <;> exact K)
  have hc : chkB a = (namB a.cls && ((a.kind == 1 && (a.b.length == 0 && (decide (a.w.length ≤ 1000) && !(a.w.any fun x => !refB x)))) || (a.kind == 2 && (a.w.length == 0 && decide (a.b.length ≤ 1000))))) := rfl
  refine condI (fun e => condI (fun e2 => ⟨_, rfl, condI (fun e3 => ⟨_, rfl, condI (fun e4 => ⟨_, rfl, ?_⟩) fun e4 => fin _ ?_⟩) fun e3 => fin _ ?_⟩) fun e2 => fin _ ?_) fun e => condI (fun e1 => condI (fun e2 => ⟨_, rfl, condI (fun e3 => ⟨_, rfl, fin _ ?_⟩) fun e3 => fin _ ?_⟩) fun e2 => fin _ ?_) fun e1 => fin _ ?_
  · have e : a.kind = 1 := by simpa using e
    have e3 : (sb.n : Int) = 0 := by simpa using e3
    have e4 := of_decide_eq_true e4
    refine slices_ContainsFunc_int (p := fun x => !refB x) (Hw.fr f1 (by simp)) (by omega) (fun z R' hR' => HV.of_func (first := #[]) (cap := #[]) (S_wide_Check_1 (wide_ref ⟨_, rfl, hR'⟩))) ⟨_, rfl, fin _ ?_⟩
    have h0 : a.b.length = 0 := by omega
    have h1 : a.w.length ≤ 1000 := by omega
    rw [hc, e2, e]
    simp [h0, h1]
  · have e : a.kind = 1 := by simpa using e
    have e4 : ¬ (sw.n : Int) ≤ 1000 := by simpa using e4
    have h1 : ¬ a.w.length ≤ 1000 := by omega
    rw [hc, e]
    simp [h1]
  · have e : a.kind = 1 := by simpa using e
    have e3 : ¬ (sb.n : Int) = 0 := by simpa using e3
    have h1 : ¬ a.b.length = 0 := by omega
    rw [hc, e]
    simp
    intro _ h2
    rw [h2] at h1
    simp at h1
  · rw [hc, e2]; rfl
  · have e : ¬ a.kind = 1 := by simpa using e
    have e1 : a.kind = 2 := by simpa using e1
    have e3 : (sw.n : Int) = 0 := by simpa using e3
    have h0 : a.w.length = 0 := by omega
    rw [hc, e2, e1]
    simp [h0, lb]
    omega
  · have e : ¬ a.kind = 1 := by simpa using e
    have e1 : a.kind = 2 := by simpa using e1
    have e3 : ¬ (sw.n : Int) = 0 := by simpa using e3
    have h1 : ¬ a.w.length = 0 := by omega
    rw [hc, e1]
    simp
    intro _ h2
    rw [h2] at h1
    simp at h1
  · rw [hc, e2]; rfl
  · have e : ¬ a.kind = 1 := by simpa using e
    have e1 : ¬ a.kind = 2 := by simpa using e1
    rw [hc]
    simp [e, e1]

/-! ### Is there one among them? -/
theorem slices_ContainsFunc_obj {s : Sl} {l : List AO} {B : List Nat} {g : Value} {p : AO → Bool} {h : Heap} {R : Value → Heap → Prop} (H : SlO h s l B) (hl : l.length ≤ 4611686018427387903)
    (hg : ∀ (a : AO) (sw sb : Sl) h1 (R' : Value → Heap → Prop), Fr [] h h1 → SlX h1 sw .i64 a.w → SlX h1 sb .u8 a.b → (∀ h2, Fr [] h1 h2 → R' (.bool (p a)) h2) → HV P g #[.agg #[.int .i64 a.cls, .int .i64 a.kind, .slice sw.a sw.n sw.c, .slice sb.a sb.n sb.c]] h1 R')
    (K : ∀ h', Fr [] h h' → R (.bool (l.any p)) h') : HC P F_slices_ContainsFunc_api_Obj_api_Obj #[.slice s.a s.n s.c, g] h R := by
  have hn := H.len
  refine S_slices_ContainsFunc_api_Obj_api_Obj (S_slices_IndexFunc_api_Obj_api_Obj ⟨fun z _ h' => 0 ≤ z ∧ Fr [] h h' ∧ z ≤ l.length ∧ ∀ i a, i < z.toNat → l[i]? = some a → p a = false, fun z _ _ => (l.length - z).toNat, ⟨Int.le_refl _, Fr.refl _ _, by omega, fun i a hi => by omega⟩, fun z _ h' I => ?_⟩)
  obtain ⟨i0, f1, i1, i2⟩ := I
  refine condI (fun e => ?_) fun e => ?_
  · have e := of_decide_eq_true e
    have hlt : z.toNat < l.length := by omega
    obtain ⟨q, sw, sb, hq, c0, c1, c2, c3, w, b, _, _⟩ := (H.fr f1 (by simp)).at (List.getElem?_eq_getElem hlt)
    rw [hq, oE_some]
    refine ⟨i0, e, _, c0, _, c1, sw, c2, sb, c3, hg _ sw sb h' _ f1 w b fun h2 f2 => ⟨_, rfl, condI (fun e2 => ⟨_, rfl, ?_⟩) fun e2 => ?_⟩⟩
    · have hany : l.any p = true := List.any_eq_true.2 ⟨_, List.getElem_mem hlt, e2⟩
      have := K h2 (f1.trans' f2)
      rw [hany] at this
      rw [show decide ((0 : Int) ≤ z) = true from decide_eq_true i0]
      exact this
    · refine ⟨⟨by omega, by omega⟩, ⟨by omega, f1.trans' f2, by omega, fun i a hi ha => ?_⟩, by show Int.toNat _ < Int.toNat _; omega⟩
      by_cases hi' : i < z.toNat
      · exact i2 i a hi' ha
      · have : i = z.toNat := by omega
        subst this
        rw [List.getElem?_eq_getElem hlt] at ha
        cases ha
        exact e2
  · have e : ¬ z < (s.n : Int) := by simpa using e
    have hany : l.any p = false := by
      rw [List.any_eq_false]
      intro a ha
      obtain ⟨i, hi, rfl⟩ := List.getElem_of_mem ha
      have := i2 i _ (by omega) (List.getElem?_eq_getElem hi)
      simpa using this
    have := K h' f1
    rw [hany] at this
    exact ⟨_, rfl, this⟩

/-! ### What is added is found -/
theorem St.get_add {s : St} (hs : s.OK) (x : AO) : (s.add x).get (s.made + 1) = some x := by
  unfold St.get St.add
  rw [List.find?_append]
  have : s.objs.find? (fun p => p.1 == s.made + 1) = none := by
    rw [List.find?_eq_none]
    intro p hp
    have := hs.rng p hp
    simp; omega
  simp [this]

theorem St.set_add {s : St} (hs : s.OK) (x y : AO) : (s.add x).set (s.made + 1) y = s.add y := by
  unfold St.set St.add
  simp only [List.map_append]
  congr 1
  congr 1
  · have : ∀ p ∈ s.objs, (if p.1 = s.made + 1 then (s.made + 1, y) else p) = p := fun p hp => by
      have := hs.rng p hp
      rw [if_neg (by omega)]
    rw [List.map_congr_left this]
    simp
  · simp

theorem namV_oop {id : Int} (h0 : 1 ≤ id) (h1 : id < 1073741824) : namV (oopV id) = id := by
  have h2 : oopV id = 2 * id := by simp [oopV]; omega
  have h3 : namB (2 * id) = true := by simp [namB]; omega
  rw [h2]
  simp only [namV, h3, if_true]
  omega

def partW (a : AO) (j : Nat) : AO := { a with w := a.w.take j ++ List.replicate (a.w.length - j) 2 }
def partB (a : AO) (j : Nat) : AO := { a with b := a.b.take j ++ List.replicate (a.b.length - j) 0 }

theorem set_take {l : List Int} {j : Nat} {d : Int} (hj : j < l.length) : (l.take j ++ List.replicate (l.length - j) d).set j l[j] = l.take (j + 1) ++ List.replicate (l.length - (j + 1)) d := by
  apply List.ext_getElem?
  intro i
  rw [List.getElem?_set]
  by_cases hij : j = i
  · subst hij
    rw [if_pos rfl]
    have h1 : j < (l.take j ++ List.replicate (l.length - j) d).length := by simp; omega
    rw [if_pos h1, List.getElem?_append_left (by simp; omega), List.getElem?_take, if_pos (by omega), List.getElem?_eq_getElem hj]
  · rw [if_neg hij]
    by_cases hlt : i < j
    · rw [List.getElem?_append_left (by simp; omega), List.getElem?_append_left (by simp; omega), List.getElem?_take, List.getElem?_take, if_pos hlt, if_pos (by omega)]
    · rw [List.getElem?_append_right (by simp; omega), List.getElem?_append_right (by simp; omega), List.getElem?_replicate, List.getElem?_replicate]
      simp only [List.length_take]
      by_cases h2 : i < l.length
      · rw [if_pos (by omega), if_pos (by omega)]
      · rw [if_neg (by omega), if_neg (by omega)]

section
variable {v : Value} {Rep : Heap → List Nat → St → Prop} {Tight : St → Prop} (S : Sto v Rep Tight) {h : Heap} {F : List Nat} {s : St} (H : Rep h F s) {R : Value → Heap → Prop}
include S H

theorem flat_Load {sl : Sl} {l : List AO} {B : List Nat} (hs : SlO h sl l B) (hd : ∀ k ∈ B, k ∉ F) (hl : l.length ≤ 1073741000) (hm : s.made < 4611686018427387904)
    (K2 : (0 < s.made ∨ ∃ a ∈ l, chkB a = false) → ∀ h' F', Rep h' F' s → Mv F h F' h' → R (.int .i64 2) h')
    (K1 : s.made = 0 → (∀ a ∈ l, chkB a = true) → ∀ h' F', Rep h' F' (l.foldl St.add s) → Mv F h F' h' → R (.int .i64 0) h')
    (KF : (∃ t, Tight t) → ∀ h' F' s', Rep h' F' s' → Mv F h F' h' → R (.int .i64 3) h') : HC P F_flat_Load #[v, .slice sl.a sl.n sl.c] h R := by
  have hn := hs.len
  refine S_flat_Load (S.made H fun h1 F1 H1 m1 => ⟨_, rfl, condI (fun e => K2 (.inl (of_decide_eq_true e)) h1 F1 H1 m1) fun e => ?_⟩)
  have e : ¬ 0 < s.made := by simpa using e
  have hpos := (S.inv H).pos
  have hm0 : s.made = 0 := by omega
  obtain ⟨hs1, hd1⟩ := m1.slO hs hd
  refine slices_ContainsFunc_obj (p := fun a => !chkB a) hs1 (by omega) (fun a sw sb h2 R' f2 Gw Gb hR' => HV.of_func (first := #[]) (cap := #[]) (S_flat_Load_1 (box_new fun h3 g3 f3 s3 => box4 (cls := a.cls) (kind := a.kind) (sw := sw) (sb := sb) g3
      (wide_Check (Gw.fr f3 (by simp)) (Gb.fr f3 (by simp)) fun h4 f4 => ⟨_, rfl, ?_⟩)))) fun h2 f2 => ⟨_, rfl, condI (fun e2 => K2 (.inr ?_) h2 F1 (S.fr H1 f2 (by simp)) (m1.trans (Mv.grow f2))) fun e2 => ?_⟩
  · have := hR' h4 (f3.trans' f4)
    cases hc : chkB a <;> (rw [hc] at this; exact this)
  · obtain ⟨a, ha, hb⟩ := List.any_eq_true.1 e2
    exact ⟨a, ha, not_eq_true_of hb⟩
  have hall : ∀ a ∈ l, chkB a = true := fun a ha => by
    have := List.any_eq_false.1 e2 a ha
    simpa using this
  have H2 := S.fr H1 f2 (by simp)
  have m2 := m1.trans (Mv.grow f2)
  refine ⟨fun z _ h' => 0 ≤ z ∧ z ≤ l.length ∧ ∃ F', Rep h' F' ((l.take z.toNat).foldl St.add s) ∧ Mv F h F' h', fun z _ _ => (l.length - z).toNat, ⟨Int.le_refl _, by omega, F1, H2, m2⟩, fun z y h3 I => ?_⟩
  obtain ⟨i0, i1, F3, H3, m3⟩ := I
  refine condI (fun e => ?_) fun e => ?_
  rotate_left
  · have e : ¬ z < (sl.n : Int) := by simpa using e
    have hz : l.take z.toNat = l := List.take_of_length_le (by omega)
    rw [hz] at H3
    exact K1 hm0 hall h3 F3 H3 m3
  have e := of_decide_eq_true e
  have hlt : z.toNat < l.length := by omega
  obtain ⟨hs3, hd3⟩ := m3.slO hs hd
  obtain ⟨q, sw, sb, hq, c0, c1, c2, c3, Gw, Gb, hB, hby⟩ := hs3.at (List.getElem?_eq_getElem hlt)
  have hchk := hall _ (List.getElem_mem hlt)
  generalize ha : l[z.toNat] = a at *
  have hok := chkB_ok hchk hby
  rw [hq, oE_some]
  have foldmade : ∀ (l : List AO) (t : St), (l.foldl St.add t).made = t.made + l.length := by
    intro l
    induction l with
    | nil => intro t; simp
    | cons x l ih => intro t; simp only [List.foldl_cons, ih, St.add, List.length_cons]; omega
  have hbm : ((l.take z.toNat).foldl St.add s).made = z := by rw [foldmade, hm0, List.length_take]; omega
  have hnext : (l.take (z + 1).toNat).foldl St.add s = ((l.take z.toNat).foldl St.add s).add a := by
    rw [show (z + 1).toNat = z.toNat + 1 by omega, List.take_add_one, List.getElem?_eq_getElem hlt, List.foldl_append, ha]
    rfl
  generalize (l.take z.toNat).foldl St.add s = base at *
  have hbok := S.inv H3
  refine ⟨i0, e, _, c0, _, c1, sw, c2, sb, c3, box_new fun h4 g4 f4 s4 => box_w (sw := nilSl) (sb := nilSl) (sw' := sw) (sb' := sb) g4 rfl fun h5 g5 f5 => ?_⟩
  have f35 : Fr [] h3 h5 := f4.trans f5 fun k hk => .inr (by simp at hk; omega)
  have H5 := S.fr H3 f35 (by simp)
  have m5 := m3.trans (Mv.grow f35)
  have lw := Gw.len
  have lb := Gb.len
  simp only [add_add, cellH_of g5]
  refine ⟨_, rfl, _, rfl, _, rfl, _, rfl, sw, rfl, sb, rfl, S.hn _ (by simp), wide_Size fun h6 f6 => ⟨_, rfl, ?_⟩⟩
  have g6 := f6.get g5 (by simp)
  have H6 := S.fr H5 f6 (by simp)
  have m6 := m5.trans (Mv.grow f6)
  have f36 := f35.trans' f6
  simp only [cellH_of g6]
  refine ⟨⟨_, rfl, rfl⟩, ⟨_, rfl, rfl⟩, ?_⟩
  have hsize : (if a.kind = 1 then (sw.n : Int) else if a.kind = 2 then (sb.n : Int) else 0) = (a.size : Int) := by
    unfold AO.size
    rw [lw, lb]
    split
    · rfl
    · split <;> rfl
  rw [hsize]
  have hsz := hok.size_le
  have hnew : newOK a.cls a.kind a.size = true := by
    have h1 : (a.size : Int) ≤ 1000 := by omega
    have h2 : (0 : Int) ≤ a.size := by omega
    rcases hok.kind with ⟨hk, _⟩ | ⟨hk, _⟩ <;> simp [newOK, hok.cls, hk, h1, h2]
  have hbox3 : h3.size ∉ F3 := fun hm => by have := S.lt H3 _ hm; omega
  -- the way out: loaded, or no room
  have out : ∀ (J2 : Int → Heap → Prop) , (∀ z14 h5, (cond (z14 != 0) (R (.int .i64 z14) h5) (InI (z + 1) ∧ (0 ≤ z + 1 ∧ z + 1 ≤ l.length ∧ ∃ F', Rep h5 F' ((l.take (z + 1).toNat).foldl St.add s) ∧ Mv F h F' h5) ∧ (l.length - (z + 1)).toNat < (l.length - z).toNat)) → J2 z14 h5) →
      (∀ h' F', Rep h' F' (base.add a) → Mv F h F' h' → J2 0 h') ∧ ((∃ t, Tight t) → ∀ h' F' s', Rep h' F' s' → Mv F h F' h' → J2 3 h') := fun J2 hJ2 =>
    ⟨fun h' F' H' m' => hJ2 0 h' ⟨⟨by omega, by omega⟩, ⟨by omega, by omega, F', by rw [hnext]; exact H', m'⟩, by omega⟩, fun ht h' F' s' H' m' => hJ2 3 h' (KF ht h' F' s' H' m')⟩
  refine S.new H6 (by omega) (fun _ h7 F7 H7 m7 => ⟨_, _, rfl, fun J1 hJ1 => ?_⟩) (fun hno => by rw [hnew] at hno; cases hno) fun _ ht h7 F7 H7 m7 => ⟨_, _, rfl, fun J1 hJ1 => ?_⟩
  rotate_left
  · -- no room for a new one
    obtain ⟨g7, hb7⟩ : h7[h3.size]? = some (.cells (objCells a.cls a.kind sw sb) T_api_Obj (0, 0)) ∧ True := ⟨m7.fr.get g6 hbox3, trivial⟩
    have fin : J1 3 h7 := hJ1 3 h7 fun J2 hJ2 => by
      have o2 := (out J2 hJ2).2 ⟨_, ht⟩
      refine ⟨fun z e h' => e = 3 ∧ h' = h7 ∧ 0 ≤ z, fun _ _ _ => 0, ⟨rfl, rfl, Int.le_refl _⟩, fun z e h' I => ?_⟩
      obtain ⟨rfl, rfl, z0⟩ := I
      simp only [cellH_of g7]
      exact ⟨sb, rfl, condI (fun _ => condI (fun e => by simp at e) fun _ => o2 h' F7 base H7 (m6.trans m7)) fun _ => o2 h' F7 base H7 (m6.trans m7)⟩
    refine ⟨fun z e h' => e = 3 ∧ h' = h7 ∧ 0 ≤ z, fun _ _ _ => 0, ⟨rfl, rfl, Int.le_refl _⟩, fun z e h' I => ?_⟩
    obtain ⟨rfl, rfl, z0⟩ := I
    simp only [cellH_of g7]
    exact ⟨sw, rfl, condI (fun _ => condI (fun e => by simp at e) fun _ => fin) fun _ => fin⟩
  -- a state with the box
  have keep : ∀ {h7 F7}, Mv F3 h6 F7 h7 → h7[h3.size]? = some (.cells (objCells a.cls a.kind sw sb) T_api_Obj (0, 0)) ∧ SlX h7 sw .i64 a.w ∧ SlX h7 sb .u8 a.b := fun m7 => by
    have m := (Mv.grow f36).trans m7
    exact ⟨m7.fr.get g6 hbox3, Gw.fr m.fr fun k hk => hd3 k (hB k (by simp [hk])), Gb.fr m.fr fun k hk => hd3 k (hB k (by simp [hk]))⟩
  have hid : namV (oopV (base.made + 1)) = base.made + 1 := namV_oop (by omega) (by omega)
  -- the bytes
  have bytes : ∀ (J2 : Int → Heap → Prop), (∀ z14 h5, (cond (z14 != 0) (R (.int .i64 z14) h5) (InI (z + 1) ∧ (0 ≤ z + 1 ∧ z + 1 ≤ l.length ∧ ∃ F', Rep h5 F' ((l.take (z + 1).toNat).foldl St.add s) ∧ Mv F h F' h5) ∧ (l.length - (z + 1)).toNat < (l.length - z).toNat)) → J2 z14 h5) →
      ∀ e h8, ((e = 0 ∧ ∃ F8, Rep h8 F8 (base.add (partB a 0)) ∧ Mv F3 h6 F8 h8) ∨ (e = 3 ∧ (∃ t, Tight t) ∧ ∃ F8 s8, Rep h8 F8 s8 ∧ Mv F3 h6 F8 h8)) → (a.kind = 1 → a.b = []) →
      ∃ I2 : Int → Int → Heap → Prop, ∃ μ2 : Int → Int → Heap → Nat, I2 0 e h8 ∧ ∀ z14 z15 h5, I2 z14 z15 h5 →
        ∃ s5 : Sl, cellH h5 ⟨h3.size, 0 + 3, none⟩ = some (Value.slice s5.a s5.n s5.c) ∧ cond (decide (z14 < (s5.n : Int))) (cond (z15 == 0)
          (∃ s6 : Sl, cellH h5 ⟨h3.size, 0 + 3, none⟩ = some (Value.slice s6.a s6.n s6.c) ∧ optE s6.a False fun p2 => 0 ≤ z14 ∧ z14 < (s6.n : Int) ∧ ∃ z16 : Int, cellH h5 (Addr.add p2 (Int.toNat z14 * 1)) = some (Value.int .u8 z16) ∧ InI z16 ∧
            HN P (Value.func (Fn.method "SetByte") #[v] #[]) ∧ HI P v "SetByte" #[.int .i64 (oopV (base.made + 1)), .int .i64 z14, .int .i64 z16] h5 fun v5 h5_1 => ∃ z17 : Int, v5 = .int .i64 z17 ∧ InI (z14 + 1) ∧ I2 (z14 + 1) z17 h5_1 ∧ μ2 (z14 + 1) z17 h5_1 < μ2 z14 z15 h5)
          (J2 z15 h5)) (J2 z15 h5) := by
    intro J2 hJ2 e h8 hst hk1
    obtain ⟨o1, o2⟩ := out J2 hJ2
    refine ⟨fun x e h' => 0 ≤ x ∧ x ≤ a.b.length ∧ ((e = 0 ∧ ∃ F8, Rep h' F8 (base.add (partB a x.toNat)) ∧ Mv F3 h6 F8 h') ∨ (e = 3 ∧ (∃ t, Tight t) ∧ ∃ F8 s8, Rep h' F8 s8 ∧ Mv F3 h6 F8 h')), fun x _ _ => (a.b.length - x).toNat, ⟨Int.le_refl _, by omega, hst⟩, fun x e h' I => ?_⟩
    obtain ⟨x0, x1, I⟩ := I
    rcases I with ⟨rfl, F8, H8, m8⟩ | ⟨rfl, ht, F8, s8, H8, m8⟩
    · obtain ⟨k1, k2, k3⟩ := keep m8
      simp only [cellH_of k1]
      refine ⟨sb, rfl, condI (fun e => ?_) fun e => ?_⟩
      · have e := of_decide_eq_true e
        have hx : x.toNat < a.b.length := by omega
        obtain ⟨p, hp⟩ := k3.addr hx
        have hbb := hby _ (List.getElem_mem hx)
        have hkind : a.kind = 2 := by
          rcases hok.kind with ⟨hk, hb0, _⟩ | ⟨hk, _⟩
          · rw [hb0] at hx; simp at hx
          · exact hk
        refine condI (fun _ => ⟨sb, rfl, ?_⟩) fun e => (by simp at e)
        rw [hp, oE_some, Nat.mul_one]
        have hE : setByteE (base.add (partB a x.toNat)) (oopV (base.made + 1)) x a.b[x.toNat] = 0 := by
          have hsz2 : (partB a x.toNat).size = a.b.length := by rw [AO.OK.size2 (by exact hkind)]; simp [partB]; omega
          have hbe : byteE (base.add (partB a x.toNat)) (oopV (base.made + 1)) x = 0 := by
            simp only [byteE, hid, St.get_add hbok, hsz2]
            rw [if_neg (by simp [partB, hkind]), if_neg (by omega)]
          simp only [setByteE, hbe, ne_eq, not_true, if_false]
          rw [if_neg (by omega)]
        have hS : setByteS (base.add (partB a x.toNat)) (oopV (base.made + 1)) x a.b[x.toNat] = base.add (partB a (x.toNat + 1)) := by
          simp only [setByteS, hid, St.get_add hbok, hE, if_true]
          rw [St.set_add hbok]
          simp only [partB, set_take hx]
        refine ⟨x0, e, _, k3.cell hp (List.getElem?_eq_getElem hx), ⟨by omega, by omega⟩, S.hn _ (by simp), S.setByte H8 (fun h9 F9 H9 m9 => ⟨_, rfl, ⟨by omega, by omega⟩, ⟨by omega, by omega, .inl ⟨hE, F9, ?_, m8.trans m9⟩⟩, by show Int.toNat _ < Int.toNat _; omega⟩)
          fun _ ht h9 F9 H9 m9 => ⟨_, rfl, ⟨by omega, by omega⟩, ⟨by omega, by omega, .inr ⟨rfl, ⟨_, ht⟩, F9, _, H9, m8.trans m9⟩⟩, by show Int.toNat _ < Int.toNat _; omega⟩⟩
        rw [hS] at H9
        rw [show (x + 1).toNat = x.toNat + 1 by omega]
        exact H9
      · have e : ¬ x < (sb.n : Int) := by simpa using e
        have : partB a x.toNat = a := by
          have h1 : a.b.take x.toNat = a.b := List.take_of_length_le (by omega)
          have h2 : a.b.length - x.toNat = 0 := by omega
          simp [partB, h1, h2]
        rw [this] at H8
        exact o1 h' F8 H8 (m6.trans m8)
    · obtain ⟨k1, k2, k3⟩ := keep m8
      simp only [cellH_of k1]
      exact ⟨sb, rfl, condI (fun _ => condI (fun e => by simp at e) fun _ => o2 ht h' F8 s8 H8 (m6.trans m8)) fun _ => o2 ht h' F8 s8 H8 (m6.trans m8)⟩
  -- the words
  have fin0 : ∀ h8 F8, Rep h8 F8 (base.add (partB a 0)) → Mv F3 h6 F8 h8 → J1 0 h8 := fun h8 F8 H8 m8 => hJ1 0 h8 fun J2 hJ2 => bytes J2 hJ2 0 h8 (.inl ⟨rfl, F8, H8, m8⟩) fun hk => by
    rcases hok.kind with ⟨_, hb0, _⟩ | ⟨hk', _⟩
    · exact hb0
    · omega
  have fin3 : (∃ t, Tight t) → ∀ h8 F8 s8, Rep h8 F8 s8 → Mv F3 h6 F8 h8 → J1 3 h8 := fun ht h8 F8 s8 H8 m8 => hJ1 3 h8 fun J2 hJ2 => bytes J2 hJ2 3 h8 (.inr ⟨rfl, ht, F8, s8, H8, m8⟩) fun hk => by
    rcases hok.kind with ⟨_, hb0, _⟩ | ⟨hk', _⟩
    · exact hb0
    · omega
  refine ⟨fun x e h' => 0 ≤ x ∧ x ≤ a.w.length ∧ ((e = 0 ∧ ∃ F8, Rep h' F8 (base.add { partW a x.toNat with b := (partB a 0).b }) ∧ Mv F3 h6 F8 h') ∨ (e = 3 ∧ (∃ t, Tight t) ∧ ∃ F8 s8, Rep h' F8 s8 ∧ Mv F3 h6 F8 h')), fun x _ _ => (a.w.length - x).toNat, ⟨Int.le_refl _, by omega, .inl ⟨rfl, F7, ?_, m7⟩⟩, fun x e h' I => ?_⟩
  · have : blankA a.cls a.kind a.size = { partW a (0 : Int).toNat with b := (partB a 0).b } := by
      rcases hok.kind with ⟨hk, hb0, _⟩ | ⟨hk, hw0, _⟩
      · simp [blankA, partW, partB, hk, hb0, AO.OK.size1 hk]
      · simp [blankA, partW, partB, hk, hw0, AO.OK.size2 hk]
    rw [this] at H7
    exact H7
  obtain ⟨x0, x1, I⟩ := I
  rcases I with ⟨rfl, F8, H8, m8⟩ | ⟨rfl, ht, F8, s8, H8, m8⟩
  · obtain ⟨k1, k2, k3⟩ := keep m8
    simp only [cellH_of k1]
    refine ⟨sw, rfl, condI (fun e => ?_) fun e => ?_⟩
    · have e := of_decide_eq_true e
      have hx : x.toNat < a.w.length := by omega
      obtain ⟨p, hp⟩ := k2.addr hx
      obtain ⟨hkind, href⟩ : a.kind = 1 ∧ refB a.w[x.toNat] = true := by
        rcases hok.kind with ⟨hk, _, _, hr⟩ | ⟨hk, hw0, _⟩
        · exact ⟨hk, hr _ (List.getElem_mem hx)⟩
        · rw [hw0] at hx; simp at hx
      refine condI (fun _ => ⟨sw, rfl, ?_⟩) fun e => (by simp at e)
      rw [hp, oE_some, Nat.mul_one]
      have hE : setE' (base.add { partW a x.toNat with b := (partB a 0).b }) (oopV (base.made + 1)) x a.w[x.toNat] = 0 := by
        have hsz2 : ({ partW a x.toNat with b := (partB a 0).b } : AO).size = a.w.length := by rw [AO.OK.size1 (by exact hkind)]; simp [partW]; omega
        have hfe : fetchE (base.add { partW a x.toNat with b := (partB a 0).b }) (oopV (base.made + 1)) x = 0 := by
          simp only [fetchE, hid, St.get_add hbok, hsz2]
          rw [if_neg (by simp [partW, hkind]), if_neg (by omega)]
        simp only [setE', hfe, ne_eq, not_true, if_false, href, if_true]
      have hS : setS (base.add { partW a x.toNat with b := (partB a 0).b }) (oopV (base.made + 1)) x a.w[x.toNat] = base.add { partW a (x.toNat + 1) with b := (partB a 0).b } := by
        simp only [setS, hid, St.get_add hbok, hE, if_true]
        rw [St.set_add hbok]
        simp only [partW, set_take hx]
      refine ⟨x0, e, _, k2.cell hp (List.getElem?_eq_getElem hx), S.hn _ (by simp), S.set H8 (fun h9 F9 H9 m9 => ⟨_, rfl, ⟨by omega, by omega⟩, ⟨by omega, by omega, .inl ⟨hE, F9, ?_, m8.trans m9⟩⟩, by show Int.toNat _ < Int.toNat _; omega⟩)
        fun _ ht h9 F9 H9 m9 => ⟨_, rfl, ⟨by omega, by omega⟩, ⟨by omega, by omega, .inr ⟨rfl, ⟨_, ht⟩, F9, _, H9, m8.trans m9⟩⟩, by show Int.toNat _ < Int.toNat _; omega⟩⟩
      rw [hS] at H9
      rw [show (x + 1).toNat = x.toNat + 1 by omega]
      exact H9
    · have e : ¬ x < (sw.n : Int) := by simpa using e
      have : ({ partW a x.toNat with b := (partB a 0).b } : AO) = partB a 0 := by
        have h1 : a.w.take x.toNat = a.w := List.take_of_length_le (by omega)
        have h2 : a.w.length - x.toNat = 0 := by omega
        simp [partW, partB, h1, h2]
      rw [this] at H8
      exact fin0 h' F8 H8 m8
  · obtain ⟨k1, k2, k3⟩ := keep m8
    simp only [cellH_of k1]
    exact ⟨sw, rfl, condI (fun _ => condI (fun e => by simp at e) fun _ => fin3 ht h' F8 s8 H8 m8) fun _ => fin3 ht h' F8 s8 H8 m8⟩
end
end Go.Hv.W

/- Bytes, numbers and objects, compared. -/
namespace Go.Hv.W
open Go Go.Hv

theorem bsOf_data (l : List Int) : (bsOf l).data.toList = l.map fun n => UInt8.ofNat n.toNat := by
  have : ∀ (l : List Int) (s : ByteArray), (l.foldl (fun s n => s.push (UInt8.ofNat n.toNat)) s).data.toList = s.data.toList ++ l.map fun n => UInt8.ofNat n.toNat := by
    intro l
    induction l with
    | nil => intro s; simp
    | cons x l ih => intro s; rw [List.foldl_cons, ih]; simp [ByteArray.push]
  have h := this l ByteArray.empty
  simpa [bsOf] using h

theorem u8_inj {x y : Int} (hx : 0 ≤ x ∧ x ≤ 255) (hy : 0 ≤ y ∧ y ≤ 255) (h : UInt8.ofNat x.toNat = UInt8.ofNat y.toNat) : x = y := by
  have := congrArg UInt8.toNat h
  simp at this
  omega

theorem map_u8_inj : ∀ {a b : List Int}, bytesOK a → bytesOK b → a.map (fun n => UInt8.ofNat n.toNat) = b.map (fun n => UInt8.ofNat n.toNat) → a = b
  | [], [], _, _, _ => rfl
  | [], _ :: _, _, _, h => by cases h
  | _ :: _, [], _, _, h => by cases h
  | x :: a, y :: b, ha, hb, h => by
    simp only [List.map_cons, List.cons.injEq] at h
    rw [u8_inj (ha x (by simp)) (hb y (by simp)) h.1, map_u8_inj (fun z hz => ha z (List.mem_cons_of_mem _ hz)) (fun z hz => hb z (List.mem_cons_of_mem _ hz)) h.2]

theorem strEq_bs {a b : List Int} (ha : bytesOK a) (hb : bytesOK b) : strEq (bsOf a) (bsOf b) = (a == b) := by
  unfold strEq
  rw [ByteArray.toList_eq, ByteArray.toList_eq, bsOf_data, bsOf_data, Bool.eq_iff_iff]
  simp only [beq_iff_eq]
  exact ⟨map_u8_inj ha hb, fun h => by rw [h]⟩

theorem websterref00_Same {sa sb : Sl} {la lb : List Int} {h : Heap} {R : Value → Heap → Prop} (Ha : SlX h sa .u8 la) (Hb : SlX h sb .u8 lb) (ha : bytesOK la) (hb : bytesOK lb)
    (K : R (.bool (la == lb)) h) : HC P F_websterref00_Same #[.slice sa.a sa.n sa.c, .slice sb.a sb.n sb.c] h R := by
  have at' : ∀ {s : Sl} {l : List Int}, SlX h s .u8 l → bytesAt h s.a s.n (bsOf l) := fun {s l} H => by
    by_cases hl : l = []
    · have := H.len
      subst hl
      exact ⟨[], .inr ⟨this, rfl⟩, rfl⟩
    · exact ⟨l, .inl (H.is hl).cells, rfl⟩
  refine S_websterref00_Same ⟨_, at' Ha, _, at' Hb, ?_⟩
  rw [strEq_bs ha hb]
  exact K

theorem websterref00_SameInts {sa sb : Sl} {la lb : List Int} {h : Heap} {R : Value → Heap → Prop} (Ha : SlX h sa .i64 la) (Hb : SlX h sb .i64 lb) (hl : la.length ≤ 1000000000000000)
    (K : R (.bool (la == lb)) h) : HC P F_websterref00_SameInts #[.slice sa.a sa.n sa.c, .slice sb.a sb.n sb.c] h R := by
  have na := Ha.len
  have nb := Hb.len
  have no : la ≠ lb → R (.bool false) h := fun hne => by
    have : (la == lb) = false := by simpa using hne
    rw [this] at K
    exact K
  refine S_websterref00_SameInts (condI (fun e => no fun h => ?_) fun e => ?_)
  · have e : (sa.n : Int) ≠ sb.n := by simpa using e
    rw [h] at na
    omega
  · have e : (sa.n : Int) = sb.n := by simpa using e
    refine ⟨fun z b h' => h' = h ∧ 0 ≤ z ∧ z ≤ la.length ∧ la.take z.toNat = lb.take z.toNat, fun z _ _ => (la.length - z).toNat, ⟨rfl, by omega, by omega, rfl⟩, fun z b h' I => ?_⟩
    obtain ⟨rfl, i0, i1, i2⟩ := I
    refine condI (fun e2 => ?_) fun e2 => ?_
    · have e2 := of_decide_eq_true e2
      have h1 : z.toNat < la.length := by omega
      have h2 : z.toNat < lb.length := by omega
      obtain ⟨p, hp⟩ := Ha.addr h1
      obtain ⟨q, hq⟩ := Hb.addr h2
      simp only [hp, hq, oE_some, Nat.mul_one]
      refine ⟨i0, e2, _, Ha.cell hp (List.getElem?_eq_getElem h1), i0, by omega, _, Hb.cell hq (List.getElem?_eq_getElem h2), condI (fun e3 => no fun h => ?_) fun e3 => ?_⟩
      · have e3 : la[z.toNat] ≠ lb[z.toNat] := by simpa using e3
        subst h
        exact e3 rfl
      · have e3 : la[z.toNat] = lb[z.toNat] := by simpa using e3
        refine ⟨⟨by omega, by omega⟩, ⟨trivial, by omega, by omega, ?_⟩, by show Int.toNat _ < Int.toNat _; omega⟩
        rw [show (z + 1).toNat = z.toNat + 1 by omega, List.take_succ_eq_append_getElem h1, List.take_succ_eq_append_getElem h2, i2, e3]
    · have e2 : ¬ z < (sa.n : Int) := by simpa using e2
      rw [List.take_of_length_le (by omega), List.take_of_length_le (by omega)] at i2
      subst i2
      simpa using K

/-- the same object? -/
def sameB (a b : AO) : Bool := a.cls == b.cls && (a.kind == b.kind && (a.w == b.w && a.b == b.b))
theorem sameB_refl (a : AO) : sameB a a = true := by simp [sameB]

theorem websterref05_Same {a b : AO} {wa ba wb bb : Sl} {h : Heap} {R : Value → Heap → Prop} (Wa : SlX h wa .i64 a.w) (Ba : SlX h ba .u8 a.b) (Wb : SlX h wb .i64 b.w) (Bb : SlX h bb .u8 b.b) (ha : bytesOK a.b) (hb : bytesOK b.b) (hl : a.w.length ≤ 1000000000000000)
    (K : ∀ h', Fr [] h h' → R (.bool (sameB a b)) h') :
    HC P F_websterref05_Same #[.agg #[.int .i64 a.cls, .int .i64 a.kind, .slice wa.a wa.n wa.c, .slice ba.a ba.n ba.c], .agg #[.int .i64 b.cls, .int .i64 b.kind, .slice wb.a wb.n wb.c, .slice bb.a bb.n bb.c]] h R := by
  refine S_websterref05_Same (box_new fun h1 g1 f1 s1 => box_new fun h2 g2 f2 s2 => ?_)
  have g1' := f2.get g1 (by simp)
  have f12 := f1.trans' f2
  have K2 := K h2 f12
  simp only [add_add, cellH_of g1', cellH_of g2]
  refine ⟨_, rfl, _, rfl, condI (fun e => ?_) fun e => ?_⟩
  · refine ⟨_, rfl, _, rfl, condI (fun e2 => ?_) fun e2 => ?_⟩
    · refine ⟨wa, rfl, wb, rfl, websterref00_SameInts (Wa.fr f12 (by simp)) (Wb.fr f12 (by simp)) hl ⟨_, rfl, condI (fun e3 => ?_) fun e3 => ?_⟩⟩
      · refine ⟨ba, by rw [cellH_of g1']; rfl, bb, by rw [cellH_of g2]; rfl, websterref00_Same (Ba.fr f12 (by simp)) (Bb.fr f12 (by simp)) ha hb ⟨_, rfl, ?_⟩⟩
        simpa only [sameB, e, e2, e3, Bool.true_and] using K2
      · simpa only [sameB, e, e2, e3, Bool.true_and, Bool.false_and] using K2
    · simpa only [sameB, e, e2, Bool.true_and, Bool.false_and] using K2
  · simpa only [sameB, e, Bool.false_and] using K2
end Go.Hv.W

/- Numbers as rows of bytes, the least one first: plain Lean. -/
namespace Go.Hv.W

def val : List Int → Int
  | [] => 0
  | x :: l => x + 256 * val l

/-- the first n digits of f -/
def valN (f : Nat → Int) : Nat → Int
  | 0 => 0
  | n + 1 => valN f n + f n * (256 : Int) ^ n

def byteF (f : Nat → Int) : Prop := ∀ i, 0 ≤ f i ∧ f i ≤ 255
def dg (l : List Int) (i : Nat) : Int := (l[i]?).getD 0

theorem pow_pos256 (n : Nat) : 0 < (256 : Int) ^ n := Int.pow_pos (by omega)

theorem valN_bd {f : Nat → Int} (hf : byteF f) : ∀ n, 0 ≤ valN f n ∧ valN f n < (256 : Int) ^ n
  | 0 => by simp [valN]
  | n + 1 => by
    obtain ⟨h1, h2⟩ := valN_bd hf n
    obtain ⟨h3, h4⟩ := hf n
    have hp := pow_pos256 n
    simp only [valN, Int.pow_succ]
    have a1 : 0 ≤ f n * (256 : Int) ^ n := Int.mul_nonneg h3 (by omega)
    have a2 : f n * (256 : Int) ^ n ≤ 255 * (256 : Int) ^ n := Int.mul_le_mul_of_nonneg_right h4 (by omega)
    omega

theorem valN_congr {f g : Nat → Int} : ∀ {n}, (∀ i, i < n → f i = g i) → valN f n = valN g n
  | 0, _ => rfl
  | n + 1, h => by simp only [valN]; rw [valN_congr fun i hi => h i (by omega), h n (by omega)]

/-- nothing above: nothing more -/
theorem valN_zero {f : Nat → Int} {n : Nat} : ∀ k, (∀ i, n ≤ i → f i = 0) → valN f (n + k) = valN f n
  | 0, _ => rfl
  | k + 1, h => by
    rw [← Nat.add_assoc]
    simp only [valN]
    rw [h (n + k) (by omega), valN_zero k h]
    simp

theorem valN_le {f : Nat → Int} {n m : Nat} (hnm : n ≤ m) (h : ∀ i, n ≤ i → f i = 0) : valN f m = valN f n := by
  have := valN_zero (f := f) (n := n) (m - n) h
  rw [show n + (m - n) = m by omega] at this
  exact this

theorem valN_succ {f : Nat → Int} : ∀ n, valN f (n + 1) = f 0 + 256 * valN (fun i => f (i + 1)) n
  | 0 => by simp [valN]
  | n + 1 => by
    have ih := valN_succ (f := f) n
    simp only [valN] at ih ⊢
    rw [ih]
    simp only [Int.pow_succ]
    rw [Int.mul_add]
    have : f (n + 1) * ((256 : Int) ^ n * 256) = 256 * (f (n + 1) * (256 : Int) ^ n) := by
      rw [← Int.mul_assoc, Int.mul_comm]
    omega

theorem dg_over {l : List Int} {i : Nat} (h : l.length ≤ i) : dg l i = 0 := by simp [dg, List.getElem?_eq_none h]

theorem val_valN : ∀ (l : List Int), val l = valN (dg l) l.length
  | [] => rfl
  | x :: l => by
    rw [List.length_cons, valN_succ]
    have : valN (fun i => dg (x :: l) (i + 1)) l.length = valN (dg l) l.length := valN_congr fun i _ => by simp [dg]
    rw [this, ← val_valN l]
    simp [val, dg]

theorem val_le {l : List Int} {n : Nat} (h : l.length ≤ n) : valN (dg l) n = val l := by
  rw [val_valN, valN_le h fun i hi => dg_over hi]

def byteL (l : List Int) : Prop := ∀ x ∈ l, 0 ≤ x ∧ x ≤ 255
theorem byteL.dg {l : List Int} (h : byteL l) : byteF (dg l) := by
  intro i
  unfold W.dg
  cases hi : l[i]? with
  | none => simp
  | some x => exact h x (List.mem_of_getElem? hi)

theorem val_bd {l : List Int} (h : byteL l) : 0 ≤ val l ∧ val l < (256 : Int) ^ l.length := by
  rw [val_valN]
  exact valN_bd h.dg _

/-! ### Canonical rows -/
def dig (n : Int) : List Int := if h : 0 < n then (n % 256) :: dig (n / 256) else []
termination_by n.toNat
decreasing_by omega

theorem dig_pos {n : Int} (h : 0 < n) : dig n = (n % 256) :: dig (n / 256) := by rw [dig]; simp [h]
theorem dig_zero {n : Int} (h : n ≤ 0) : dig n = [] := by rw [dig]; simp; omega

theorem dig_ind {φ : Int → Prop} (h0 : ∀ n, n ≤ 0 → φ n) (h1 : ∀ n, 0 < n → φ (n / 256) → φ n) : ∀ n, φ n := by
  have : ∀ (k : Nat) (n : Int), n.toNat ≤ k → φ n := by
    intro k
    induction k with
    | zero => intro n hn; exact h0 n (by omega)
    | succ k ih =>
      intro n hn
      by_cases hp : 0 < n
      · exact h1 n hp (ih _ (by omega))
      · exact h0 n (by omega)
  exact fun n => this n.toNat n (Nat.le_refl _)

theorem val_dig : ∀ n : Int, 0 ≤ n → val (dig n) = n := by
  refine dig_ind (fun n h h' => ?_) fun n h ih _ => ?_
  · rw [dig_zero h]; simp [val]; omega
  · rw [dig_pos h]
    simp only [val]
    rw [ih (by omega)]
    omega

theorem dig_byte : ∀ n : Int, byteL (dig n) := by
  refine dig_ind (fun n h => ?_) fun n h ih => ?_
  · rw [dig_zero h]; intro x hx; cases hx
  · rw [dig_pos h]
    intro x hx
    rcases List.mem_cons.1 hx with rfl | hx
    · omega
    · exact ih x hx

/-- without noughts at the end -/
def endsOK (l : List Int) : Prop := ∀ x, l.getLast? = some x → x ≠ 0

theorem dig_ends : ∀ n : Int, endsOK (dig n) := by
  refine dig_ind (fun n h => ?_) fun n h ih => ?_
  · rw [dig_zero h]; intro x hx; cases hx
  · rw [dig_pos h]
    intro x hx
    by_cases h2 : 0 < n / 256
    · rw [dig_pos h2] at hx ih
      rw [List.getLast?_cons_cons] at hx
      exact ih x hx
    · rw [dig_zero (by omega)] at hx
      simp at hx
      omega

theorem val_pos_of_ends : ∀ {l : List Int}, byteL l → endsOK l → l ≠ [] → 0 < val l
  | [], _, _, h => absurd rfl h
  | [x], hb, he, _ => by
    have := hb x (by simp)
    have := he x (by simp)
    simp [val]; omega
  | x :: y :: l, hb, he, _ => by
    have ih := val_pos_of_ends (l := y :: l) (fun z hz => hb z (List.mem_cons_of_mem _ hz)) (fun z hz => he z (by rw [List.getLast?_cons_cons]; exact hz)) (by simp)
    have := hb x (by simp)
    simp only [val] at ih ⊢
    omega

theorem eq_dig : ∀ {l : List Int}, byteL l → endsOK l → l = dig (val l)
  | [], _, _ => by simp [val, dig_zero]
  | x :: l, hb, he => by
    have hp := val_pos_of_ends hb he (by simp)
    have hbl : byteL l := fun z hz => hb z (List.mem_cons_of_mem _ hz)
    have hel : endsOK l := fun z hz => by
      cases l with
      | nil => cases hz
      | cons y l => exact he z (by rw [List.getLast?_cons_cons]; exact hz)
    have hx := hb x (by simp)
    rw [dig_pos hp]
    simp only [val]
    have h1 : (x + 256 * val l) % 256 = x := by omega
    have h2 : (x + 256 * val l) / 256 = val l := by omega
    rw [h1, h2, ← eq_dig hbl hel]

theorem dig_len' : ∀ n : Int, 0 < n → (256 : Int) ^ ((dig n).length - 1) ≤ n := by
  refine dig_ind (fun n h h' => absurd h (by omega)) fun n h ih _ => ?_
  rw [dig_pos h]
  by_cases h2 : 0 < n / 256
  · have := ih h2
    rw [List.length_cons, Nat.add_sub_cancel]
    have hl : 0 < (dig (n / 256)).length := by rw [dig_pos h2]; simp
    obtain ⟨k, hk⟩ : ∃ k, (dig (n / 256)).length = k + 1 := ⟨_, (Nat.succ_pred_eq_of_pos hl).symm⟩
    rw [hk] at this ⊢
    rw [Nat.add_sub_cancel] at this
    rw [Int.pow_succ]
    omega
  · rw [dig_zero (n := n / 256) (by omega)]
    simp
    omega
theorem dig_len {n : Int} (h : 0 < n) : (256 : Int) ^ ((dig n).length - 1) ≤ n := dig_len' n h

theorem pow_le_pow256 {a b : Nat} (h : a ≤ b) : (256 : Int) ^ a ≤ (256 : Int) ^ b := by
  obtain ⟨k, rfl⟩ := Nat.le.dest h
  induction k with
  | zero => exact Int.le_refl _
  | succ k ih =>
    rw [← Nat.add_assoc, Int.pow_succ]
    have := ih (Nat.le_add_right _ _)
    have := pow_pos256 (a + k)
    omega

theorem dig_len_le {n : Int} {k : Nat} (h0 : 0 ≤ n) (h : n < (256 : Int) ^ k) : (dig n).length ≤ k := by
  by_cases hp : 0 < n
  · have h1 := dig_len hp
    by_cases hk : (dig n).length ≤ k
    · exact hk
    · have := pow_le_pow256 (a := k) (b := (dig n).length - 1) (by omega)
      omega
  · rw [dig_zero (by omega)]; simp

theorem dig_len_mono {a b : Int} (h0 : 0 ≤ a) (h : a ≤ b) : (dig a).length ≤ (dig b).length := by
  have hb := val_bd (dig_byte b)
  rw [val_dig b (by omega)] at hb
  exact dig_len_le h0 (by omega)

/-- without the noughts at the end -/
def cutL (l : List Int) : List Int := (l.reverse.dropWhile (· == 0)).reverse

theorem of_takeWhile {p : Int → Bool} : ∀ {l : List Int} {x : Int}, x ∈ l.takeWhile p → p x = true
  | [], _, h => by cases h
  | y :: l, x, h => by
    rw [List.takeWhile_cons] at h
    split at h
    next hy =>
      rcases List.mem_cons.1 h with rfl | h
      · exact hy
      · exact of_takeWhile h
    next => cases h

theorem cutL_dig {l : List Int} (hb : byteL l) : cutL l = dig (val l) := by
  obtain ⟨z, hz⟩ : ∃ z, l = cutL l ++ z ∧ ∀ x ∈ z, x = 0 := by
    refine ⟨(l.reverse.takeWhile (· == 0)).reverse, ?_, fun x hx => ?_⟩
    · unfold cutL
      rw [← List.reverse_append, List.takeWhile_append_dropWhile, List.reverse_reverse]
    · have := of_takeWhile (List.mem_reverse.1 hx)
      simpa using this
  have hbc : byteL (cutL l) := fun x hx => hb x (by rw [hz.1]; exact List.mem_append_left _ hx)
  have hec : endsOK (cutL l) := by
    intro x hx
    unfold cutL at hx
    rw [List.getLast?_reverse] at hx
    have := List.head?_dropWhile_not (p := (· == 0)) (l := l.reverse)
    rw [hx] at this
    simpa using this
  have hv : val l = val (cutL l) := by
    have app : ∀ (a z : List Int), (∀ x ∈ z, x = 0) → val (a ++ z) = val a := by
      intro a z hz
      induction a with
      | nil =>
        induction z with
        | nil => rfl
        | cons y z ih =>
          have h1 := ih fun x hx => hz x (List.mem_cons_of_mem _ hx)
          have h2 := hz y (by simp)
          simp only [List.nil_append, val] at h1 ⊢
          rw [h1, h2]
          rfl
      | cons y a ih => simp only [List.cons_append, val, ih]
    conv => lhs; rw [hz.1]
    exact app _ _ hz.2
  rw [hv]
  exact eq_dig hbc hec
end Go.Hv.W

/- Large numbers: cut, told, of a number, sums. -/
namespace Go.Hv.W
open Go Go.Hv

/-- a row of bytes in the heap -/
structure Row (h : Heap) (s : Sl) (l : List Int) : Prop where
  is : SlI h s .u8 l
  cap : s.n ≤ s.c
  byte : byteL l

theorem Row.fr {F : List Nat} {h h' : Heap} {s : Sl} {l : List Int} (H : Row h s l) (x : Fr F h h') (hF : ∀ b ∈ s.blk, b ∉ F) : Row h' s l := ⟨H.is.fr x hF, H.cap, H.byte⟩
theorem Row.grow {h h' : Heap} {s : Sl} {l : List Int} (H : Row h s l) (x : Fr [] h h') : Row h' s l := H.fr x (by simp)

theorem dg_get {l : List Int} {i : Nat} (h : i < l.length) : l[i]? = some (dg l i) := by simp [dg, h]

theorem Row.cell {h : Heap} {s : Sl} {l : List Int} (H : Row h s l) {p : Addr} (hp : s.a = some p) {i : Nat} (hi : i < l.length) : cellH h (p.add i) = some (.int .u8 (dg l i)) :=
  H.is.cell hp (dg_get hi)

theorem dg_take {l : List Int} {z i : Nat} : dg (l.take z) i = if i < z then dg l i else 0 := by
  unfold dg
  rw [List.getElem?_take]
  split <;> simp_all

/-- what is left, when the noughts go -/
theorem take_dig {l : List Int} {z : Nat} (hb : byteL l) (hz : z ≤ l.length) (h0 : ∀ i, z ≤ i → dg l i = 0) (h1 : z = 0 ∨ dg l (z - 1) ≠ 0) : l.take z = dig (val l) := by
  have hbt : byteL (l.take z) := fun x hx => hb x (List.mem_of_mem_take hx)
  have hlen : (l.take z).length = z := by rw [List.length_take]; omega
  have hv : val (l.take z) = val l := by
    rw [val_valN (List.take z l), hlen, val_valN l, valN_le hz h0]
    exact valN_congr fun i hi => by rw [dg_take]; simp [hi]
  have he : endsOK (l.take z) := by
    intro x hx
    rw [List.getLast?_eq_getElem?, hlen] at hx
    rcases h1 with h1 | h1
    · subst h1; simp at hx
    · have : dg (l.take z) (z - 1) = x := by simp [dg, hx]
      rw [dg_take] at this
      by_cases hz0 : z - 1 < z
      · rw [if_pos hz0] at this; omega
      · rw [if_neg hz0] at this
        have : z = 0 := by omega
        subst this
        simp at hx
  rw [← hv]
  exact eq_dig hbt he

theorem Row.take {h : Heap} {s : Sl} {l : List Int} (H : Row h s l) {z : Nat} (hz : z ≤ l.length) : Row h ⟨s.a, z, z⟩ (l.take z) :=
  ⟨⟨by simp; omega, fun e => by rw [H.is.nil e]; simp, fun p hp => by
    obtain ⟨h0, cs, T, q, h1, h2, h3⟩ := H.is.get p hp
    refine ⟨h0, cs, T, q, h1, by simp; omega, fun i hi => ?_⟩
    rw [List.length_take] at hi
    rw [h3 i (by omega), List.getElem?_take]
    have : i < z := by omega
    simp [this]⟩, Nat.le_refl _, fun x hx => H.byte x (List.mem_of_mem_take hx)⟩

theorem large_cut {s : Sl} {l : List Int} {h : Heap} {R : Value → Heap → Prop} (H : Row h s l) (hl : l.length ≤ 1000000000)
    (K : ∀ s', Row h s' (dig (val l)) → s'.blk = s.blk → R (.slice s'.a s'.n s'.c) h) : HC P F_large_cut #[.slice s.a s.n s.c] h R := by
  have hn := H.is.len
  have hc := H.cap
  refine S_large_cut fun J hJ => ⟨fun z h' => h' = h ∧ 0 ≤ z ∧ z ≤ l.length ∧ ∀ i, z.toNat ≤ i → dg l i = 0, fun z _ => z.toNat, ⟨rfl, by omega, by omega, fun i hi => dg_over (by omega)⟩, fun z h' I => ?_⟩
  obtain ⟨rfl, i0, i1, i2⟩ := I
  have fin : (z.toNat = 0 ∨ dg l (z.toNat - 1) ≠ 0) → J z h' := fun h1 => by
    refine hJ z h' ⟨i0, Int.le_refl _, by omega, ?_⟩
    have X := H.take (z := z.toNat) (by omega)
    rw [take_dig H.byte (by omega) i2 h1] at X
    exact K _ X rfl
  refine condI (fun e => ?_) fun e => ?_
  · have e := of_decide_eq_true e
    have hlt : z.toNat - 1 < l.length := by omega
    obtain ⟨a, ha⟩ := H.is.addr hlt
    have ht : (z - 1).toNat = z.toNat - 1 := by omega
    rw [ha, oE_some, Nat.mul_one, ht]
    refine ⟨⟨by omega, by omega⟩, by omega, by omega, _, H.cell ha hlt, condI (fun e2 => ?_) fun e2 => ?_⟩
    · exact fin (.inr (by simpa using e2))
    · have e2 : dg l (z.toNat - 1) = 0 := by simpa using e2
      refine ⟨⟨by omega, by omega⟩, ⟨rfl, by omega, by omega, fun i hi => ?_⟩, by show Int.toNat _ < Int.toNat _; omega⟩
      by_cases hi2 : i = z.toNat - 1
      · rw [hi2]; exact e2
      · exact i2 i (by omega)
  · have e : ¬ 0 < z := by simpa using e
    exact fin (.inl (by omega))

/-- is it one? -/
def rightB (l : List Int) : Bool := decide (l.length ≤ 400 ∧ l = dig (val l))

theorem large_Right {s : Sl} {l : List Int} {h : Heap} {R : Value → Heap → Prop} (H : Row h s l) (hl : l.length ≤ 1000000000)
    (K : R (.bool (rightB l)) h) : HC P F_large_Right #[.slice s.a s.n s.c] h R := by
  have hn := H.is.len
  refine S_large_Right (condI (fun e => ?_) fun e => ?_)
  · have e := of_decide_eq_true e
    refine condI (fun e2 => ?_) fun e2 => ?_
    · have e2 : (s.n : Int) = 0 := by simpa using e2
      have : l = [] := List.eq_nil_of_length_eq_zero (by omega)
      subst this
      simpa [rightB, val, dig_zero] using K
    · have e2 : (s.n : Int) ≠ 0 := by simpa using e2
      have hlt : l.length - 1 < l.length := by omega
      obtain ⟨a, ha⟩ := H.is.addr hlt
      have ht : ((s.n : Int) - 1).toNat = l.length - 1 := by omega
      rw [ha, oE_some, Nat.mul_one, ht]
      refine ⟨⟨by omega, by omega⟩, by omega, by omega, _, H.cell ha hlt, ?_⟩
      have : (dg l (l.length - 1) != 0) = rightB l := by
        rw [Bool.eq_iff_iff]
        unfold rightB
        rw [decide_eq_true_iff]
        constructor
        · intro h1
          have h1 : dg l (l.length - 1) ≠ 0 := by simpa using h1
          refine ⟨by omega, ?_⟩
          have := take_dig (z := l.length) H.byte (Nat.le_refl _) (fun i hi => dg_over hi) (.inr h1)
          rwa [List.take_length] at this
        · intro ⟨_, h1⟩
          have h2 := dig_ends (val l)
          rw [← h1] at h2
          have := h2 (dg l (l.length - 1)) (by rw [List.getLast?_eq_getElem?]; exact dg_get hlt)
          simpa using this
      rw [this]
      exact K
  · have e : ¬ (s.n : Int) ≤ 400 := by simpa using e
    have : rightB l = false := by
      unfold rightB
      rw [decide_eq_false_iff_not]
      intro ⟨h1, _⟩
      omega
    rw [this] at K
    exact K

theorem large_told {s : Sl} {l : List Int} {h : Heap} {R : Value → Heap → Prop} (H : Row h s l) (hl : l.length ≤ 1000000000)
    (K1 : (dig (val l)).length ≤ 400 → ∀ s', Row h s' (dig (val l)) → s'.blk = s.blk → R (.tuple #[.slice s'.a s'.n s'.c, .int .i64 0]) h)
    (K0 : 400 < (dig (val l)).length → R (.tuple #[.slice none 0 0, .int .i64 3]) h) : HC P F_large_told #[.slice s.a s.n s.c] h R := by
  refine S_large_told (large_cut H hl fun s' X hb => ⟨s', rfl, condI (fun e => ?_) fun e => ?_⟩)
  · have e := of_decide_eq_true e
    have := X.is.len
    exact K0 (by omega)
  · have e : ¬ 400 < (s'.n : Int) := by simpa using e
    have := X.is.len
    exact K1 (by omega) s' X hb

theorem large_digit {s : Sl} {l : List Int} {i : Int} {h : Heap} {R : Value → Heap → Prop} (H : Row h s l) (hi : 0 ≤ i) (K : R (.int .i64 (dg l i.toNat)) h) :
    HC P F_large_digit #[.slice s.a s.n s.c, .int .i64 i] h R := by
  have hn := H.is.len
  refine S_large_digit (condI (fun e => ?_) fun e => ?_)
  · have e := of_decide_eq_true e
    have hlt : i.toNat < l.length := by omega
    obtain ⟨a, ha⟩ := H.is.addr hlt
    rw [ha, oE_some, Nat.mul_one]
    have := H.byte.dg i.toNat
    exact ⟨hi, e, _, H.cell ha hlt, ⟨by omega, by omega⟩, K⟩
  · have e : ¬ i < (s.n : Int) := by simpa using e
    rw [dg_over (by omega)] at K
    exact K

theorem wrap_u8 (z : Int) : IntKind.wrap .u8 z = z % 256 := by
  simp [IntKind.wrap, IntKind.bits, IntKind.signed]

theorem large_Of {n : Int} {h : Heap} {R : Value → Heap → Prop} (hn : n < 18446744073709551616)
    (K1 : 0 ≤ n → ∀ h' s', Row h' s' (dig n) → Fr [] h h' → (∀ k ∈ s'.blk, h.size ≤ k) → R (.tuple #[.slice s'.a s'.n s'.c, .int .i64 0]) h')
    (K0 : n < 0 → R (.tuple #[.slice none 0 0, .int .i64 2]) h) : HC P F_large_Of #[.int .i64 n] h R := by
  refine S_large_Of (condI (fun e => K0 (of_decide_eq_true e)) fun e => ?_)
  have e : ¬ n < 0 := by simpa using e
  have h8 : (dig n).length ≤ 8 := dig_len_le (by omega) (by simpa using hn)
  refine ⟨fun s z h' => 0 ≤ z ∧ ∃ l, SlG h' s .u8 l ∧ byteL l ∧ l ++ dig z = dig n ∧ Fr [] h h' ∧ ∀ k ∈ s.blk, h.size ≤ k, fun _ z _ => z.toNat, ⟨by omega, [], SlG.empty h _, (by intro x hx; cases hx), rfl, Fr.refl _ _, by simp [Sl.blk]⟩, fun s z h' I => ?_⟩
  obtain ⟨i0, l, G, hb, hd, f, fr⟩ := I
  refine condI (fun e2 => ?_) fun e2 => ?_
  · have e2 := of_decide_eq_true e2
    rw [dig_pos e2] at hd
    have hlen : l.length + 1 ≤ 8 := by rw [← hd] at h8; simp at h8; omega
    have hn' := G.is.len
    refine box_new fun h2 g2 f2 s2 => ?_
    rw [wrap_u8] at g2
    have X : SlI h2 ⟨some ⟨h'.size, 0, none⟩, 1, 1⟩ .u8 [z % 256] := ⟨rfl, fun e => (by cases e), fun q hq => by
      cases hq
      exact ⟨rfl, _, _, _, g2, by simp, fun i hi => by
        have : i = 0 := by simp at hi; omega
        subst this
        rfl⟩⟩
    have G2 := G.fr f2 (by simp)
    refine ⟨G2.appOK X (by omega) (by simp only; omega), rfl, fun s' h3 A => ?_⟩
    obtain ⟨a1, a2, a3⟩ := G2.appended X A
    refine ⟨by omega, by omega, ⟨by omega, l ++ [z % 256], a1, fun x hx => ?_, by rw [List.append_assoc]; exact hd, (f.trans' f2).trans a2 fun k hk => .inr (fr k hk), fun k hk => ?_⟩, by show Int.toNat _ < Int.toNat _; omega⟩
    · rcases List.mem_append.1 hx with hx | hx
      · exact hb x hx
      · simp at hx; omega
    · rcases a3 k hk with hk | hk
      · exact fr k hk
      · have := (f.trans' f2).size
        omega
  · have e2 : ¬ 0 < z := by simpa using e2
    rw [dig_zero (by omega), List.append_nil] at hd
    subst hd
    exact K1 (by omega) h' s ⟨G.is, G.cap, hb⟩ f fr

/-! ### A row under work -/
structure Arr (h : Heap) (b : Nat) (n : Nat) (f : Nat → Int) : Prop where
  is : ∃ cs, h[b]? = some (.cells cs T_uint8 (0, 0)) ∧ cs.size = n ∧ ∀ i, i < n → cs[i]? = some (.int .u8 (f i))
  byte : byteF f

def updA (f : Nat → Int) (i : Nat) (x : Int) : Nat → Int := fun j => if j = i then x else f j

theorem Arr.fr {F : List Nat} {h h' : Heap} {b n : Nat} {f : Nat → Int} (H : Arr h b n f) (x : Fr F h h') (hF : b ∉ F) : Arr h' b n f := by
  obtain ⟨⟨cs, h1, h2⟩, h3⟩ := H
  exact ⟨⟨cs, x.get h1 hF, h2⟩, h3⟩

theorem Arr.cell {h : Heap} {b n : Nat} {f : Nat → Int} (H : Arr h b n f) {i : Nat} (hi : i < n) : cellH h (Addr.add ⟨b, 0, none⟩ i) = some (.int .u8 (f i)) := by
  obtain ⟨⟨cs, h1, h2, h3⟩, _⟩ := H
  rw [add_add, cellH_of h1, Nat.zero_add]
  exact h3 i hi

theorem Arr.st {h : Heap} {b n : Nat} {f : Nat → Int} (H : Arr h b n f) {i : Nat} (hi : i < n) : StOK h (Addr.add ⟨b, 0, none⟩ i) 1 := by
  obtain ⟨⟨cs, h1, h2, h3⟩, _⟩ := H
  rw [add_add]
  exact StOK_of h1 (by omega)

theorem Arr.put {h : Heap} {b n : Nat} {f : Nat → Int} (H : Arr h b n f) {i : Nat} {x : Int} (hi : i < n) (hx : 0 ≤ x ∧ x ≤ 255) : Arr (putH h (Addr.add ⟨b, 0, none⟩ i) (.int .u8 x)) b n (updA f i x) := by
  obtain ⟨⟨cs, h1, h2, h3⟩, h4⟩ := H
  rw [add_add, Nat.zero_add]
  refine ⟨⟨_, get_putH_eq h1, by simp [h2], fun j hj => ?_⟩, fun j => ?_⟩
  · unfold updA
    split
    next e => subst e; rw [Array.getElem?_setIfInBounds_self_of_lt (by omega)]
    next e => rw [Array.getElem?_setIfInBounds_ne (by omega), h3 j hj]
  · unfold updA
    split
    · exact hx
    · exact h4 j

theorem Arr.new {h : Heap} {b n : Nat} (hg : h[b]? = some (.cells (List.toArray (List.flatten (List.replicate n [Value.int .u8 0]))) T_uint8 (0, 0))) : Arr h b n (fun _ => 0) := by
  have hf : List.flatten (List.replicate n [Value.int .u8 0]) = List.replicate n (Value.int .u8 0) := by
    induction n with
    | zero => rfl
    | succ n ih => simp
  rw [hf] at hg
  exact ⟨⟨_, hg, by simp, fun i hi => by simp [hi]⟩, fun _ => ⟨by omega, by omega⟩⟩

theorem Arr.row {h : Heap} {b n : Nat} {f : Nat → Int} (H : Arr h b n f) : Row h ⟨some ⟨b, 0, none⟩, n, n⟩ ((List.range n).map f) := by
  obtain ⟨⟨cs, h1, h2, h3⟩, h4⟩ := H
  refine ⟨⟨by simp, fun e => (by cases e), fun p hp => ?_⟩, Nat.le_refl _, fun x hx => ?_⟩
  · cases hp
    refine ⟨rfl, cs, _, _, h1, by simp [h2], fun i hi => ?_⟩
    have hi : i < n := by simpa using hi
    simp only [Nat.zero_add]
    rw [h3 i hi]
    simp [hi]
  · obtain ⟨i, _, rfl⟩ := List.mem_map.1 hx
    exact h4 i

theorem val_range {n : Nat} {f : Nat → Int} : val ((List.range n).map f) = valN f n := by
  rw [val_valN]
  simp only [List.length_map, List.length_range]
  exact valN_congr fun i hi => by simp [dg, hi]

theorem valN_upd {f : Nat → Int} {i : Nat} {x : Int} : ∀ {n : Nat}, i < n → valN (updA f i x) n = valN f n + (x - f i) * (256 : Int) ^ i
  | 0, h => by omega
  | n + 1, h => by
    simp only [valN]
    by_cases e : i = n
    · subst e
      rw [valN_congr (g := f) fun j hj => by unfold updA; rw [if_neg (by omega)]]
      have : updA f i x i = x := by simp [updA]
      rw [this, Int.sub_mul]
      omega
    · rw [valN_upd (n := n) (by omega)]
      have : updA f i x n = f n := by unfold updA; rw [if_neg (by omega)]
      rw [this]
      omega

theorem valN_upd_ge {f : Nat → Int} {i : Nat} {x : Int} {n : Nat} (h : n ≤ i) : valN (updA f i x) n = valN f n :=
  valN_congr fun j hj => by unfold updA; rw [if_neg (by omega)]

theorem large_plus {sa sb : Sl} {la lb : List Int} {h : Heap} {R : Value → Heap → Prop} (Ha : Row h sa la) (Hb : Row h sb lb) (ha : la.length ≤ 1000000) (hb : lb.length ≤ 1000000)
    (K : ∀ h' s', Row h' s' (dig (val la + val lb)) → Fr [] h h' → (∀ k ∈ s'.blk, h.size ≤ k) → R (.slice s'.a s'.n s'.c) h') : HC P F_large_plus #[.slice sa.a sa.n sa.c, .slice sb.a sb.n sb.c] h R := by
  have na := Ha.is.len
  have nb := Hb.is.len
  have hm : maxI (sa.n : Int) (sb.n : Int) = (max la.length lb.length : Nat) := by unfold maxI; split <;> omega
  refine S_large_plus ?_
  rw [hm]
  obtain ⟨m, hm2⟩ : ∃ m, max la.length lb.length = m := ⟨_, rfl⟩
  rw [hm2]
  have hN : ((m : Int) + 1).toNat = m + 1 := by omega
  rw [hN]
  refine ⟨⟨by omega, by omega⟩, by omega, by omega, by omega, by omega, rfl, by omega, box_new fun h1 g1 f1 s1 => ?_⟩
  have A0 := Arr.new g1
  refine ⟨fun z c h' => 0 ≤ z ∧ z ≤ m + 1 ∧ 0 ≤ c ∧ c ≤ 1 ∧ Fr [] h h' ∧ ∃ f, Arr h' h.size (m + 1) f ∧ valN (dg la) z.toNat + valN (dg lb) z.toNat = valN f z.toNat + c * (256 : Int) ^ z.toNat, fun z _ _ => (m + 1 - z).toNat,
    ⟨by omega, by omega, by omega, by omega, f1, _, A0, by simp [valN]⟩, fun z c h' I => ?_⟩
  obtain ⟨i0, i1, c0, c1, fr, f, A, hv⟩ := I
  refine condI (fun e => ?_) fun e => ?_
  · have e := of_decide_eq_true e
    refine large_digit (Ha.grow fr) i0 ⟨_, rfl, large_digit (Hb.grow fr) i0 ⟨_, rfl, ?_⟩⟩
    have da := Ha.byte.dg z.toNat
    have db := Hb.byte.dg z.toNat
    obtain ⟨x, hx⟩ : ∃ x, dg la z.toNat = x := ⟨_, rfl⟩
    obtain ⟨y, hy⟩ : ∃ y, dg lb z.toNat = y := ⟨_, rfl⟩
    rw [hx] at da
    rw [hy] at db
    rw [hx, hy, Nat.mul_one, wrap_u8]
    have hz1 : (z + 1).toNat = z.toNat + 1 := by omega
    refine ⟨⟨by omega, by omega⟩, ⟨by omega, by omega⟩, i0, by omega, A.st (by omega), fun h2 e2 => ⟨by omega, by omega, ⟨by omega, by omega⟩, ⟨by omega, by omega, by omega, by omega, ?_, updA f z.toNat ((c + (x + y)) % 256), ?_, ?_⟩, by show Int.toNat _ < Int.toNat _; omega⟩⟩
    · rw [e2]
      exact fr.trans (Fr.put (F := [h.size]) (.inl (by rw [add_add]; simp))) fun k hk => .inr (by simp at hk; omega)
    · rw [e2]
      exact A.put (by omega) ⟨by omega, by omega⟩
    · rw [hz1]
      simp only [valN]
      rw [valN_upd_ge (Nat.le_refl _), hx, hy]
      have : updA f z.toNat ((c + (x + y)) % 256) z.toNat = (c + (x + y)) % 256 := by simp [updA]
      rw [this, Int.pow_succ]
      generalize (256 : Int) ^ z.toNat = p at hv ⊢
      have h3 : (c + (x + y)) % 256 * p + (c + (x + y)) / 256 * (p * 256) = (c + (x + y)) * p := by
        have h4 : c + (x + y) = (c + (x + y)) % 256 + (c + (x + y)) / 256 * 256 := by omega
        generalize (c + (x + y)) % 256 = r at h4 ⊢
        generalize (c + (x + y)) / 256 = q at h4 ⊢
        rw [h4, Int.add_mul, Int.mul_assoc q 256 p, Int.mul_comm 256 p]
      rw [Int.add_mul, Int.add_mul] at h3
      omega
  · have e : ¬ z < (m : Int) + 1 := by simpa using e
    have hz : z.toNat = m + 1 := by omega
    rw [hz] at hv
    have va := val_bd Ha.byte
    have vb := val_bd Hb.byte
    have pa := pow_le_pow256 (a := la.length) (b := m) (by omega)
    have pb := pow_le_pow256 (a := lb.length) (b := m) (by omega)
    rw [val_le (by omega), val_le (by omega), Int.pow_succ] at hv
    have vf := valN_bd A.byte (m + 1)
    have hc : c = 0 := by
      rcases (by omega : c = 0 ∨ c = 1) with h | h
      · exact h
      · subst h; omega
    subst hc
    refine large_cut A.row (by simp; omega) fun s' X hb' => ⟨s', rfl, K h' s' ?_ fr fun k hk => ?_⟩
    · rw [val_range] at X
      rw [show val la + val lb = valN f (m + 1) by omega]
      exact X
    · rw [hb'] at hk
      simp [Sl.blk] at hk
      omega

theorem large_minus {sa sb : Sl} {la lb : List Int} {h : Heap} {R : Value → Heap → Prop} (Ha : Row h sa la) (Hb : Row h sb lb) (ha : la.length ≤ 1000000) (hlen : lb.length ≤ la.length) (hle : val lb ≤ val la)
    (K : ∀ h' s', Row h' s' (dig (val la - val lb)) → Fr [] h h' → (∀ k ∈ s'.blk, h.size ≤ k) → R (.slice s'.a s'.n s'.c) h') : HC P F_large_minus #[.slice sa.a sa.n sa.c, .slice sb.a sb.n sb.c] h R := by
  have na := Ha.is.len
  have nb := Hb.is.len
  refine S_large_minus ?_
  rw [na]
  obtain ⟨m, hm⟩ : ∃ m, la.length = m := ⟨_, rfl⟩
  rw [hm, Int.toNat_natCast]
  refine ⟨by omega, by omega, by omega, by omega, rfl, by omega, box_new fun h1 g1 f1 s1 => ?_⟩
  have A0 := Arr.new g1
  refine ⟨fun z c h' => 0 ≤ z ∧ z ≤ m ∧ -1 ≤ c ∧ c ≤ 0 ∧ Fr [] h h' ∧ ∃ f, Arr h' h.size m f ∧ valN (dg la) z.toNat - valN (dg lb) z.toNat = valN f z.toNat + c * (256 : Int) ^ z.toNat, fun z _ _ => (m - z).toNat,
    ⟨by omega, by omega, by omega, by omega, f1, _, A0, by simp [valN]⟩, fun z c h' I => ?_⟩
  obtain ⟨i0, i1, c0, c1, fr, f, A, hv⟩ := I
  refine condI (fun e => ?_) fun e => ?_
  · have e := of_decide_eq_true e
    rw [← hm, ← na]
    refine large_digit (Ha.grow fr) i0 ⟨_, rfl, large_digit (Hb.grow fr) i0 ⟨_, rfl, ?_⟩⟩
    rw [na, hm]
    have da := Ha.byte.dg z.toNat
    have db := Hb.byte.dg z.toNat
    obtain ⟨x, hx⟩ : ∃ x, dg la z.toNat = x := ⟨_, rfl⟩
    obtain ⟨y, hy⟩ : ∃ y, dg lb z.toNat = y := ⟨_, rfl⟩
    rw [hx] at da
    rw [hy] at db
    rw [hx, hy, Nat.mul_one, wrap_u8]
    have hz1 : (z + 1).toNat = z.toNat + 1 := by omega
    refine ⟨⟨by omega, by omega⟩, ⟨by omega, by omega⟩, i0, by omega, A.st (by omega), fun h2 e2 => ⟨by omega, by omega, ⟨by omega, by omega⟩, ⟨by omega, by omega, by omega, by omega, ?_, updA f z.toNat ((c + (x - y)) % 256), ?_, ?_⟩, by show Int.toNat _ < Int.toNat _; omega⟩⟩
    · rw [e2]
      exact fr.trans (Fr.put (F := [h.size]) (.inl (by rw [add_add]; simp))) fun k hk => .inr (by simp at hk; omega)
    · rw [e2]
      exact A.put (by omega) ⟨by omega, by omega⟩
    · rw [hz1]
      simp only [valN]
      rw [valN_upd_ge (Nat.le_refl _), hx, hy]
      have : updA f z.toNat ((c + (x - y)) % 256) z.toNat = (c + (x - y)) % 256 := by simp [updA]
      rw [this, Int.pow_succ]
      generalize (256 : Int) ^ z.toNat = p at hv ⊢
      have h3 : (c + (x - y)) % 256 * p + (c + (x - y)) / 256 * (p * 256) = (c + (x - y)) * p := by
        have h4 : c + (x - y) = (c + (x - y)) % 256 + (c + (x - y)) / 256 * 256 := by omega
        generalize (c + (x - y)) % 256 = r at h4 ⊢
        generalize (c + (x - y)) / 256 = q at h4 ⊢
        rw [h4, Int.add_mul, Int.mul_assoc q 256 p, Int.mul_comm 256 p]
      rw [Int.add_mul, Int.sub_mul] at h3
      omega
  · have e : ¬ z < (m : Int) := by simpa using e
    have hz : z.toNat = m := by omega
    rw [hz] at hv
    rw [val_le (by omega), val_le (by omega)] at hv
    have vf := valN_bd A.byte m
    have hc : c = 0 := by
      rcases (by omega : c = 0 ∨ c = -1) with h | h
      · exact h
      · subst h; omega
    subst hc
    refine large_cut A.row (by simp; omega) fun s' X hb' => ⟨s', rfl, K h' s' ?_ fr fun k hk => ?_⟩
    · rw [val_range] at X
      rw [show val la - val lb = valN f m by omega]
      exact X
    · rw [hb'] at hk
      simp [Sl.blk] at hk
      omega
end Go.Hv.W

/- Large numbers: products; rows from behind; as a number; compared. -/
namespace Go.Hv.W
open Go Go.Hv

theorem large_Mul {sa sb : Sl} {la lb : List Int} {h : Heap} {R : Value → Heap → Prop} (Ha : Row h sa la) (Hb : Row h sb lb) (ha : la.length ≤ 1000000) (hb : lb.length ≤ 1000000)
    (K0 : ¬ (rightB la = true ∧ rightB lb = true) → R (.tuple #[.slice none 0 0, .int .i64 2]) h)
    (K1 : rightB la = true → rightB lb = true → (dig (val la * val lb)).length ≤ 400 → ∀ h' s', Row h' s' (dig (val la * val lb)) → Fr [] h h' → (∀ k ∈ s'.blk, h.size ≤ k) → R (.tuple #[.slice s'.a s'.n s'.c, .int .i64 0]) h')
    (K3 : rightB la = true → rightB lb = true → 400 < (dig (val la * val lb)).length → ∀ h', Fr [] h h' → R (.tuple #[.slice none 0 0, .int .i64 3]) h') :
    HC P F_large_Mul #[.slice sa.a sa.n sa.c, .slice sb.a sb.n sb.c] h R := by
  have na := Ha.is.len
  have nb := Hb.is.len
  refine S_large_Mul (large_Right Ha (by omega) ⟨_, rfl, condI (fun e => K0 fun h => ?_) fun e => large_Right Hb (by omega) ⟨_, rfl, condI (fun e2 => K0 fun h => ?_) fun e2 => ?_⟩⟩)
  · have e := not_eq_true_of e
    rw [h.1] at e
    cases e
  · have e2 := not_eq_true_of e2
    rw [h.2] at e2
    cases e2
  have e := not_eq_false_of e
  have e2 := not_eq_false_of e2
  obtain ⟨N, hN⟩ : ∃ N, la.length + lb.length = N := ⟨_, rfl⟩
  have hN2 : ((sa.n : Int) + (sb.n : Int)).toNat = N := by omega
  rw [hN2]
  refine ⟨⟨by omega, by omega⟩, by omega, by omega, by omega, by omega, rfl, by omega, box_new fun h1 g1 f1 s1 => ?_⟩
  have A0 := Arr.new g1
  have va := val_bd Ha.byte
  have vb := val_bd Hb.byte
  refine ⟨fun z h' => 0 ≤ z ∧ z ≤ la.length ∧ Fr [] h h' ∧ ∃ f, Arr h' h.size N f ∧ valN f N = valN (dg la) z.toNat * val lb, fun z _ => (la.length - z).toNat,
    ⟨by omega, by omega, f1, _, A0, ?_⟩, fun z h' I => ?_⟩
  · have : ∀ n, valN (fun _ => 0) n = 0 := fun n => by
      induction n with
      | zero => rfl
      | succ n ih => simp [valN, ih]
    rw [this]
    simp [valN]
  obtain ⟨i0, i1, fr, f, A, hv⟩ := I
  refine condI (fun e3 => ?_) fun e3 => ?_
  · have e3 := of_decide_eq_true e3
    have hlt : z.toNat < la.length := by omega
    have Ha' := Ha.grow fr
    obtain ⟨a, haa⟩ := Ha'.is.addr hlt
    rw [haa, oE_some]
    simp only [Nat.mul_one]
    obtain ⟨x, hx⟩ : ∃ x, dg la z.toNat = x := ⟨_, rfl⟩
    have dx := Ha.byte.dg z.toNat
    rw [hx] at dx
    refine ⟨i0, e3, x, by rw [← hx]; exact Ha'.cell haa hlt, ⟨by omega, by omega⟩, ?_⟩
    obtain ⟨i, hi⟩ : ∃ i, z.toNat = i := ⟨_, rfl⟩
    refine ⟨fun k c h3 => 0 ≤ k ∧ k ≤ lb.length + 1 ∧ 0 ≤ c ∧ c ≤ 255 ∧ Fr [] h h3 ∧ ∃ g, Arr h3 h.size N g ∧ valN g N + c * (256 : Int) ^ (i + k.toNat) = valN f N + x * valN (dg lb) k.toNat * (256 : Int) ^ i, fun k _ _ => (lb.length + 1 - k).toNat,
      ⟨by omega, by omega, by omega, by omega, fr, f, A, by simp [valN]⟩, fun k c h3 I => ?_⟩
    obtain ⟨k0, k1, c0, c1, fr3, g, B, hg⟩ := I
    refine condI (fun e4 => ?_) fun e4 => ?_
    · have e4 := of_decide_eq_true e4
      intro J hJ
      have hik : i + k.toNat < N := by omega
      refine ⟨⟨by omega, by omega⟩, condI (fun e5 => ?_) fun e5 => ?_⟩
      · have hzk : (z + k).toNat = i + k.toNat := by omega
        rw [hzk]
        have dy := Hb.byte.dg k.toNat
        obtain ⟨y, hy⟩ : ∃ y, dg lb k.toNat = y := ⟨_, rfl⟩
        rw [hy] at dy
        have dg' := B.byte (i + k.toNat)
        have hxy : 0 ≤ x * y ∧ x * y ≤ 65025 := by
          constructor
          · exact Int.mul_nonneg dx.1 dy.1
          · exact Int.le_trans (Int.mul_le_mul_of_nonneg_right dx.2 dy.1) (by omega)
        obtain ⟨w, hw⟩ : ∃ w, x * y = w := ⟨_, rfl⟩
        rw [hw] at hxy
        obtain ⟨u, hu⟩ : ∃ u, g (i + k.toNat) = u := ⟨_, rfl⟩
        rw [hu] at dg'
        refine ⟨⟨by omega, by omega⟩, by omega, by omega, u, by rw [← hu]; exact B.cell hik, ⟨by omega, by omega⟩, ⟨by omega, by omega⟩, y, large_digit (Hb.grow fr3) k0 ⟨by rw [hy], rfl⟩, ?_⟩
        rw [hw, wrap_u8]
        refine ⟨⟨by omega, by omega⟩, ⟨by omega, by omega⟩, ⟨by omega, by omega⟩, ⟨by omega, by omega⟩, by omega, by omega, B.st hik, fun h4 e6 => ⟨by omega, by omega, hJ _ _ ⟨⟨by omega, by omega⟩, ⟨by omega, by omega, by omega, by omega, ?_, updA g (i + k.toNat) ((c + (u + w)) % 256), ?_, ?_⟩, by show Int.toNat _ < Int.toNat _; omega⟩⟩⟩
        · rw [e6]
          exact fr3.trans (Fr.put (F := [h.size]) (.inl (by rw [add_add]; simp))) fun k hk => .inr (by simp at hk; omega)
        · rw [e6]
          exact B.put hik ⟨by omega, by omega⟩
        · have hz1 : (k + 1).toNat = k.toNat + 1 := by omega
          rw [hz1, valN_upd hik, hu]
          simp only [valN]
          rw [hy, ← Nat.add_assoc, Int.pow_succ, Int.mul_add, Int.add_mul]
          have hp : x * (y * (256 : Int) ^ k.toNat) * (256 : Int) ^ i = w * (256 : Int) ^ (i + k.toNat) := by
            rw [← Int.mul_assoc, hw, Int.mul_assoc, ← Int.pow_add, Nat.add_comm]
          rw [hp]
          generalize (256 : Int) ^ (i + k.toNat) = p at hg ⊢
          have h3 : (c + (u + w)) % 256 * p + (c + (u + w)) / 256 * (p * 256) = (c + (u + w)) * p := by
            have h4 : c + (u + w) = (c + (u + w)) % 256 + (c + (u + w)) / 256 * 256 := by omega
            generalize (c + (u + w)) % 256 = r at h4 ⊢
            generalize (c + (u + w)) / 256 = q at h4 ⊢
            rw [h4, Int.add_mul, Int.mul_assoc q 256 p, Int.mul_comm 256 p]
          rw [Int.add_mul, Int.add_mul] at h3
          rw [Int.sub_mul]
          omega
      · have e5 : ¬ z + k < (N : Int) := by simpa using e5
        omega
    · have e4 : ¬ k < (sb.n : Int) + 1 := by simpa using e4
      have hk : k.toNat = lb.length + 1 := by omega
      rw [hk, val_le (l := lb) (n := lb.length + 1) (by omega)] at hg
      have hz1 : (z + 1).toNat = i + 1 := by omega
      have key : valN f N + x * val lb * (256 : Int) ^ i = valN (dg la) (i + 1) * val lb := by
        rw [hv, hi]
        simp only [valN]
        rw [← hi, hx, Int.add_mul, Int.mul_assoc, Int.mul_assoc, Int.mul_comm (val lb)]
      rw [key] at hg
      have b1 := valN_bd Ha.byte.dg (i + 1)
      have b2 := valN_bd B.byte N
      have b3 : valN (dg la) (i + 1) * val lb < (256 : Int) ^ (i + (lb.length + 1)) := by
        have h1 : valN (dg la) (i + 1) * val lb ≤ (256 : Int) ^ (i + 1) * val lb := Int.mul_le_mul_of_nonneg_right (by omega) vb.1
        have h2 : (256 : Int) ^ (i + 1) * val lb < (256 : Int) ^ (i + 1) * (256 : Int) ^ lb.length := Int.mul_lt_mul_of_pos_left vb.2 (pow_pos256 _)
        rw [← Int.pow_add, show i + 1 + lb.length = i + (lb.length + 1) by omega] at h2
        omega
      have hc : c = 0 := by
        by_cases h : c = 0
        · exact h
        · have : 1 * (256 : Int) ^ (i + (lb.length + 1)) ≤ c * (256 : Int) ^ (i + (lb.length + 1)) := Int.mul_le_mul_of_nonneg_right (by omega) (Int.le_of_lt (pow_pos256 _))
          omega
      subst hc
      refine ⟨⟨by omega, by omega⟩, ⟨by omega, by omega, fr3, g, B, ?_⟩, by show Int.toNat _ < Int.toNat _; omega⟩
      rw [hz1]
      omega
  · have e3 : ¬ z < (sa.n : Int) := by simpa using e3
    have hz : z.toNat = la.length := by omega
    rw [hz, val_le (by omega)] at hv
    have X := A.row
    have hvv : val ((List.range N).map f) = val la * val lb := by rw [val_range, hv]
    refine large_told X (by simp; omega) (fun hl s' X' hb' => ⟨s', _, rfl, ?_⟩) fun hl => ⟨⟨none, 0, 0⟩, _, rfl, ?_⟩
    · rw [hvv] at hl X'
      refine K1 e e2 hl h' s' X' fr fun k hk => ?_
      rw [hb'] at hk
      simp [Sl.blk] at hk
      omega
    · rw [hvv] at hl
      exact K3 e e2 hl h' fr

/-! ### From behind -/
theorem slices_Backward {s : Sl} {h : Heap} {R : Value → Heap → Prop} (K : ∀ h', h'[h.size]? = some (.cells #[.slice s.a s.n s.c] 39 (0, 0)) → Fr [] h h' → h'.size = h.size + 1 → R (.func (.func F_slices_Backward_byte_byte_1) #[] #[.pointer (some ⟨h.size, 0, none⟩)]) h') :
    HC P F_slices_Backward_byte_byte #[.slice s.a s.n s.c] h R := S_slices_Backward_byte_byte (box_new K)

theorem slices_Backward_1 {y : Value} {b : Nat} {s : Sl} {l : List Int} {h : Heap} {R : Value → Heap → Prop} (J : Int → Heap → Prop) (hl : l.length ≤ 1000000000)
    (hJ : ∀ z h', J z h' → Row h' s l ∧ cellH h' ⟨b, 0, none⟩ = some (.slice s.a s.n s.c)) (h0 : J (l.length - 1) h)
    (step : ∀ (i : Nat) h', i < l.length → J i h' → HV P y #[.int .i64 i, .int .u8 (dg l i)] h' fun v h2 => (v = .bool true ∧ J ((i : Int) - 1) h2) ∨ (v = .bool false ∧ R (.tuple #[]) h2))
    (fin : ∀ h', J (-1) h' → R (.tuple #[]) h') : HC P F_slices_Backward_byte_byte_1 #[y, .pointer (some ⟨b, 0, none⟩)] h R := by
  obtain ⟨H, hc⟩ := hJ _ _ h0
  have hn := H.is.len
  refine S_slices_Backward_byte_byte_1 ?_
  refine ⟨s, hc, ⟨by omega, by omega⟩, fun z h' => -1 ≤ z ∧ z < l.length ∧ J z h', fun z _ => (z + 1).toNat, ⟨by omega, by omega, by rw [hn]; exact h0⟩, fun z h' I => ?_⟩
  obtain ⟨i0, i1, hj⟩ := I
  refine condI (fun e => ?_) fun e => ?_
  · have e := of_decide_eq_true e
    obtain ⟨H', hc'⟩ := hJ _ _ hj
    have hlt : z.toNat < l.length := by omega
    obtain ⟨a, ha⟩ := H'.is.addr hlt
    have hz : ((z.toNat : Nat) : Int) = z := by omega
    refine ⟨s, hc', ?_⟩
    rw [ha, oE_some, Nat.mul_one]
    refine ⟨e, by omega, _, H'.cell ha hlt, ?_⟩
    have := step z.toNat h' hlt (by rw [hz]; exact hj)
    rw [hz] at this
    refine this.mono fun v h2 hv => ?_
    rcases hv with ⟨rfl, hv⟩ | ⟨rfl, hv⟩
    · exact ⟨true, rfl, ⟨by omega, by omega⟩, ⟨by omega, by omega, hv⟩, by show Int.toNat _ < Int.toNat _; omega⟩
    · exact ⟨false, rfl, hv⟩
  · have e : ¬ 0 ≤ z := by simpa using e
    have : z = -1 := by omega
    subst this
    exact fin _ hj
end Go.Hv.W

/- Large numbers: as a number; compared; sums and differences that are told. -/
namespace Go.Hv.W
open Go Go.Hv

theorem wrap_i64 {z : Int} (h0 : 0 ≤ z) (h1 : z < 9223372036854775808) : IntKind.wrap .i64 z = z := by
  simp only [IntKind.wrap, IntKind.bits, IntKind.signed]
  simp
  omega

theorem orI_byte {n c : Int} (h0 : 0 ≤ n) (hc : 0 ≤ c ∧ c ≤ 255) (h : n * 256 + c < 9223372036854775808) : orI .i64 (n * 256) c = n * 256 + c := by
  obtain ⟨m, rfl⟩ := Int.eq_ofNat_of_zero_le h0
  obtain ⟨d, rfl⟩ := Int.eq_ofNat_of_zero_le hc.1
  unfold orI
  rw [BitVec.toNat_or, BitVec.toNat_ofInt, BitVec.toNat_ofInt]
  have e1 : (((m : Int) * 256) % ((2 ^ IntKind.i64.bits : Nat) : Int)).toNat = m * 256 := by
    rw [Int.emod_eq_of_lt (by omega) (by simp only [IntKind.bits]; omega)]
    omega
  have e2 : ((d : Int) % ((2 ^ IntKind.i64.bits : Nat) : Int)).toNat = d := by
    rw [Int.emod_eq_of_lt (by omega) (by simp only [IntKind.bits]; omega)]
    omega
  rw [e1, e2]
  have e3 : m * 256 ||| d = m * 256 + d := by
    have := Nat.shiftLeft_add_eq_or_of_lt (b := d) (i := 8) (by omega) m
    rw [Nat.shiftLeft_eq] at this
    exact this.symm
  rw [e3, wrap_i64 (by omega) (by omega)]
  omega

theorem Fr.set {F : List Nat} {h : Heap} {i : Nat} {o : Obj} (hi : i ∈ F ∨ h.size ≤ i) : Fr F h (Array.setIfInBounds h i o) :=
  ⟨by simp, fun k hk hf => Array.getElem?_setIfInBounds_ne fun e => by subst e; exact hi.elim hf (fun h => by omega)⟩

theorem get_set {h : Heap} {i : Nat} {o o' : Obj} (hi : h[i]? = some o') : (Array.setIfInBounds h i o)[i]? = some o := by
  have := lt_of_get hi
  rw [Array.getElem?_setIfInBounds_self_of_lt this]

theorem val_drop {l : List Int} {i : Nat} (hi : i < l.length) : val (l.drop i) = dg l i + 256 * val (l.drop (i + 1)) := by
  rw [List.drop_eq_getElem_cons hi]
  simp [val, dg, hi]

theorem byteL.drop {l : List Int} (h : byteL l) (i : Nat) : byteL (l.drop i) := fun x hx => h x (List.mem_of_mem_drop hx)

theorem val_drop_le {l : List Int} (h : byteL l) : ∀ i, val (l.drop i) ≤ val l
  | 0 => by simp
  | i + 1 => by
    have ih := val_drop_le h i
    have h1 := val_bd (h.drop (i + 1))
    by_cases hi : i < l.length
    · rw [val_drop hi] at ih
      have := h.dg i
      omega
    · rw [List.drop_eq_nil_of_le (by omega)]
      have := (val_bd h).1
      simpa [val] using this

def intB (l : List Int) : Bool := rightB l && decide (val l < 9223372036854775808)

theorem right_dig {l : List Int} (h : rightB l = true) : l.length ≤ 400 ∧ l = dig (val l) := by simpa [rightB] using h

theorem cond_same (Q : Prop) {c : Bool} {A Y : Prop} (h1 : c = true → (Q → Y) → A) (h2 : c = false → Q) (y : Q → Y) : cond c A Y := condI (fun e => h1 e y) fun e => y (h2 e)

theorem large_Int {s : Sl} {l : List Int} {h : Heap} {R : Value → Heap → Prop} (H : Row h s l) (hl : l.length ≤ 1000000)
    (K1 : intB l = true → ∀ h', Fr [] h h' → R (.tuple #[.int .i64 (val l), .bool true]) h')
    (K0 : intB l = false → R (.tuple #[.int .i64 0, .bool false]) h) : HC P F_large_Int #[.slice s.a s.n s.c] h R := by
  have hn := H.is.len
  have vl := val_bd H.byte
  refine S_large_Int (large_Right H (by omega) ⟨_, rfl, condI (fun e => K0 ?_) fun e => ?_⟩)
  · simp [intB, not_eq_true_of e]
  have e := not_eq_false_of e
  obtain ⟨r1, r2⟩ := right_dig e
  refine condI (fun e2 => K0 ?_) fun e2 => ?_
  · have e2 := of_decide_eq_true e2
    have hp : 0 < val l := by
      by_cases h : 0 < val l
      · exact h
      · rw [dig_zero (by omega)] at r2
        rw [r2] at hn
        simp at hn
        omega
    have := dig_len hp
    rw [← r2] at this
    have h8 := pow_le_pow256 (a := 8) (b := l.length - 1) (by omega)
    have : ¬ val l < 9223372036854775808 := by
      have h9 : (256 : Int) ^ 8 = 18446744073709551616 := by rfl
      omega
    simp [intB, this]
  have e2 : ¬ 8 < (s.n : Int) := by simpa using e2
  have big : l.length = 8 → val l = valN (dg l) 7 + dg l 7 * 72057594037927936 := fun h8 => by
    rw [val_valN, h8]
    rfl
  have b7 := valN_bd H.byte.dg 7
  have h7 : (256 : Int) ^ 7 = 72057594037927936 := by rfl
  have base : (l.length = 8 → dg l 7 ≤ 127) → val l < 9223372036854775808 := fun hh => by
    by_cases h8 : l.length = 8
    · have := big h8
      have := hh h8
      omega
    · have := pow_le_pow256 (a := l.length) (b := 7) (by omega)
      omega
  refine cond_same (intB l = true) (fun e3 hs => ?_) (fun e3 => ?_) fun hi => ?_
  · have e3 : (s.n : Int) = 8 := by simpa using e3
    obtain ⟨a, ha⟩ := H.is.addr (i := 7) (by omega)
    rw [ha, oE_some]
    refine ⟨by omega, by omega, _, H.cell ha (by omega), condI (fun e4 => K0 ?_) fun e4 => ?_⟩
    · have e4 := of_decide_eq_true e4
      have := big (by omega)
      have : ¬ val l < 9223372036854775808 := by omega
      simp [intB, this]
    · have e4 : ¬ 127 < dg l 7 := by simpa using e4
      have := base fun _ => by omega
      rw [← ha]
      exact hs (by simp [intB, e, this])
  · have e3 : ¬ (s.n : Int) = 8 := by simpa using e3
    have := base fun h => by omega
    simp [intB, e, this]
  have hv : val l < 9223372036854775808 := by
    simp [intB] at hi
    exact hi.2
  refine box_new fun h1 g1 f1 s1 => ⟨StOK_of g1 (by simp), fun h2 e2 => ?_⟩
  have g2 : h2[h.size]? = some (.cells #[.int .i64 0] T_int (0, 0)) := by rw [e2]; exact get_putH_eq g1
  have f2 : Fr [] h h2 := by
    rw [e2]
    exact f1.trans (Fr.put (F := [h.size]) (.inl (by simp))) fun k hk => .inr (by simp at hk; omega)
  have s2 : h2.size = h.size + 1 := by rw [e2, size_putH, s1]
  refine slices_Backward fun h3 g3 f3 s3 => ⟨_, rfl, fun mk => box_new fun h4 g4 f4 s4 => box_new fun h5 g5 f5 s5 Y => ?_⟩
  rw [s2] at g3
  have fA : Fr [] h h5 := ((f2.trans' f3).trans' f4).trans' f5
  have gA : h5[h.size]? = some (.cells #[.int .i64 0] T_int (0, 0)) := ((f3.trans' f4).trans' f5).get g2 (by simp)
  have gB : h5[h.size + 1]? = some (.cells #[.slice s.a s.n s.c] 39 (0, 0)) := (f4.trans' f5).get g3 (by simp)
  have gC := f5.get g4 (by simp)
  have n3 : h3.size = h.size + 1 + 1 := by rw [s3, s2]
  have n4 : h4.size = h.size + 1 + 1 + 1 := by rw [s4, n3]
  rw [n3] at gC
  rw [n4] at g5 Y
  rw [s2, n3, n4]
  show HC P F_slices_Backward_byte_byte_1 #[_, _] h5 _
  refine slices_Backward_1 (s := s) (l := l) (fun z h' => Fr [] h h' ∧ h'[h.size]? = some (.cells #[.int .i64 (val (l.drop (z + 1).toNat))] T_int (0, 0)) ∧ h'[h.size + 1]? = some (.cells #[.slice s.a s.n s.c] 39 (0, 0)) ∧
    h'[h.size + 1 + 1]? = some (.deferred (some [])) ∧ h'[h.size + 1 + 1 + 1]? = some (mk .ready .normal)) (by omega) (fun z h' I => ⟨H.grow I.1, by rw [cellH_of I.2.2.1]; rfl⟩) ⟨fA, ?_, gB, gC, g5⟩ (fun i h' hi I => ?_) fun h' I => ?_
  · rw [gA, List.drop_eq_nil_of_le (by omega)]
    rfl
  · obtain ⟨fr, a1, a2, a3, a4⟩ := I
    have hb := H.byte.dg i
    have hd := val_drop_le H.byte i
    rw [val_drop hi] at hd
    have hz : ((i : Int) + 1).toNat = i + 1 := by omega
    have hz' : ((i : Int) - 1 + 1).toNat = i := by omega
    rw [hz] at a1
    have v0 := val_bd (H.byte.drop (i + 1))
    refine Y _ _ _ _ ⟨a4, ?_⟩
    simp only [asI, if_true]
    refine ⟨a4, fun h6 e6 => ?_⟩
    have fB : Fr [h.size + 1 + 1 + 1] h' h6 := by rw [e6]; exact Fr.set (.inl (by simp))
    have m6 : h6[h.size + 1 + 1 + 1]? = some (mk .busy .normal) := by rw [e6]; exact get_set a4
    have a1' := fB.get a1 (by simp; try omega)
    refine ⟨val (l.drop (i + 1)), by rw [cellH_of a1']; rfl, by omega, by omega, ⟨by omega, by omega⟩, ⟨by omega, by omega⟩, StOK_of a1' (by simp), fun h7 e7 => ?_⟩
    rw [orI_byte (by omega) hb (by omega)] at e7
    have fC : Fr [h.size] h6 h7 := by rw [e7]; exact Fr.put (.inl (by simp))
    have g7 : h7[h.size]? = some (.cells #[.int .i64 (val (l.drop (i + 1)) * 256 + dg l i)] T_int (0, 0)) := by rw [e7]; exact get_putH_eq a1'
    have m7 := fC.get m6 (by simp; try omega)
    refine ⟨m7, fun h8 e8 => .inl ⟨trivial, ?_⟩⟩
    have fD : Fr [h.size + 1 + 1 + 1] h7 h8 := by rw [e8]; exact Fr.set (.inl (by simp))
    refine ⟨((fr.trans fB ?_).trans fC ?_).trans fD ?_, ?_, ?_, ?_, ?_⟩
    · exact fun k hk => .inr (by simp at hk; omega)
    · exact fun k hk => .inr (by simp at hk; omega)
    · exact fun k hk => .inr (by simp at hk; omega)
    · rw [hz', val_drop hi, fD.get g7 (by simp; try omega)]
      rw [show val (l.drop (i + 1)) * 256 + dg l i = dg l i + 256 * val (l.drop (i + 1)) by omega]
    · exact fD.get (fC.get (fB.get a2 (by simp; try omega)) (by simp; try omega)) (by simp; try omega)
    · exact fD.get (fC.get (fB.get a3 (by simp; try omega)) (by simp; try omega)) (by simp; try omega)
    · rw [e8]; exact get_set m7
  · obtain ⟨fr, a1, a2, a3, a4⟩ := I
    refine ⟨a4, fun h7 e7 => ?_⟩
    have fB : Fr [h.size + 1 + 1 + 1] h' h7 := by rw [e7]; exact Fr.set (.inl (by simp))
    have a1' := fB.get a1 (by simp; omega)
    have a3' := fB.get a3 (by simp)
    refine ⟨val l, by rw [cellH_of a1']; simp, a3', fun h8 e8 => K1 hi h8 ?_⟩
    refine (fr.trans fB ?_).trans (G := [h.size + 1 + 1]) ?_ ?_
    · exact fun k hk => .inr (by simp at hk; omega)
    · rw [e8]; exact Fr.set (.inl (by simp))
    · exact fun k hk => .inr (by simp at hk; omega)
end Go.Hv.W

/- Large numbers: compared; sums and differences that are told. -/
namespace Go.Hv.W
open Go Go.Hv

theorem valN_lt {f g : Nat → Int} {i : Nat} (hf : byteF f) (hg : byteF g) (h : f i < g i) : ∀ n, i < n → (∀ j, i < j → j < n → f j = g j) → valN f n < valN g n
  | 0, h, _ => by omega
  | n + 1, hn, he => by
    simp only [valN]
    by_cases e : i = n
    · subst e
      have h1 := valN_bd hf i
      have h2 := valN_bd hg i
      have h3 : (f i + 1) * (256 : Int) ^ i ≤ g i * (256 : Int) ^ i := Int.mul_le_mul_of_nonneg_right (by omega) (Int.le_of_lt (pow_pos256 _))
      rw [Int.add_mul] at h3
      omega
    · have := valN_lt hf hg h n (by omega) fun j h1 h2 => he j h1 (by omega)
      rw [he n (by omega) (by omega)]
      omega

def cmpI (x y : Int) : Int := if x < y then -1 else if y < x then 1 else 0

theorem large_Cmp {sa sb : Sl} {la lb : List Int} {h : Heap} {R : Value → Heap → Prop} (Ha : Row h sa la) (Hb : Row h sb lb) (ha : la.length ≤ 1000000) (hb : lb.length ≤ 1000000)
    (K : ∀ h', Fr [] h h' → R (.int .i64 (cmpI (val la) (val lb))) h') : HC P F_large_Cmp #[.slice sa.a sa.n sa.c, .slice sb.a sb.n sb.c] h R := by
  have va := val_bd Ha.byte
  have vb := val_bd Hb.byte
  have dA := dig_len_le va.1 va.2
  have dB := dig_len_le vb.1 vb.2
  refine S_large_Cmp (box_new fun h1 g1 f1 s1 => box_new fun h2 g2 f2 s2 => ?_)
  have g1' := f2.get g1 (by simp)
  have f12 := f1.trans' f2
  rw [s1] at g2
  refine ⟨sb, by rw [cellH_of g1']; rfl, large_cut (Ha.grow f12) (by omega) fun ta Xa ba => ⟨ta, rfl, ⟨sb, by rw [cellH_of g1']; rfl, rfl⟩, large_cut (Hb.grow f12) (by omega) fun tb Xb bb => ⟨tb, rfl, StOK_of g1' (by simp), fun h3 e3 => ?_⟩⟩⟩
  have g3 : h3[h.size]? = some (.cells #[.slice tb.a tb.n tb.c] 39 (0, 0)) := by rw [e3]; exact get_putH_eq g1'
  have f3 : Fr [h.size] h2 h3 := by rw [e3]; exact Fr.put (.inl (by simp))
  have gr := f3.get g2 (by simp)
  have fr : Fr [] h h3 := f12.trans f3 fun k hk => .inr (by simp at hk; omega)
  have hlta : ∀ k ∈ ta.blk, k < h.size := fun k hk => Ha.is.lt k (ba ▸ hk)
  have hltb : ∀ k ∈ tb.blk, k < h.size := fun k hk => Hb.is.lt k (bb ▸ hk)
  have Ya : Row h3 ta (dig (val la)) := Xa.fr f3 fun k hk => by have := hlta k hk; simp; omega
  have Yb : Row h3 tb (dig (val lb)) := Xb.fr f3 fun k hk => by have := hltb k hk; simp; omega
  have na := Ya.is.len
  have nb := Yb.is.len
  rw [s1]
  refine ⟨tb, by rw [cellH_of g3]; rfl, condI (fun e => ?_) fun e => ?_⟩
  · have e : (ta.n : Int) ≠ tb.n := by simpa using e
    refine ⟨tb, by rw [cellH_of g3]; rfl, condI (fun e2 => ?_) fun e2 => ?_⟩
    · have e2 := of_decide_eq_true e2
      have : val la < val lb := by
        by_cases h : val la < val lb
        · exact h
        · have := dig_len_mono vb.1 (b := val la) (by omega)
          omega
      refine ⟨StOK_of gr (by simp), fun h4 e4 => ⟨-1, by rw [e4, cellH_of (get_putH_eq gr)]; rfl, ?_⟩⟩
      have := K h4 (fr.trans (G := [h.size + 1]) (by rw [e4]; exact Fr.put (.inl (by simp))) fun k hk => .inr (by simp at hk; omega))
      simpa [cmpI, ‹val la < val lb›] using this
    · have e2 : ¬ (ta.n : Int) < tb.n := by simpa using e2
      have : val lb < val la := by
        by_cases h : val lb < val la
        · exact h
        · have := dig_len_mono va.1 (b := val lb) (by omega)
          omega
      refine ⟨StOK_of gr (by simp), fun h4 e4 => ⟨1, by rw [e4, cellH_of (get_putH_eq gr)]; rfl, ?_⟩⟩
      have := K h4 (fr.trans (G := [h.size + 1]) (by rw [e4]; exact Fr.put (.inl (by simp))) fun k hk => .inr (by simp at hk; omega))
      simpa [cmpI, ‹val lb < val la›, show ¬ val la < val lb by omega] using this
  have e : (ta.n : Int) = tb.n := by simpa using e
  have hlen : (dig (val la)).length = (dig (val lb)).length := by omega
  have s3 : h3.size = h.size + 1 + 1 := by rw [e3, size_putH, s2, s1]
  refine slices_Backward fun h4 g4 f4 s4 => ⟨_, rfl, fun mk => box_new fun h5 g5 f5 s5 => box_new fun h6 g6 f6 s6 Y => ?_⟩
  have n4 : h4.size = h.size + 1 + 1 + 1 := by rw [s4, s3]
  have n5 : h5.size = h.size + 1 + 1 + 1 + 1 := by rw [s5, n4]
  have n6 : h6.size = h.size + 1 + 1 + 1 + 1 + 1 := by rw [s6, n5]
  have f36 := (f4.trans' f5).trans' f6
  have fA := fr.trans' f36
  have gA := f36.get g3 (by simp)
  have gR := f36.get gr (by simp)
  have gB := (f5.trans' f6).get g4 (by simp)
  have gC := f6.get g5 (by simp)
  rw [s3] at gB
  rw [n4] at gC
  rw [n5] at g6 Y
  rw [s3, n4, n5]
  have va1 : valN (dg (dig (val la))) (dig (val la)).length = val la := by rw [← val_valN, val_dig _ va.1]
  have vb1 : valN (dg (dig (val lb))) (dig (val la)).length = val lb := by rw [hlen, ← val_valN, val_dig _ vb.1]
  -- the end of a loop that was left
  let St : Heap → Prop := fun h' => Fr [] h h' ∧ Row h' ta (dig (val la)) ∧ Row h' tb (dig (val lb)) ∧ h'[h.size]? = some (.cells #[.slice tb.a tb.n tb.c] 39 (0, 0)) ∧ h'[h.size + 1 + 1]? = some (.cells #[.slice ta.a ta.n ta.c] 39 (0, 0)) ∧
    h'[h.size + 1 + 1 + 1]? = some (.deferred (some []))
  have keep : ∀ {h' h'' : Heap} {i : Nat}, St h' → Fr [i] h' h'' → h.size ≤ i → i ≠ h.size → i ≠ h.size + 1 + 1 → i ≠ h.size + 1 + 1 + 1 → St h'' := fun {h' h'' i} ⟨a, b, c, d, e, f⟩ x h1 h2 h3 h4 =>
    ⟨a.trans x fun k hk => .inr (by simp at hk; omega), b.fr x fun k hk => by have := hlta k hk; simp; omega, c.fr x fun k hk => by have := hltb k hk; simp; omega, x.get d (by simp; omega), x.get e (by simp; omega), x.get f (by simp; omega)⟩
  have Sz : ∀ {h'}, St h' → h.size ≤ h'.size := fun S => S.1.size
  show HC P F_slices_Backward_byte_byte_1 #[_, _] h6 _
  refine slices_Backward_1 (s := ta) (l := dig (val la)) (fun z h' => St h' ∧ (∃ r, h'[h.size + 1]? = some (.cells #[.int .i64 r] T_int (0, 0))) ∧ h'[h.size + 1 + 1 + 1 + 1]? = some (mk .ready .normal) ∧ ∀ j : Nat, z < (j : Int) → dg (dig (val la)) j = dg (dig (val lb)) j)
    (by omega) (fun z h' I => ⟨I.1.2.1, by rw [cellH_of I.1.2.2.2.2.1]; rfl⟩) ⟨⟨fA, Ya.grow f36, Yb.grow f36, gA, gB, gC⟩, ⟨0, gR⟩, g6, fun j hj => by rw [dg_over (by omega), dg_over (by omega)]⟩ (fun i h' hi I => ?_) fun h' I => ?_
  · obtain ⟨S, ⟨r, hr⟩, hm, heq⟩ := I
    refine Y _ _ _ _ ⟨hm, ?_⟩
    simp only [asI, if_true]
    refine ⟨hm, fun h7 e7 => ?_⟩
    have x7 : Fr [h.size + 1 + 1 + 1 + 1] h' h7 := by rw [e7]; exact Fr.set (.inl (by simp))
    have S7 := keep S x7 (by omega) (by omega) (by omega) (by omega)
    have m7 : h7[h.size + 1 + 1 + 1 + 1]? = some (mk .busy .normal) := by rw [e7]; exact get_set hm
    have r7 := x7.get hr (by simp; try omega)
    obtain ⟨b, hbb⟩ := S7.2.2.1.is.addr (i := i) (by omega)
    have leave : ∀ (v : Int), cmpI (val la) (val lb) = v → StOK h7 ⟨h.size + 1, 0, none⟩ 1 ∧ ∀ h8 : Heap, h8 = putH h7 ⟨h.size + 1, 0, none⟩ (.int .i64 v) → (h8[h.size + 1 + 1 + 1 + 1]? = some (mk .busy .normal) ∧ ∀ h9 : Heap, h9 = Array.setIfInBounds h8 (h.size + 1 + 1 + 1 + 1) (mk .done .ret) →
        St h9 ∧ h9[h.size + 1 + 1 + 1 + 1]? = some (mk .done .ret) ∧ h9[h.size + 1]? = some (.cells #[.int .i64 (cmpI (val la) (val lb))] T_int (0, 0))) := fun v hv => by
      refine ⟨StOK_of r7 (by simp), fun h8 e8 => ?_⟩
      have x8 : Fr [h.size + 1] h7 h8 := by rw [e8]; exact Fr.put (.inl (by simp))
      have m8 := x8.get m7 (by simp; try omega)
      have r8 : h8[h.size + 1]? = some (.cells #[.int .i64 v] T_int (0, 0)) := by rw [e8]; exact get_putH_eq r7
      refine ⟨m8, fun h9 e9 => ?_⟩
      have x9 : Fr [h.size + 1 + 1 + 1 + 1] h8 h9 := by rw [e9]; exact Fr.set (.inl (by simp))
      refine ⟨keep (keep S7 x8 (by omega) (by omega) (by omega) (by omega)) x9 (by omega) (by omega) (by omega) (by omega), by rw [e9]; exact get_set m8, ?_⟩
      rw [hv]
      exact x9.get r8 (by simp; try omega)
    have fin : ∀ h9 : Heap, St h9 ∧ h9[h.size + 1 + 1 + 1 + 1]? = some (mk .done .ret) ∧ h9[h.size + 1]? = some (.cells #[.int .i64 (cmpI (val la) (val lb))] T_int (0, 0)) →
        (h9[h.size + 1 + 1 + 1 + 1]? = some (mk .done .ret) ∧ ∀ h8 : Heap, h8 = Array.setIfInBounds h9 (h.size + 1 + 1 + 1 + 1) (mk .exhausted .ret) → (h8[h.size + 1 + 1 + 1]? = some (.deferred (some [])) ∧ ∀ h10 : Heap, h10 = Array.setIfInBounds h8 (h.size + 1 + 1 + 1) (.deferred none) →
          ∃ z1 : Int, cellH h10 ⟨h.size + 1, 0, none⟩ = some (.int .i64 z1) ∧ R (.int .i64 z1) h10)) := fun h9 ⟨S9, m9, r9⟩ => by
      refine ⟨m9, fun h8 e8 => ?_⟩
      have x8 : Fr [h.size + 1 + 1 + 1 + 1] h9 h8 := by rw [e8]; exact Fr.set (.inl (by simp))
      have S8 := keep S9 x8 (by omega) (by omega) (by omega) (by omega)
      refine ⟨S8.2.2.2.2.2, fun h10 e10 => ?_⟩
      have x10 : Fr [h.size + 1 + 1 + 1] h8 h10 := by rw [e10]; exact Fr.set (.inl (by simp))
      have r10 := x10.get (x8.get r9 (by simp; try omega)) (by simp; try omega)
      exact ⟨_, by rw [cellH_of r10]; rfl, K h10 (S8.1.trans x10 fun k hk => .inr (by simp at hk; omega))⟩
    have hb1 := S7.2.2.1.cell hbb (i := i) (by omega)
    refine ⟨tb, by rw [cellH_of S7.2.2.2.1]; rfl, ?_⟩
    rw [hbb, oE_some]
    simp only [Nat.mul_one, Int.toNat_natCast]
    refine ⟨by omega, by omega, _, hb1, condI (fun e1 => ?_) fun e1 => ⟨tb, by rw [cellH_of S7.2.2.2.1]; rfl, ?_⟩⟩
    · have e1 := of_decide_eq_true e1
      have hlt := valN_lt (Ya.byte.dg) (Yb.byte.dg) e1 _ hi fun j h1 _ => heq j (by omega)
      rw [va1, vb1] at hlt
      obtain ⟨l1, l2⟩ := leave (-1) (by simp [cmpI, hlt])
      refine ⟨l1, fun h8 e8 => ⟨(l2 h8 e8).1, fun h9 e9 => .inr ⟨trivial, .inr (.inl (fin h9 ((l2 h8 e8).2 h9 e9)))⟩⟩⟩
    · have e1 : ¬ dg (dig (val la)) i < dg (dig (val lb)) i := by simpa using e1
      rw [hbb, oE_some]
      refine ⟨by omega, by omega, _, hb1, condI (fun e2 => ?_) fun e2 => ?_⟩
      · have e2 := of_decide_eq_true e2
        have hlt := valN_lt (Yb.byte.dg) (Ya.byte.dg) e2 _ hi fun j h1 _ => (heq j (by omega)).symm
        rw [va1, vb1] at hlt
        obtain ⟨l1, l2⟩ := leave 1 (by simp [cmpI, hlt]; omega)
        refine ⟨l1, fun h8 e8 => ⟨(l2 h8 e8).1, fun h9 e9 => .inr ⟨trivial, .inr (.inl (fin h9 ((l2 h8 e8).2 h9 e9)))⟩⟩⟩
      · have e2 : ¬ dg (dig (val lb)) i < dg (dig (val la)) i := by simpa using e2
        refine ⟨m7, fun h8 e8 => .inl ⟨trivial, ?_⟩⟩
        have x8 : Fr [h.size + 1 + 1 + 1 + 1] h7 h8 := by rw [e8]; exact Fr.set (.inl (by simp))
        refine ⟨keep S7 x8 (by omega) (by omega) (by omega) (by omega), ⟨r, x8.get r7 (by simp; try omega)⟩, by rw [e8]; exact get_set m7, fun j hj => ?_⟩
        by_cases h : j = i
        · subst h; omega
        · exact heq j (by omega)
  · obtain ⟨S, ⟨r, hr⟩, hm, heq⟩ := I
    have hv : val la = val lb := by
      rw [← va1, ← vb1]
      exact valN_congr fun i _ => heq i (by omega)
    refine .inl ⟨hm, fun h8 e8 => ?_⟩
    have x8 : Fr [h.size + 1 + 1 + 1 + 1] h' h8 := by rw [e8]; exact Fr.set (.inl (by simp))
    have S8 := keep S x8 (by omega) (by omega) (by omega) (by omega)
    have r8 := x8.get hr (by simp; try omega)
    refine ⟨StOK_of r8 (by simp), fun h9 e9 => ?_⟩
    have x9 : Fr [h.size + 1] h8 h9 := by rw [e9]; exact Fr.put (.inl (by simp))
    have S9 := keep S8 x9 (by omega) (by omega) (by omega) (by omega)
    have r9 : h9[h.size + 1]? = some (.cells #[.int .i64 0] T_int (0, 0)) := by rw [e9]; exact get_putH_eq r8
    refine ⟨S9.2.2.2.2.2, fun h10 e10 => ?_⟩
    have x10 : Fr [h.size + 1 + 1 + 1] h9 h10 := by rw [e10]; exact Fr.set (.inl (by simp))
    have r10 := x10.get r9 (by simp; try omega)
    have hc : cmpI (val la) (val lb) = 0 := by simp [cmpI, hv]
    have := K h10 (S9.1.trans x10 fun k hk => .inr (by simp at hk; omega))
    rw [hc] at this
    exact ⟨0, by rw [cellH_of r10]; rfl, this⟩
end Go.Hv.W

/- Large numbers: sums and differences that are told. -/
namespace Go.Hv.W
open Go Go.Hv

theorem large_Sub {sa sb : Sl} {la lb : List Int} {h : Heap} {R : Value → Heap → Prop} (Ha : Row h sa la) (Hb : Row h sb lb) (ha : la.length ≤ 1000000) (hb : lb.length ≤ 1000000)
    (K0 : ¬ (rightB la = true ∧ rightB lb = true) → R (.tuple #[.slice none 0 0, .int .i64 2]) h)
    (K1 : rightB la = true → rightB lb = true → val lb ≤ val la → ∀ h' s', Row h' s' (dig (val la - val lb)) → Fr [] h h' → (∀ k ∈ s'.blk, h.size ≤ k) → R (.tuple #[.slice s'.a s'.n s'.c, .int .i64 0]) h')
    (K4 : rightB la = true → rightB lb = true → val la < val lb → ∀ h', Fr [] h h' → R (.tuple #[.slice none 0 0, .int .i64 4]) h') :
    HC P F_large_Sub #[.slice sa.a sa.n sa.c, .slice sb.a sb.n sb.c] h R := by
  refine S_large_Sub (large_Right Ha (by omega) ⟨_, rfl, condI (fun e => K0 fun h => ?_) fun e => large_Right Hb (by omega) ⟨_, rfl, condI (fun e2 => K0 fun h => ?_) fun e2 => ?_⟩⟩)
  · have e := not_eq_true_of e
    rw [h.1] at e
    cases e
  · have e2 := not_eq_true_of e2
    rw [h.2] at e2
    cases e2
  have e := not_eq_false_of e
  have e2 := not_eq_false_of e2
  have va := val_bd Ha.byte
  have vb := val_bd Hb.byte
  refine large_Cmp Ha Hb ha hb fun h1 f1 => ⟨_, rfl, condI (fun e3 => ?_) fun e3 => ?_⟩
  · have e3 := of_decide_eq_true e3
    refine K4 e e2 ?_ h1 f1
    unfold cmpI at e3
    split at e3
    · assumption
    · split at e3 <;> omega
  · have e3 : ¬ cmpI (val la) (val lb) < 0 := by simpa using e3
    have hle : val lb ≤ val la := by
      unfold cmpI at e3
      split at e3
      · omega
      · omega
    have hlen : lb.length ≤ la.length := by
      rw [(right_dig e).2, (right_dig e2).2]
      exact dig_len_mono vb.1 hle
    exact large_minus (Ha.grow f1) (Hb.grow f1) ha hlen hle fun h2 s' X f2 fr => ⟨s', rfl, K1 e e2 hle h2 s' X (f1.trans' f2) fun k hk => Nat.le_trans f1.size (fr k hk)⟩

theorem slices_ContainsFunc_row {b : Nat} {sb : Sl} {c : Nat} {T : TypeId} {q : Nat × Nat} {g : Value} {p : Bool} {h : Heap} {R : Value → Heap → Prop} (hg : h[b]? = some (.cells #[.slice sb.a sb.n sb.c] T q))
    (hv : ∀ (R' : Value → Heap → Prop), R' (.bool p) h → HV P g #[.slice sb.a sb.n sb.c] h R') (K : R (.bool p) h) : HC P F_slices_ContainsFunc_byte_byte #[.slice (some ⟨b, 0, none⟩) 1 c, g] h R := by
  refine S_slices_ContainsFunc_byte_byte (S_slices_IndexFunc_byte_byte (sa0 := ⟨some ⟨b, 0, none⟩, 1, c⟩) ⟨fun z _ h' => h' = h ∧ (z = 0 ∨ (z = 1 ∧ p = false)), fun z _ _ => (1 - z).toNat, ⟨rfl, .inl rfl⟩, fun z w h' I => ?_⟩)
  obtain ⟨rfl, I⟩ := I
  rcases I with rfl | ⟨rfl, hp⟩
  · refine condI (fun e => ?_) fun e => (by simp at e)
    refine ⟨by omega, by simp, sb, ?_, ?_⟩
    · show cellH h' (Addr.add ⟨b, 0, none⟩ 0) = _
      rw [add_add, cellH_of hg]
      rfl
    · refine hv _ ⟨p, rfl, condI (fun e2 => ?_) fun e2 => ⟨⟨by omega, by omega⟩, ⟨rfl, .inr ⟨rfl, e2⟩⟩, by show Int.toNat _ < Int.toNat _; omega⟩⟩
      rw [e2] at K
      exact ⟨0, rfl, K⟩
  · refine condI (fun e => (by simp at e)) fun e => ?_
    rw [hp] at K
    exact ⟨-1, rfl, K⟩

theorem large_Add {sa sb : Sl} {la lb : List Int} {b c : Nat} {T : TypeId} {q : Nat × Nat} {h : Heap} {R : Value → Heap → Prop} (Ha : Row h sa la) (Hb : Row h sb lb) (hg : h[b]? = some (.cells #[.slice sb.a sb.n sb.c] T q)) (ha : la.length ≤ 100000) (hb : lb.length ≤ 100000)
    (K0 : ¬ (rightB la = true ∧ rightB lb = true) → R (.tuple #[.slice none 0 0, .int .i64 2]) h)
    (K1 : rightB la = true → rightB lb = true → (dig (val la + val lb)).length ≤ 400 → ∀ h' s', Row h' s' (dig (val la + val lb)) → Fr [] h h' → (∀ k ∈ s'.blk, h.size ≤ k) → R (.tuple #[.slice s'.a s'.n s'.c, .int .i64 0]) h')
    (K3 : rightB la = true → rightB lb = true → 400 < (dig (val la + val lb)).length → ∀ h', Fr [] h h' → R (.tuple #[.slice none 0 0, .int .i64 3]) h') :
    HC P F_large_Add #[.slice sa.a sa.n sa.c, .slice (some ⟨b, 0, none⟩) 1 c] h R := by
  have va := val_bd Ha.byte
  have vb := val_bd Hb.byte
  refine S_large_Add (sa1 := ⟨some ⟨b, 0, none⟩, 1, c⟩) (large_Right Ha (by omega) ⟨_, rfl, condI (fun e => K0 fun h => ?_) fun e => slices_ContainsFunc_row (p := !rightB lb) hg (fun R' k => HV.of_func (S_large_Add_1 (large_Right Hb (by omega) ⟨_, rfl, k⟩)))
    ⟨_, rfl, condI (fun e2 => K0 fun h => ?_) fun e2 => ?_⟩⟩)
  · have e := not_eq_true_of e
    rw [h.1] at e
    cases e
  · have e2 := not_eq_true_of e2
    rw [h.2] at e2
    cases e2
  have e := not_eq_false_of e
  have e2 := not_eq_false_of e2
  have hdl : (dig (val la + val lb)).length ≤ 200001 := by
    refine dig_len_le (by omega) ?_
    have p1 := pow_le_pow256 (a := la.length) (b := 200000) (by omega)
    have p2 := pow_le_pow256 (a := lb.length) (b := 200000) (by omega)
    have : (256 : Int) ^ (200000 + 1) = (256 : Int) ^ 200000 * 256 := Int.pow_succ ..
    generalize (256 : Int) ^ 200000 = p at p1 p2 this
    rw [show (200001 : Nat) = 200000 + 1 from rfl, this]
    omega
  refine clone_byte Ha.is (by omega) fun h1 s1 G1 f1 n1 => ⟨s1, rfl, ?_⟩
  refine ⟨fun z s' h' => Fr [] h h' ∧ (∀ k ∈ s'.blk, h.size ≤ k) ∧ ((z = 0 ∧ Row h' s' la) ∨ (z = 1 ∧ Row h' s' (dig (val la + val lb)))), fun z _ _ => (1 - z).toNat, ⟨f1, n1, .inl ⟨rfl, G1.is, G1.cap, Ha.byte⟩⟩, fun z s' h' I => ?_⟩
  obtain ⟨fr, nf, I⟩ := I
  rcases I with ⟨rfl, X⟩ | ⟨rfl, X⟩
  · refine condI (fun e => ?_) fun e => (by simp at e)
    refine ⟨by omega, by simp, sb, ?_, ?_⟩
    · show cellH h' (Addr.add ⟨b, 0, none⟩ 0) = _
      rw [add_add, cellH_of (fr.get hg (by simp))]
      rfl
    · exact large_plus X (Hb.grow fr) (by omega) (by omega) fun h2 s2 X2 f2 n2 => ⟨s2, rfl, ⟨by omega, by omega⟩, ⟨fr.trans' f2, fun k hk => Nat.le_trans fr.size (n2 k hk), .inr ⟨rfl, X2⟩⟩, by show Int.toNat _ < Int.toNat _; omega⟩
  · refine condI (fun e => (by simp at e)) fun _ => ?_
    have hv := val_dig (val la + val lb) (by omega)
    refine large_told X (by omega) (fun hl t X' hb' => ⟨t, _, rfl, ?_⟩) fun hl => ⟨⟨none, 0, 0⟩, _, rfl, ?_⟩
    · rw [hv] at hl X'
      exact K1 e e2 hl h' t X' fr fun k hk => nf k (hb' ▸ hk)
    · rw [hv] at hl
      exact K3 e e2 hl h' fr
end Go.Hv.W
