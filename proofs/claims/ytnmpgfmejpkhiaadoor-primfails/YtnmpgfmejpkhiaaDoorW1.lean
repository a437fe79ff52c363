/- What the functions of the program do, each by its contract. -/
import Derived.Test.YtnmpgfmejpkhiaaDoorS0
/- Words. -/
namespace Go.Hv.W
open Go Go.Hv

theorem condI {b : Bool} {x y : Prop} (h1 : b = true → x) (h2 : b = false → y) : cond b x y := by
  cases b
  · exact h2 rfl
  · exact h1 rfl

theorem word_Number {o : Int} {h : Heap} {R : Value → Heap → Prop} (K : R (.tuple #[.int .i64 (numV o), .bool (numB o)]) h) : HC P F_word_Number #[.int .i64 o] h R := by
  refine S_word_Number ⟨by omega, by omega, ?_⟩
  rw [andI_1]
  have no : numB o = false → R (.tuple #[.int .i64 0, .bool false]) h := fun hb => by simpa [numV, hb] using K
  refine condI (fun e1 => no ?_) fun e1 => condI (fun e2 => no ?_) fun e2 => condI (fun e3 => no ?_) fun e3 => ?_
  · simp at e1; simp [numB]; omega
  · simp at e2; simp [numB]; omega
  · simp at e3; simp [numB]; omega
  · have hb : numB o = true := by simp at e1 e2 e3; simp [numB]; omega
    simpa [numV, hb] using K

theorem word_Named {o : Int} {h : Heap} {R : Value → Heap → Prop} (K : R (.tuple #[.int .i64 (namV o), .bool (namB o)]) h) : HC P F_word_Named #[.int .i64 o] h R := by
  refine S_word_Named ?_
  rw [andI_1]
  have no : namB o = false → R (.tuple #[.int .i64 0, .bool false]) h := fun hb => by simpa [namV, hb] using K
  refine condI (fun e1 => no ?_) fun e1 => condI (fun e2 => no ?_) fun e2 => condI (fun e3 => no ?_) fun e3 => ?_
  · simp at e1; simp [namB]; omega
  · simp at e2; simp [namB]; omega
  · simp at e3; simp [namB]; omega
  · have hb : namB o = true := by simp at e1 e2 e3; simp [namB]; omega
    have h0 : 0 ≤ o := by simp at e2; omega
    rw [Int.tdiv_eq_ediv_of_nonneg h0]
    refine ⟨by omega, ⟨by omega, by simp at e3; omega⟩, ?_⟩
    simpa [namV, hb] using K

theorem word_Oop {o : Int} {h : Heap} {R : Value → Heap → Prop} (K : R (.int .i64 (oopV o)) h) : HC P F_word_Oop #[.int .i64 o] h R := by
  refine S_word_Oop (condI (fun e1 => ?_) fun e1 => condI (fun e2 => ?_) fun e2 => ⟨?_, ?_⟩)
  · have : oopV o = 0 := by simp at e1; simp [oopV]; omega
    rw [this] at K; exact K
  · have : oopV o = 0 := by simp at e2; simp [oopV]; omega
    rw [this] at K; exact K
  · simp at e1 e2; exact ⟨by omega, by omega⟩
  · have : oopV o = 2 * o := by simp at e1 e2; simp [oopV]; omega
    rw [this] at K; exact K
end Go.Hv.W

/- The memory without bounds: how it lies in the heap. -/
namespace Go.Hv.W
open Go Go.Hv

/-- an object -/
structure AO where
  cls : Int
  kind : Int
  w : List Int
  b : List Int

def AO.size (a : AO) : Nat := if a.kind = 1 then a.w.length else if a.kind = 2 then a.b.length else 0

/-- may it be? -/
structure AO.OK (a : AO) : Prop where
  cls : namB a.cls = true
  kind : (a.kind = 1 ∧ a.b = [] ∧ a.w.length ≤ 1000 ∧ ∀ x ∈ a.w, refB x = true) ∨ (a.kind = 2 ∧ a.w = [] ∧ a.b.length ≤ 1000 ∧ ∀ x ∈ a.b, 0 ≤ x ∧ x ≤ 255)

/-- an object's cells -/
def objCells (cls kind : Int) (sw sb : Sl) : Array Value := #[.int .i64 cls, .int .i64 kind, .slice sw.a sw.n sw.c, .slice sb.a sb.n sb.c]

/-- a slice over memory that is its own -/
structure SlW (h : Heap) (s : Sl) (k : IntKind) (l : List Int) : Prop where
  is : SlI h s k l
  own : ∀ p, s.a = some p → ∃ cs T, h[p.block]? = some (.cells cs T (0, 0))

theorem SlW.fr {F : List Nat} {h h' : Heap} {s : Sl} {k : IntKind} {l : List Int} (H : SlW h s k l) (x : Fr F h h') (hF : ∀ b ∈ s.blk, b ∉ F) : SlW h' s k l :=
  ⟨H.is.fr x hF, fun p hp => by
    obtain ⟨cs, T, h1⟩ := H.own p hp
    exact ⟨cs, T, x.get h1 (hF _ (by simp [Sl.blk, hp]))⟩⟩

theorem SlW.st {h : Heap} {s : Sl} {k : IntKind} {l : List Int} (H : SlW h s k l) {p : Addr} (hp : s.a = some p) {i : Nat} (hi : i < l.length) : StOK h (p.add i) 1 := by
  obtain ⟨h0, cs, T, q, h1, h2, h3⟩ := H.is.get p hp
  obtain ⟨cs', T', h4⟩ := H.own p hp
  rw [h1] at h4
  cases h4
  obtain ⟨b, o, sp⟩ := p
  simp only at h0
  subst h0
  rw [add_add]
  exact StOK_of h1 (by simp only at h2; omega)

theorem SlW.put {h : Heap} {s : Sl} {k : IntKind} {l : List Int} (H : SlW h s k l) {p : Addr} (hp : s.a = some p) {i : Nat} {z : Int} (hi : i < l.length) :
    SlW (putH h (p.add i) (.int k z)) s k (l.set i z) := by
  obtain ⟨h0, cs, T, q, h1, h2, h3⟩ := H.is.get p hp
  obtain ⟨cs', T', h4⟩ := H.own p hp
  rw [h1] at h4
  cases h4
  have hn := H.is.len
  obtain ⟨b, o, sp⟩ := p
  simp only at h0 h1 h2 h3
  subst h0
  rw [add_add]
  have hg := get_putH_eq (o := o + i) (v := Value.int k z) h1
  refine ⟨⟨by rw [List.length_set]; exact hn, fun e => (by rw [hp] at e; cases e), fun p' hp' => ?_⟩, fun p' hp' => ?_⟩
  · rw [hp] at hp'
    cases hp'
    refine ⟨rfl, _, _, _, hg, by simp; omega, fun j hj => ?_⟩
    rw [List.length_set] at hj
    simp only
    by_cases hji : j = i
    · subst hji
      rw [Array.getElem?_setIfInBounds_self_of_lt (by omega)]
      simp [hj]
    · rw [Array.getElem?_setIfInBounds_ne (by omega), h3 j hj, List.getElem?_set_ne (by omega)]
  · rw [hp] at hp'
    cases hp'
    exact ⟨_, _, hg⟩

/-- an object in memory -/
structure LO where
  id : Int
  bo : Nat
  sw : Sl
  sb : Sl
  ao : AO

def LO.fp (o : LO) : List Nat := o.bo :: (o.sw.blk ++ o.sb.blk)

structure ObjOK (h : Heap) (o : LO) : Prop where
  cell : h[o.bo]? = some (.cells (objCells o.ao.cls o.ao.kind o.sw o.sb) T_api_Obj (0, 0))
  w : SlW h o.sw .i64 o.ao.w
  b : SlW h o.sb .u8 o.ao.b
  ok : o.ao.OK
  nd : o.fp.Nodup

theorem ObjOK.fr {F : List Nat} {h h' : Heap} {o : LO} (H : ObjOK h o) (x : Fr F h h') (hF : ∀ b ∈ o.fp, b ∉ F) : ObjOK h' o :=
  ⟨x.get H.cell (hF _ (by simp [LO.fp])), H.w.fr x fun b hb => hF b (by simp [LO.fp, hb]), H.b.fr x fun b hb => hF b (by simp [LO.fp, hb]), H.ok, H.nd⟩

theorem ObjOK.lt {h : Heap} {o : LO} (H : ObjOK h o) : ∀ k ∈ o.fp, k < h.size := by
  intro k hk
  simp only [LO.fp, List.mem_cons, List.mem_append] at hk
  rcases hk with rfl | hk | hk
  · exact lt_of_get H.cell
  · exact H.w.is.lt k hk
  · exact H.b.is.lt k hk

/-- the entries of the map -/
def LO.entry (o : LO) : Value × Value := (.int .i64 o.id, .pointer (some ⟨o.bo, 0, none⟩))

structure Flat (h : Heap) (pb mb : Nat) (made : Int) (L : List LO) : Prop where
  mem : h[pb]? = some (.cells #[.map (some mb), .int .i64 made] T_flat_Memory (0, 0))
  map : ∃ es clk, h[mb]? = some (.map es clk) ∧ es.toList.map (fun e => (e.key, e.val)) = L.map LO.entry ∧ (∀ e ∈ es.toList, e.born < clk) ∧ (es.toList.map (·.born)).Nodup
  objs : ∀ o ∈ L, ObjOK h o
  rng : ∀ o ∈ L, 1 ≤ o.id ∧ o.id ≤ made
  ne : pb ≠ mb
  own : ∀ o ∈ L, pb ∉ o.fp ∧ mb ∉ o.fp
  ord : L.Pairwise fun a b => a.id < b.id ∧ ∀ x ∈ a.fp, x ∉ b.fp
  pos : 0 ≤ made

def fpM (pb mb : Nat) (L : List LO) : List Nat := pb :: mb :: L.flatMap LO.fp

theorem mem_fpM {pb mb : Nat} {L : List LO} {k : Nat} : k ∈ fpM pb mb L ↔ k = pb ∨ k = mb ∨ ∃ o ∈ L, k ∈ o.fp := by
  simp [fpM, List.mem_flatMap]

theorem Flat.lt {h : Heap} {pb mb : Nat} {made : Int} {L : List LO} (H : Flat h pb mb made L) : ∀ k ∈ fpM pb mb L, k < h.size := by
  intro k hk
  rcases mem_fpM.1 hk with rfl | rfl | ⟨o, ho, hk⟩
  · exact lt_of_get H.mem
  · obtain ⟨es, clk, h1, _⟩ := H.map
    exact lt_of_get h1
  · exact (H.objs o ho).lt k hk

theorem Flat.fr {F : List Nat} {h h' : Heap} {pb mb : Nat} {made : Int} {L : List LO} (H : Flat h pb mb made L) (x : Fr F h h') (hF : ∀ k ∈ fpM pb mb L, k ∉ F) : Flat h' pb mb made L := by
  obtain ⟨es, clk, h1, h2, h3, h4⟩ := H.map
  exact ⟨x.get H.mem (hF _ (mem_fpM.2 (.inl rfl))), ⟨es, clk, x.get h1 (hF _ (mem_fpM.2 (.inr (.inl rfl)))), h2, h3, h4⟩,
    fun o ho => (H.objs o ho).fr x fun b hb => hF b (mem_fpM.2 (.inr (.inr ⟨o, ho, hb⟩))), H.rng, H.ne, H.own, H.ord, H.pos⟩

/-- new memory alone -/
theorem Flat.grow {h h' : Heap} {pb mb : Nat} {made : Int} {L : List LO} (H : Flat h pb mb made L) (x : Fr [] h h') : Flat h' pb mb made L := H.fr x fun _ _ => by simp

/-! ### Looking one up -/
def lk (L : List LO) (id : Int) : Option LO := L.find? fun o => o.id == id

theorem lk_some {L : List LO} {id : Int} {o : LO} (h : lk L id = some o) : o ∈ L ∧ o.id = id := by
  unfold lk at h
  exact ⟨List.mem_of_find?_eq_some h, by simpa using List.find?_some h⟩

theorem lk_none {L : List LO} {id : Int} (h : lk L id = none) : ∀ o ∈ L, o.id ≠ id := by
  intro o ho
  have := List.find?_eq_none.1 h o ho
  simpa using this

theorem mfind_lk {id : Int} : ∀ {es : List MapEntry} {L : List LO}, es.map (fun e => (e.key, e.val)) = L.map LO.entry →
    (mfind id es).map (·.2) = (lk L id).map fun o => Value.pointer (some ⟨o.bo, 0, none⟩)
  | [], [], _ => rfl
  | [], o :: L, h => by simp at h
  | e :: es, [], h => by simp at h
  | e :: es, o :: L, h => by
    simp only [List.map_cons, List.cons.injEq, Prod.mk.injEq, LO.entry] at h
    obtain ⟨⟨hk, hv⟩, ht⟩ := h
    have ih := mfind_lk (id := id) ht
    simp only [mfind, hk, lk, List.find?_cons]
    by_cases hid : o.id = id
    · simp [hid, hv]
    · simp only [hid, if_false]
      have : (o.id == id) = false := by simpa using hid
      rw [this]
      simp only [Option.map_map]
      rw [show (fun x : Nat × Value => x.2) ∘ (fun x : Nat × Value => match x with | (i, v) => (i + 1, v)) = (·.2) from rfl]
      exact ih

theorem mget_lk {es : Array MapEntry} {L : List LO} {id : Int} (h : es.toList.map (fun e => (e.key, e.val)) = L.map LO.entry) :
    mget es id = (lk L id).map fun o => Value.pointer (some ⟨o.bo, 0, none⟩) := mfind_lk h

theorem intKeys_of {es : Array MapEntry} {L : List LO} (h : es.toList.map (fun e => (e.key, e.val)) = L.map LO.entry) : IntKeys .i64 es := by
  refine ⟨fun e he => ?_⟩
  have : (e.key, e.val) ∈ L.map LO.entry := by rw [← h]; exact List.mem_map.2 ⟨e, he, rfl⟩
  obtain ⟨o, _, ho⟩ := List.mem_map.1 this
  simp only [LO.entry, Prod.mk.injEq] at ho
  exact ⟨o.id, ho.1.symm⟩

theorem Flat.two {h : Heap} {pb mb : Nat} {made : Int} {L : List LO} (H : Flat h pb mb made L) {a b : LO} (ha : a ∈ L) (hb : b ∈ L) (hn : a.id ≠ b.id) : ∀ x ∈ a.fp, x ∉ b.fp := by
  have := H.ord
  obtain ⟨i, hi, rfl⟩ := List.getElem_of_mem ha
  obtain ⟨j, hj, rfl⟩ := List.getElem_of_mem hb
  have hp := List.pairwise_iff_getElem.1 H.ord
  rcases Nat.lt_trichotomy i j with hij | rfl | hij
  · exact (hp i j hi hj hij).2
  · exact absurd rfl hn
  · exact fun x hx hx' => (hp j i hj hi hij).2 x hx' hx

/-- the ids tell the objects -/
theorem Flat.uniq {h : Heap} {pb mb : Nat} {made : Int} {L : List LO} (H : Flat h pb mb made L) {a b : LO} (ha : a ∈ L) (hb : b ∈ L) (hn : a.id = b.id) : a = b := by
  obtain ⟨i, hi, rfl⟩ := List.getElem_of_mem ha
  obtain ⟨j, hj, rfl⟩ := List.getElem_of_mem hb
  have hp := List.pairwise_iff_getElem.1 H.ord
  rcases Nat.lt_trichotomy i j with hij | rfl | hij
  · have := (hp i j hi hj hij).1; omega
  · rfl
  · have := (hp j i hj hi hij).1; omega

/-- one of them turned -/
def upd (L : List LO) (id : Int) (f : LO → LO) : List LO := L.map fun o => if o.id = id then f o else o
end Go.Hv.W

/- What a memory does: the contract that whoever uses one leans on. -/
namespace Go.Hv.W
open Go Go.Hv

/-- what a memory holds -/
structure St where
  made : Int
  objs : List (Int × AO)

def St.get (s : St) (id : Int) : Option AO := (s.objs.find? fun p => p.1 == id).map (·.2)
def St.set (s : St) (id : Int) (a : AO) : St := { s with objs := s.objs.map fun p => if p.1 = id then (id, a) else p }
def St.add (s : St) (a : AO) : St := { made := s.made + 1, objs := s.objs ++ [(s.made + 1, a)] }
/-- the least number above one; 0: none -/
def St.nextId (s : St) (id : Int) : Int := match s.objs.find? fun p => decide (id < p.1) with | some p => p.1 | none => 0

structure St.OK (s : St) : Prop where
  objs : ∀ p ∈ s.objs, p.2.OK
  rng : ∀ p ∈ s.objs, 1 ≤ p.1 ∧ p.1 ≤ s.made
  ord : s.objs.Pairwise fun a b => a.1 < b.1
  pos : 0 ≤ s.made

def fetchE (s : St) (o i : Int) : Int :=
  match s.get (namV o) with
  | none => 4
  | some a => if a.kind ≠ 1 then 20 else if i < 0 ∨ (a.size : Int) ≤ i then 21 else 0
def fetchV (s : St) (o i : Int) : Int :=
  match s.get (namV o) with
  | none => 0
  | some a => if fetchE s o i = 0 then (a.w[i.toNat]?).getD 0 else 0

def byteE (s : St) (o i : Int) : Int :=
  match s.get (namV o) with
  | none => 4
  | some a => if a.kind ≠ 2 then 20 else if i < 0 ∨ (a.size : Int) ≤ i then 21 else 0
def byteV (s : St) (o i : Int) : Int :=
  match s.get (namV o) with
  | none => 0
  | some a => if byteE s o i = 0 then (a.b[i.toNat]?).getD 0 else 0

def setE' (s : St) (o i v : Int) : Int := if fetchE s o i ≠ 0 then fetchE s o i else if refB v then 0 else 2
def setS (s : St) (o i v : Int) : St :=
  match s.get (namV o) with
  | none => s
  | some a => if setE' s o i v = 0 then s.set (namV o) { a with w := a.w.set i.toNat v } else s

def setByteE (s : St) (o i v : Int) : Int := if byteE s o i ≠ 0 then byteE s o i else if v < 0 ∨ 255 < v then 2 else 0
def setByteS (s : St) (o i v : Int) : St :=
  match s.get (namV o) with
  | none => s
  | some a => if setByteE s o i v = 0 then s.set (namV o) { a with b := a.b.set i.toNat v } else s

def newOK (cls kind size : Int) : Bool := namB cls && ((kind == 1 || kind == 2) && (decide (0 ≤ size) && decide (size ≤ 1000)))
def blankA (cls kind size : Int) : AO := { cls, kind, w := if kind = 1 then List.replicate size.toNat 2 else [], b := if kind = 1 then [] else List.replicate size.toNat 0 }

def becomeE (s : St) (a b : Int) : Int := if (s.get (namV a)).isNone then 4 else if (s.get (namV b)).isNone then 4 else 0
def becomeS (s : St) (a b : Int) : St :=
  match s.get (namV a), s.get (namV b) with
  | some x, some y => (s.set (namV a) y).set (namV b) x
  | _, _ => s

/-- from one heap to the next: only what was the memory's, and new memory, is the memory's now, and was turned -/
structure Mv (F : List Nat) (h : Heap) (F' : List Nat) (h' : Heap) : Prop where
  fr : Fr F h h'
  sub : ∀ k ∈ F', k ∈ F ∨ h.size ≤ k

theorem Mv.refl (F : List Nat) (h : Heap) : Mv F h F h := ⟨Fr.refl F h, fun _ h => .inl h⟩
theorem Mv.trans {F G H : List Nat} {a b c : Heap} (x : Mv F a G b) (y : Mv G b H c) : Mv F a H c :=
  ⟨x.fr.trans y.fr x.sub, fun k hk => (y.sub k hk).elim (fun h => x.sub k h) (fun h => .inr (Nat.le_trans x.fr.size h))⟩
theorem Mv.grow {F : List Nat} {a b : Heap} (x : Fr [] a b) : Mv F a F b := ⟨x.mono fun _ h => by simp at h, fun _ h => .inl h⟩
/-- what is not the memory's stays, and stays not the memory's -/
theorem Mv.out {F G : List Nat} {a b : Heap} (x : Mv F a G b) {k : Nat} (hk : k < a.size) (hf : k ∉ F) : k ∉ G := fun h => (x.sub k h).elim hf (fun h => by omega)
theorem Mv.sl {F G : List Nat} {a b : Heap} (x : Mv F a G b) {s : Sl} {j : IntKind} {l : List Int} (H : SlI a s j l) (hf : ∀ k ∈ s.blk, k ∉ F) : SlI b s j l ∧ ∀ k ∈ s.blk, k ∉ G :=
  ⟨H.fr x.fr hf, fun k hk => x.out (H.lt k hk) (hf k hk)⟩

/-- a slice that is read; where it holds nothing, its address may be any -/
structure SlX (h : Heap) (s : Sl) (k : IntKind) (l : List Int) : Prop where
  len : s.n = l.length
  nil : s.a = none → l = []
  get : ∀ p, s.a = some p → l ≠ [] → p.spot = none ∧ ∃ cs T q, h[p.block]? = some (.cells cs T q) ∧ p.off + l.length ≤ cs.size ∧ ∀ i, i < l.length → cs[p.off + i]? = (l[i]?).map (Value.int k)

/-- its blocks, where it holds something -/
def blkL (s : Sl) (l : List Int) : List Nat := match l with | [] => [] | _ :: _ => s.blk

theorem blkL_sub {s : Sl} {l : List Int} {k : Nat} (h : k ∈ blkL s l) : k ∈ s.blk := by
  cases l with
  | nil => cases h
  | cons x l => exact h

theorem mem_blkL {s : Sl} {l : List Int} (hl : l ≠ []) : blkL s l = s.blk := by
  cases l with
  | nil => exact absurd rfl hl
  | cons x l => rfl

theorem _root_.Go.Hv.SlI.x {h : Heap} {s : Sl} {k : IntKind} {l : List Int} (H : SlI h s k l) : SlX h s k l := ⟨H.len, H.nil, fun p hp _ => H.get p hp⟩

theorem SlX.is {h : Heap} {s : Sl} {k : IntKind} {l : List Int} (H : SlX h s k l) (hl : l ≠ []) : SlI h s k l := ⟨H.len, H.nil, fun p hp => H.get p hp hl⟩

theorem SlX.fr {F : List Nat} {h h' : Heap} {s : Sl} {k : IntKind} {l : List Int} (H : SlX h s k l) (x : Fr F h h') (hF : ∀ b ∈ blkL s l, b ∉ F) : SlX h' s k l :=
  ⟨H.len, H.nil, fun p hp hl => ((H.is hl).fr x fun b hb => hF b (by rw [mem_blkL hl]; exact hb)).get p hp⟩

theorem SlX.cell {h : Heap} {s : Sl} {k : IntKind} {l : List Int} (H : SlX h s k l) {p : Addr} (hp : s.a = some p) {i : Nat} {z : Int} (hi : l[i]? = some z) : cellH h (p.add i) = some (.int k z) :=
  (H.is fun e => by subst e; simp at hi).cell hp hi

theorem SlX.addr {h : Heap} {s : Sl} {k : IntKind} {l : List Int} (H : SlX h s k l) {i : Nat} (hi : i < l.length) : ∃ p, s.a = some p :=
  (H.is fun e => by subst e; simp at hi).addr hi

theorem Mv.slx {F G : List Nat} {a b : Heap} (x : Mv F a G b) {s : Sl} {j : IntKind} {l : List Int} (H : SlX a s j l) (hf : ∀ k ∈ blkL s l, k ∉ F) : SlX b s j l ∧ ∀ k ∈ blkL s l, k ∉ G :=
  ⟨H.fr x.fr hf, fun k hk => by
    have hl : l ≠ [] := fun e => by subst e; cases hk
    have hk' := hk
    rw [mem_blkL hl] at hk'
    exact x.out ((H.is hl).lt k hk') (hf k hk)⟩

def nilSl : Sl := ⟨none, 0, 0⟩

/-- A memory: an interface value, and how what it holds lies in the heap. Tight s: on the way to s there may be no room. -/
structure Sto (v : Value) (Rep : Heap → List Nat → St → Prop) (Tight : St → Prop) : Prop where
  iface : ∃ t u, v = .iface t u
  hn : ∀ n ∈ ["New", "Obj", "Fetch", "Set", "Byte", "SetByte", "Become", "Next", "Made"], HN P (.func (.method n) #[v] #[])
  lt : ∀ {h F s}, Rep h F s → ∀ k ∈ F, k < h.size
  fr : ∀ {h F s G h'}, Rep h F s → Fr G h h' → (∀ k ∈ F, k ∉ G) → Rep h' F s
  inv : ∀ {h F s}, Rep h F s → s.OK
  new : ∀ {h F s cls kind size R}, Rep h F s → s.made < 4611686018427387904 →
    (newOK cls kind size = true → ∀ h' F', Rep h' F' (s.add (blankA cls kind size)) → Mv F h F' h' → R (.tuple #[.int .i64 (oopV (s.made + 1)), .int .i64 0]) h') →
    (newOK cls kind size = false → ∀ h' F', Rep h' F' s → Mv F h F' h' → R (.tuple #[.int .i64 0, .int .i64 2]) h') →
    (newOK cls kind size = true → Tight (s.add (blankA cls kind size)) → ∀ h' F', Rep h' F' s → Mv F h F' h' → R (.tuple #[.int .i64 0, .int .i64 3]) h') →
    HI P v "New" #[.int .i64 cls, .int .i64 kind, .int .i64 size] h R
  obj : ∀ {h F s o R}, Rep h F s →
    (∀ a, s.get (namV o) = some a → ∀ h' F' sw sb, Rep h' F' s → Mv F h F' h' → SlI h' sw .i64 a.w → SlI h' sb .u8 a.b → (∀ k ∈ sw.blk ++ sb.blk, h.size ≤ k ∧ k ∉ F') → sw.n ≤ sw.c ∧ sb.n ≤ sb.c →
      R (.tuple #[.agg (objCells a.cls a.kind sw sb), .int .i64 0]) h') →
    (s.get (namV o) = none → ∀ h' F', Rep h' F' s → Mv F h F' h' → R (.tuple #[.agg (objCells 0 0 nilSl nilSl), .int .i64 4]) h') →
    HI P v "Obj" #[.int .i64 o] h R
  fetch : ∀ {h F s o i R}, Rep h F s → (∀ h' F', Rep h' F' s → Mv F h F' h' → R (.tuple #[.int .i64 (fetchV s o i), .int .i64 (fetchE s o i)]) h') →
    (fetchE s o i = 0 → Tight s → ∀ h' F', Rep h' F' s → Mv F h F' h' → R (.tuple #[.int .i64 0, .int .i64 3]) h') →
    HI P v "Fetch" #[.int .i64 o, .int .i64 i] h R
  set : ∀ {h F s o i x R}, Rep h F s → (∀ h' F', Rep h' F' (setS s o i x) → Mv F h F' h' → R (.int .i64 (setE' s o i x)) h') →
    (setE' s o i x = 0 → Tight (setS s o i x) → ∀ h' F', Rep h' F' s → Mv F h F' h' → R (.int .i64 3) h') →
    HI P v "Set" #[.int .i64 o, .int .i64 i, .int .i64 x] h R
  byte : ∀ {h F s o i R}, Rep h F s → (∀ h' F', Rep h' F' s → Mv F h F' h' → R (.tuple #[.int .i64 (byteV s o i), .int .i64 (byteE s o i)]) h') →
    (byteE s o i = 0 → Tight s → ∀ h' F', Rep h' F' s → Mv F h F' h' → R (.tuple #[.int .i64 0, .int .i64 3]) h') →
    HI P v "Byte" #[.int .i64 o, .int .i64 i] h R
  setByte : ∀ {h F s o i x R}, Rep h F s → (∀ h' F', Rep h' F' (setByteS s o i x) → Mv F h F' h' → R (.int .i64 (setByteE s o i x)) h') →
    (setByteE s o i x = 0 → Tight (setByteS s o i x) → ∀ h' F', Rep h' F' s → Mv F h F' h' → R (.int .i64 3) h') →
    HI P v "SetByte" #[.int .i64 o, .int .i64 i, .int .i64 x] h R
  become : ∀ {h F s a b R}, Rep h F s → (∀ h' F', Rep h' F' (becomeS s a b) → Mv F h F' h' → R (.int .i64 (becomeE s a b)) h') →
    (becomeE s a b = 0 → Tight (becomeS s a b) → ∀ h' F', Rep h' F' s → Mv F h F' h' → R (.int .i64 3) h') →
    HI P v "Become" #[.int .i64 a, .int .i64 b] h R
  next : ∀ {h F s o R}, Rep h F s → (∀ h' F', Rep h' F' s → Mv F h F' h' → R (.tuple #[.int .i64 (oopV (s.nextId (namV o))), .bool (decide (0 < s.nextId (namV o)))]) h') →
    HI P v "Next" #[.int .i64 o] h R
  made : ∀ {h F s R}, Rep h F s → (∀ h' F', Rep h' F' s → Mv F h F' h' → R (.int .i64 s.made) h') → HI P v "Made" #[] h R

/-- the memory without bounds -/
def FRep (pb : Nat) (h : Heap) (F : List Nat) (s : St) : Prop := ∃ mb L, Flat h pb mb s.made L ∧ F = fpM pb mb L ∧ s.objs = L.map fun o => (o.id, o.ao)
def flatV (pb : Nat) : Value := .iface T__flat_Memory (.pointer (some ⟨pb, 0, none⟩))
end Go.Hv.W

/- The memory without bounds keeps the contract. -/
namespace Go.Hv.W
open Go Go.Hv

theorem wide_Size {cls kind : Int} {sw sb : Sl} {h : Heap} {R : Value → Heap → Prop}
    (K : ∀ h', Fr [] h h' → R (.int .i64 (if kind = 1 then (sw.n : Int) else if kind = 2 then (sb.n : Int) else 0)) h') :
    HC P F_wide_Size #[.agg #[.int .i64 cls, .int .i64 kind, .slice sw.a sw.n sw.c, .slice sb.a sb.n sb.c]] h R := by
  refine S_wide_Size fun h1 e1 => ?_
  have g1 : h1[h.size]? = some (.cells (objCells cls kind sw sb) T_api_Obj (0, 0)) := by rw [e1]; exact get_push_new
  have K := K h1 (by rw [e1]; exact Fr.push _ _ _)
  simp only [add_add, cellH_of g1]
  refine ⟨kind, rfl, condI (fun e => ?_) fun e => ?_⟩
  · simp at e
    subst e
    exact ⟨sw, rfl, K⟩
  · have e : kind ≠ 1 := by simpa using e
    rw [if_neg e] at K
    refine condI (fun e => ?_) fun e => ?_
    · simp at e
      subst e
      exact ⟨sb, rfl, K⟩
    · have e : kind ≠ 2 := by simpa using e
      rw [if_neg e] at K
      exact K

theorem flat_New {h : Heap} {R : Value → Heap → Prop}
    (K : ∀ h' pb mb, Flat h' pb mb 0 [] → Fr [] h h' → h.size ≤ pb → h.size ≤ mb → R (.pointer (some ⟨pb, 0, none⟩)) h') : HC P F_flat_New #[] h R := by
  refine S_flat_New fun h1 e1 h2 e2 => ?_
  subst e1 e2
  refine K _ _ h.size ?_ ((Fr.push _ _ _).trans' (Fr.push _ _ _)) (by simp) (Nat.le_refl _)
  refine ⟨get_push_new, ⟨#[], 0, ?_, rfl, by simp, by simp⟩, by simp, by simp, by simp, by simp, List.Pairwise.nil, Int.le_refl _⟩
  rw [get_push_old (by simp), get_push_new]

theorem flat_Made {h : Heap} {pb mb : Nat} {made : Int} {L : List LO} {R : Value → Heap → Prop} (F : Flat h pb mb made L)
    (K : R (.int .i64 made) h) : HC P F_flat_Memory_Made #[.pointer (some ⟨pb, 0, none⟩)] h R := by
  refine S_flat_Memory_Made ?_
  simp only [Option.isNone_some, cond_false, oE_some, add_add, cellH_of F.mem]
  exact ⟨made, rfl, K⟩

def ptrOf (o : LO) : Addr := ⟨o.bo, 0, none⟩

theorem flat_at {h : Heap} {pb mb : Nat} {made : Int} {L : List LO} {r : Int} {R : Value → Heap → Prop} (F : Flat h pb mb made L)
    (K1 : ∀ o, lk L (namV r) = some o → R (.tuple #[.pointer (some (ptrOf o)), .int .i64 0]) h)
    (K0 : lk L (namV r) = none → R (.tuple #[.pointer none, .int .i64 4]) h) :
    HC P F_flat_Memory_at #[.pointer (some ⟨pb, 0, none⟩), .int .i64 r] h R := by
  refine S_flat_Memory_at ?_
  simp only [Option.isNone_some, cond_false]
  obtain ⟨es, clk, h1, h2, h3, h4⟩ := F.map
  refine word_Named ⟨_, _, rfl, ?_⟩
  simp only [oE_some, add_add, cellH_of F.mem]
  refine ⟨some mb, rfl, ?_⟩
  simp only [oE_some]
  refine ⟨es, clk, h1, intKeys_of h2, ?_⟩
  rw [mget_lk h2]
  cases hl : lk L (namV r) with
  | none => exact ⟨none, rfl, K0 hl⟩
  | some o => exact ⟨some (ptrOf o), rfl, K1 o hl⟩

/-- what place tells -/
def placeE (a : Option AO) (kind i : Int) : Int :=
  match a with
  | none => 4
  | some a => if a.kind ≠ kind then 20 else if i < 0 ∨ (a.size : Int) ≤ i then 21 else 0

theorem ObjOK.size {h : Heap} {o : LO} (H : ObjOK h o) : (if o.ao.kind = 1 then (o.sw.n : Int) else if o.ao.kind = 2 then (o.sb.n : Int) else 0) = (o.ao.size : Int) := by
  unfold AO.size
  rw [H.w.is.len, H.b.is.len]
  split
  · rfl
  · split <;> rfl

theorem flat_place {h : Heap} {pb mb : Nat} {made : Int} {L : List LO} {r kind i : Int} {R : Value → Heap → Prop} (F : Flat h pb mb made L)
    (K1 : ∀ o h', lk L (namV r) = some o → o.ao.kind = kind → 0 ≤ i → i < (o.ao.size : Int) → Fr [] h h' → R (.tuple #[.pointer (some (ptrOf o)), .int .i64 0]) h')
    (K0 : ∀ h', placeE ((lk L (namV r)).map (·.ao)) kind i ≠ 0 → Fr [] h h' → R (.tuple #[.pointer none, .int .i64 (placeE ((lk L (namV r)).map (·.ao)) kind i)]) h') :
    HC P F_flat_Memory_place #[.pointer (some ⟨pb, 0, none⟩), .int .i64 r, .int .i64 kind, .int .i64 i] h R := by
  refine S_flat_Memory_place (flat_at F (fun o hl => ⟨_, _, rfl, ?_⟩) fun hl => ⟨_, _, rfl, ?_⟩)
  · have ho := F.objs o (lk_some hl).1
    rw [hl] at K0
    simp only [Option.map_some] at K0
    simp only [show ((0 : Int) != 0) = false from rfl, cond_false, oE_some, ptrOf, add_add, cellH_of ho.cell]
    refine ⟨o.ao.kind, rfl, condI (fun e => ?_) fun e => ?_⟩
    · have e : o.ao.kind ≠ kind := by simpa using e
      have he : placeE (some o.ao) kind i = 20 := by simp [placeE, e]
      have := K0 h (by rw [he]; decide) (Fr.refl _ _)
      rw [he] at this
      exact this
    · have e : o.ao.kind = kind := by simpa using e
      have hin : (i < 0 ∨ (o.ao.size : Int) ≤ i) → placeE (some o.ao) kind i = 21 := fun hi => by simp [placeE, e, hi]
      refine condI (fun e1 => ?_) fun e1 => ?_
      · have e1 : i < 0 := by simpa using e1
        have he := hin (.inl e1)
        have := K0 h (by rw [he]; decide) (Fr.refl _ _)
        rw [he] at this
        exact this
      · have e1 : 0 ≤ i := by simpa using e1
        refine ⟨_, rfl, _, rfl, o.sw, rfl, o.sb, rfl, wide_Size fun h' hf => ?_⟩
        rw [ho.size]
        refine ⟨_, rfl, condI (fun e2 => ?_) fun e2 => ?_⟩
        · have e2 : (o.ao.size : Int) ≤ i := by simpa using e2
          have he := hin (.inr e2)
          have := K0 h' (by rw [he]; decide) hf
          rw [he] at this
          exact this
        · have e2 : i < (o.ao.size : Int) := by simpa using e2
          exact K1 o h' hl e e1 e2 hf
  · rw [hl] at K0
    exact K0 h (by simp [placeE]) (Fr.refl _ _)

theorem flat_Fetch {h : Heap} {pb mb : Nat} {made : Int} {L : List LO} {r i : Int} {R : Value → Heap → Prop} (F : Flat h pb mb made L)
    (K1 : ∀ o h' z, lk L (namV r) = some o → o.ao.kind = 1 → 0 ≤ i → o.ao.w[i.toNat]? = some z → Fr [] h h' → R (.tuple #[.int .i64 z, .int .i64 0]) h')
    (K0 : ∀ h', placeE ((lk L (namV r)).map (·.ao)) 1 i ≠ 0 → Fr [] h h' → R (.tuple #[.int .i64 0, .int .i64 (placeE ((lk L (namV r)).map (·.ao)) 1 i)]) h') :
    HC P F_flat_Memory_Fetch #[.pointer (some ⟨pb, 0, none⟩), .int .i64 r, .int .i64 i] h R := by
  refine S_flat_Memory_Fetch (flat_place F (fun o h' hl hk h0 h1 hf => ⟨_, _, rfl, ?_⟩) fun h' hne hf => ⟨_, _, rfl, ?_⟩)
  · have ho := (F.objs o (lk_some hl).1).fr hf (by simp)
    have hs : o.ao.size = o.ao.w.length := by simp [AO.size, hk]
    have hlt : i.toNat < o.ao.w.length := by omega
    obtain ⟨p, hp⟩ := ho.w.is.addr hlt
    have hn := ho.w.is.len
    simp only [show ((0 : Int) != 0) = false from rfl, cond_false, oE_some, ptrOf, add_add, cellH_of ho.cell]
    refine ⟨o.sw, rfl, ?_⟩
    rw [hp]
    simp only [oE_some, Nat.mul_one]
    have hz : o.ao.w[i.toNat]? = some o.ao.w[i.toNat] := List.getElem?_eq_getElem hlt
    exact ⟨h0, by omega, _, ho.w.is.cell hp hz, K1 o h' _ hl hk h0 hz hf⟩
  · refine condI (fun e => K0 h' hne hf) fun e => absurd (by simpa using e) hne
end Go.Hv.W

/- The memory without bounds keeps the contract: what turns it. -/
namespace Go.Hv.W
open Go Go.Hv

theorem flat_Ref {v : Int} {h : Heap} {R : Value → Heap → Prop} (K : R (.bool (refB v)) h) : HC P F_flat_Ref #[.int .i64 v] h R := by
  refine S_flat_Ref (word_Number ⟨_, _, rfl, word_Named ⟨_, _, rfl, ?_⟩⟩)
  refine condI (fun e => ?_) fun e => ?_
  · have : refB v = true := by simp [refB, e]
    rw [this] at K; exact K
  · have : refB v = namB v := by simp [refB, e]
    rw [this] at K; exact K

theorem upd_entry {h : Heap} {pb mb : Nat} {made : Int} {L : List LO} (F : Flat h pb mb made L) {o o' : LO} (ho : o ∈ L) (h1 : o'.id = o.id) (h2 : o'.bo = o.bo) :
    (upd L o.id fun _ => o').map LO.entry = L.map LO.entry := by
  unfold upd
  rw [List.map_map]
  apply List.map_congr_left
  intro x hx
  simp only [Function.comp]
  by_cases e : x.id = o.id
  · have := F.uniq hx ho e
    subst this
    simp [LO.entry, h1, h2]
  · simp [e]

theorem mem_upd {L : List LO} {o o' x : LO} (hx : x ∈ upd L o.id fun _ => o') : x = o' ∨ (x ∈ L ∧ x.id ≠ o.id) := by
  unfold upd at hx
  obtain ⟨y, hy, rfl⟩ := List.mem_map.1 hx
  by_cases e : y.id = o.id
  · simp [e]
  · simp only [e, if_false]; exact .inr ⟨hy, e⟩

/-- one object's cells are turned -/
theorem Flat.upd1 {h h' : Heap} {pb mb : Nat} {made : Int} {L : List LO} (F : Flat h pb mb made L) {o o' : LO} (ho : o ∈ L) (h1 : o'.id = o.id) (h2 : o'.bo = o.bo) (h3 : o'.fp = o.fp)
    {G : List Nat} (hG : ∀ k ∈ G, k ∈ o.fp) (hf : Fr G h h') (ok : ObjOK h' o') : Flat h' pb mb made (upd L o.id fun _ => o') := by
  obtain ⟨es, clk, hm, he, hb, hn⟩ := F.map
  have hpb : pb ∉ G := fun hk => (F.own o ho).1 (hG _ hk)
  have hmb : mb ∉ G := fun hk => (F.own o ho).2 (hG _ hk)
  refine ⟨hf.get F.mem hpb, ⟨es, clk, hf.get hm hmb, by rw [upd_entry F ho h1 h2]; exact he, hb, hn⟩, fun x hx => ?_, fun x hx => ?_, F.ne, fun x hx => ?_, ?_, F.pos⟩
  · rcases mem_upd hx with rfl | ⟨hx, hne⟩
    · exact ok
    · exact (F.objs x hx).fr hf fun b hb hk => F.two hx ho hne b hb (hG b hk)
  · rcases mem_upd hx with rfl | ⟨hx, hne⟩
    · rw [h1]; exact F.rng o ho
    · exact F.rng x hx
  · rcases mem_upd hx with rfl | ⟨hx, hne⟩
    · rw [h3]; exact F.own o ho
    · exact F.own x hx
  · unfold upd
    rw [List.pairwise_map]
    refine F.ord.imp_of_mem fun {a b} ha hb hab => ?_
    have key : ∀ x ∈ L, (if x.id = o.id then o' else x).id = x.id ∧ (if x.id = o.id then o' else x).fp = x.fp := fun x hx => by
      by_cases e : x.id = o.id
      · have := F.uniq hx ho e
        subst this
        simp [h1, h3]
      · simp [e]
    rw [(key a ha).1, (key b hb).1, (key a ha).2, (key b hb).2]
    exact hab

theorem get_lk {s : St} {L : List LO} (h : s.objs = L.map fun o => (o.id, o.ao)) (id : Int) : s.get id = (lk L id).map (·.ao) := by
  unfold St.get lk
  rw [h, List.find?_map]
  rw [Option.map_map]
  rfl

theorem set_upd {s : St} {L : List LO} (h : s.objs = L.map fun o => (o.id, o.ao)) {o o' : LO} (h1 : o'.id = o.id) :
    (s.set o.id o'.ao).objs = (upd L o.id fun _ => o').map fun o => (o.id, o.ao) := by
  unfold St.set upd
  simp only [h, List.map_map]
  apply List.map_congr_left
  intro x hx
  simp only [Function.comp]
  by_cases e : x.id = o.id
  · simp [e, h1]
  · simp [e]

theorem fpM_upd {pb mb : Nat} {L : List LO} {o o' : LO} (ho : ∀ x ∈ L, x.id = o.id → x.fp = o'.fp) : fpM pb mb (upd L o.id fun _ => o') = fpM pb mb L := by
  unfold fpM upd
  rw [List.flatMap_map]
  congr 2
  have : ∀ l : List LO, (∀ x ∈ l, x.id = o.id → x.fp = o'.fp) → (l.flatMap fun a => (if a.id = o.id then o' else a).fp) = l.flatMap LO.fp := by
    intro l
    induction l with
    | nil => intro _; rfl
    | cons a l ih =>
      intro hl
      simp only [List.flatMap_cons]
      rw [ih fun x hx => hl x (by simp [hx])]
      by_cases e : a.id = o.id
      · rw [if_pos e, hl a (by simp) e]
      · rw [if_neg e]
  exact this L ho

theorem AO.OK.size1 {a : AO} (h : a.kind = 1) : a.size = a.w.length := by simp [AO.size, h]
theorem AO.OK.size2 {a : AO} (h : a.kind = 2) : a.size = a.b.length := by simp [AO.size, h]

/-- a word is written -/
theorem Flat.setW {h : Heap} {pb mb : Nat} {made : Int} {L : List LO} (F : Flat h pb mb made L) {o : LO} (ho : o ∈ L) {i : Nat} {v : Int} {p : Addr} (hp : o.sw.a = some p) (hi : i < o.ao.w.length)
    (hk : o.ao.kind = 1) (hv : refB v = true) :
    Flat (putH h (p.add i) (.int .i64 v)) pb mb made (upd L o.id fun _ => { o with ao := { o.ao with w := o.ao.w.set i v } }) := by
  have ok := F.objs o ho
  have hpb : (p.add i).block = p.block := add_block p i
  have hin : p.block ∈ o.fp := by simp [LO.fp, Sl.blk, hp]
  have hf : Fr [p.block] h (putH h (p.add i) (.int .i64 v)) := Fr.put (by rw [hpb]; simp)
  refine F.upd1 ho rfl rfl rfl (G := [p.block]) (fun k hk => by simp at hk; subst hk; exact hin) hf ?_
  have hnd := ok.nd
  simp only [LO.fp, Sl.blk, hp, List.nodup_cons, List.mem_append, List.mem_singleton, List.cons_append, List.nil_append, List.mem_cons] at hnd
  refine ⟨hf.get ok.cell (by simp; exact fun e => hnd.1 (.inl e)), ok.w.put hp hi, ok.b.fr hf fun b hb => ?_, ⟨ok.ok.cls, ?_⟩, ok.nd⟩
  · simp
    intro e
    subst e
    exact hnd.2.1 hb
  · rcases ok.ok.kind with ⟨_, h2, h3, h4⟩ | ⟨h1, _⟩
    · refine .inl ⟨hk, h2, by simpa using h3, fun x hx => ?_⟩
      rcases List.mem_or_eq_of_mem_set hx with hx | rfl
      · exact h4 x hx
      · exact hv
    · rw [hk] at h1; cases h1

/-- a byte is written -/
theorem Flat.setB {h : Heap} {pb mb : Nat} {made : Int} {L : List LO} (F : Flat h pb mb made L) {o : LO} (ho : o ∈ L) {i : Nat} {v : Int} {p : Addr} (hp : o.sb.a = some p) (hi : i < o.ao.b.length)
    (hk : o.ao.kind = 2) (hv : 0 ≤ v ∧ v ≤ 255) :
    Flat (putH h (p.add i) (.int .u8 v)) pb mb made (upd L o.id fun _ => { o with ao := { o.ao with b := o.ao.b.set i v } }) := by
  have ok := F.objs o ho
  have hpb : (p.add i).block = p.block := add_block p i
  have hin : p.block ∈ o.fp := by simp [LO.fp, Sl.blk, hp]
  have hf : Fr [p.block] h (putH h (p.add i) (.int .u8 v)) := Fr.put (by rw [hpb]; simp)
  refine F.upd1 ho rfl rfl rfl (G := [p.block]) (fun k hk => by simp at hk; subst hk; exact hin) hf ?_
  have hnd := ok.nd
  simp only [LO.fp, Sl.blk, hp, List.nodup_cons, List.mem_append, List.mem_singleton, List.nodup_append] at hnd
  refine ⟨hf.get ok.cell (by simp; exact fun e => hnd.1 (.inr e)), ok.w.fr hf fun b hb => ?_, ok.b.put hp hi, ⟨ok.ok.cls, ?_⟩, ok.nd⟩
  · simp
    intro e
    subst e
    exact hnd.2.2.2 _ hb _ rfl rfl
  · rcases ok.ok.kind with ⟨h1, _⟩ | ⟨_, h2, h3, h4⟩
    · rw [hk] at h1; cases h1
    · refine .inr ⟨hk, h2, by simpa using h3, fun x hx => ?_⟩
      rcases List.mem_or_eq_of_mem_set hx with hx | rfl
      · exact h4 x hx
      · exact hv

theorem flat_Set {h : Heap} {pb mb : Nat} {made : Int} {L : List LO} {r i v : Int} {R : Value → Heap → Prop} (F : Flat h pb mb made L)
    (K1 : ∀ o h', lk L (namV r) = some o → o.ao.kind = 1 → 0 ≤ i → i < (o.ao.w.length : Int) → refB v = true →
      Flat h' pb mb made (upd L o.id fun _ => { o with ao := { o.ao with w := o.ao.w.set i.toNat v } }) → Fr o.sw.blk h h' → R (.int .i64 0) h')
    (K2 : ∀ o h', lk L (namV r) = some o → o.ao.kind = 1 → 0 ≤ i → i < (o.ao.w.length : Int) → refB v = false → Fr [] h h' → R (.int .i64 2) h')
    (K0 : ∀ h', placeE ((lk L (namV r)).map (·.ao)) 1 i ≠ 0 → Fr [] h h' → R (.int .i64 (placeE ((lk L (namV r)).map (·.ao)) 1 i)) h') :
    HC P F_flat_Memory_Set #[.pointer (some ⟨pb, 0, none⟩), .int .i64 r, .int .i64 i, .int .i64 v] h R := by
  refine S_flat_Memory_Set (flat_place F (fun o h' hl hk h0 h1 hf => ⟨_, _, rfl, fun J1 hJ1 => ?_⟩) fun h' hne hf => ⟨_, _, rfl, fun J1 hJ1 => ?_⟩)
  · rw [AO.OK.size1 hk] at h1
    refine flat_Ref ⟨_, rfl, condI (fun e => hJ1 _ _ fun J2 hJ2 => ?_) fun e => hJ1 _ _ fun J2 hJ2 => ?_⟩
    · exact hJ2 _ (K2 o h' hl hk h0 h1 (by simpa using e) hf)
    · have hv : refB v = true := by simpa using e
      have F' := F.grow hf
      have ho := F'.objs o (lk_some hl).1
      have hlt : i.toNat < o.ao.w.length := by omega
      obtain ⟨p, hp⟩ := ho.w.is.addr hlt
      have hn := ho.w.is.len
      simp only [show ((0 : Int) == 0) = true from rfl, cond_true, oE_some, ptrOf, add_add, cellH_of ho.cell]
      refine ⟨o.sw, rfl, ?_⟩
      rw [hp]
      simp only [oE_some, Nat.mul_one]
      refine ⟨h0, by omega, ho.w.st hp hlt, fun h2 e2 => hJ2 _ ?_⟩
      subst e2
      refine K1 o _ hl hk h0 h1 hv (F'.setW (lk_some hl).1 hp hlt hk hv) ?_
      exact (hf.mono (by simp)).trans' (Fr.put (.inl (by rw [add_block]; simp [Sl.blk, hp])))
  · have hb : (placeE ((lk L (namV r)).map (·.ao)) 1 i == 0) = false := by simpa using hne
    rw [hb]
    refine hJ1 _ _ fun J2 hJ2 => ?_
    rw [hb]
    exact hJ2 _ (K0 h' hne hf)

theorem flat_SetByte {h : Heap} {pb mb : Nat} {made : Int} {L : List LO} {r i v : Int} {R : Value → Heap → Prop} (F : Flat h pb mb made L)
    (K1 : ∀ o h', lk L (namV r) = some o → o.ao.kind = 2 → 0 ≤ i → i < (o.ao.b.length : Int) → 0 ≤ v → v ≤ 255 →
      Flat h' pb mb made (upd L o.id fun _ => { o with ao := { o.ao with b := o.ao.b.set i.toNat v } }) → Fr o.sb.blk h h' → R (.int .i64 0) h')
    (K2 : ∀ o h', lk L (namV r) = some o → o.ao.kind = 2 → 0 ≤ i → i < (o.ao.b.length : Int) → (v < 0 ∨ 255 < v) → Fr [] h h' → R (.int .i64 2) h')
    (K0 : ∀ h', placeE ((lk L (namV r)).map (·.ao)) 2 i ≠ 0 → Fr [] h h' → R (.int .i64 (placeE ((lk L (namV r)).map (·.ao)) 2 i)) h') :
    HC P F_flat_Memory_SetByte #[.pointer (some ⟨pb, 0, none⟩), .int .i64 r, .int .i64 i, .int .i64 v] h R := by
  refine S_flat_Memory_SetByte (flat_place F (fun o h' hl hk h0 h1 hf => ⟨_, _, rfl, fun J1 hJ1 => ?_⟩) fun h' hne hf => ⟨_, _, rfl, fun J1 hJ1 => ?_⟩)
  · rw [AO.OK.size2 hk] at h1
    refine condI (fun _ => ?_) fun e => (by simp at e)
    refine condI (fun e => hJ1 _ _ fun J2 hJ2 => ?_) fun e => condI (fun e' => hJ1 _ _ fun J2 hJ2 => ?_) fun e' => hJ1 _ _ fun J2 hJ2 => ?_
    · exact hJ2 _ (K2 o h' hl hk h0 h1 (.inl (by simpa using e)) hf)
    · exact hJ2 _ (K2 o h' hl hk h0 h1 (.inr (by simpa using e')) hf)
    · have hv0 : 0 ≤ v := by simpa using e
      have hv1 : v ≤ 255 := by simpa using e'
      have F' := F.grow hf
      have ho := F'.objs o (lk_some hl).1
      have hlt : i.toNat < o.ao.b.length := by omega
      obtain ⟨p, hp⟩ := ho.b.is.addr hlt
      have hn := ho.b.is.len
      simp only [show ((0 : Int) == 0) = true from rfl, cond_true, oE_some, ptrOf, add_add, cellH_of ho.cell]
      refine ⟨o.sb, rfl, ?_⟩
      rw [hp]
      simp only [oE_some, Nat.mul_one]
      refine ⟨h0, by omega, ho.b.st hp hlt, fun h2 e2 => hJ2 _ ?_⟩
      rw [wrap_u8, show v % 256 = v by omega] at e2
      subst e2
      refine K1 o _ hl hk h0 h1 hv0 hv1 (F'.setB (lk_some hl).1 hp hlt hk ⟨hv0, hv1⟩) ?_
      exact (hf.mono (by simp)).trans' (Fr.put (.inl (by rw [add_block]; simp [Sl.blk, hp])))
  · have hb : (placeE ((lk L (namV r)).map (·.ao)) 2 i == 0) = false := by simpa using hne
    rw [hb]
    refine hJ1 _ _ fun J2 hJ2 => ?_
    rw [hb]
    exact hJ2 _ (K0 h' hne hf)
end Go.Hv.W
