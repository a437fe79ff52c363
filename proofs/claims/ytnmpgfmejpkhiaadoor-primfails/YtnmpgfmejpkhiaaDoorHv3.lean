/- An engine of ours: what a heap has to be so that a piece of a program does what is wanted, reckoned out of the code, and proved to be enough. -/
import Derived.Test.YtnmpgfmejpkhiaaDoorW1
/- Slices that grow. -/
namespace Go.Hv

/-- a slice over memory of its own, with room behind it -/
structure SlG (h : Heap) (s : Sl) (k : IntKind) (l : List Int) : Prop where
  is : SlI h s k l
  cap : s.n ≤ s.c
  nil : s.a = none → s.c = 0
  own : ∀ p, s.a = some p → ∃ cs T, h[p.block]? = some (.cells cs T (0, 0)) ∧ p.off + s.c ≤ cs.size

theorem SlG.fr {F : List Nat} {h h' : Heap} {s : Sl} {k : IntKind} {l : List Int} (H : SlG h s k l) (x : Fr F h h') (hF : ∀ b ∈ s.blk, b ∉ F) : SlG h' s k l :=
  ⟨H.is.fr x hF, H.cap, H.nil, fun p hp => by
    obtain ⟨cs, T, h1, h2⟩ := H.own p hp
    exact ⟨cs, T, x.get h1 (hF _ (by simp [Sl.blk, hp])), h2⟩⟩

theorem SlG.empty (h : Heap) (k : IntKind) : SlG h ⟨none, 0, 0⟩ k [] :=
  ⟨⟨rfl, fun _ => rfl, fun p hp => by cases hp⟩, Nat.le_refl _, fun _ => rfl, fun p hp => by cases hp⟩

theorem oneB_int (k : IntKind) (z : Int) : oneB (.int k z) = true := rfl

theorem mem_ints {k : IntKind} {l : List Int} {v : Value} (h : v ∈ l.map (Value.int k)) : oneB v = true := by
  obtain ⟨z, _, rfl⟩ := List.mem_map.1 h
  rfl

/-- may it be appended? -/
theorem SlG.appOK {h : Heap} {s x : Sl} {k : IntKind} {l1 l2 : List Int} {bytes : Nat} (H : SlG h s k l1) (X : SlI h x k l2) (hb : 0 < bytes) (hf : (4 * (s.n + x.n) + 1024) * bytes ≤ 281474976710656) :
    AppOK h 1 s.a s.n s.c x.a x.n bytes := by
  refine ⟨⟨⟨_, by rw [Nat.mul_one]; exact H.is.cells⟩, fun e => ⟨?_, H.nil e⟩⟩, ⟨_, by rw [Nat.mul_one]; exact X.cells, fun e => ?_, fun v hv => mem_ints hv⟩, fun p hp hr => ?_, hf, hb⟩
  · have := H.is.nil e; have := H.is.len; simp_all
  · have := X.nil e; have := X.len; simp_all
  · obtain ⟨cs, T, h1, h2⟩ := H.own p hp
    obtain ⟨h0, _⟩ := H.is.get p hp
    obtain ⟨b, o, sp⟩ := p
    simp only at h0
    subst h0
    rw [add_add]
    exact StOK_of h1 (by simp only at h2; omega)

/-- what append gives -/
theorem SlG.appended {h h' : Heap} {s x s' : Sl} {k : IntKind} {l1 l2 : List Int} {z : Int} {T : TypeId} (H : SlG h s k l1) (X : SlI h x k l2)
    (A : Appended h 1 [.int k z] T s.a s.n s.c x.a x.n s' h') :
    SlG h' s' k (l1 ++ l2) ∧ Fr s.blk h h' ∧ (∀ b ∈ s'.blk, b ∈ s.blk ∨ h.size ≤ b) := by
  obtain ⟨os, ns, h1, h2, hc⟩ := A.ok
  rw [Nat.mul_one] at h1 h2
  rw [H.is.cells] at h1
  rw [X.cells] at h2
  cases h1
  cases h2
  have hl1 := H.is.len
  have hl2 := X.len
  rcases hc with ⟨hr, rfl, rfl⟩ | ⟨hr, c', hc', rfl, rfl⟩
  · cases hs : s.a with
    | none =>
      have e1 := H.is.nil hs
      have e2 := H.nil hs
      subst e1
      have e3 : l2 = [] := by
        have : l2.length = 0 := by omega
        exact List.eq_nil_of_length_eq_zero this
      subst e3
      refine ⟨⟨⟨by simp; omega, fun _ => rfl, fun p hp => by cases hp⟩, by simpa using hr, fun _ => e2, fun p hp => by cases hp⟩, Fr.refl _ _, fun b hb => by simp [Sl.blk] at hb⟩
    | some p =>
      obtain ⟨h0, cs, T', q, g1, g2, g3⟩ := H.is.get p hs
      obtain ⟨cs', T'', g4, g5⟩ := H.own p hs
      rw [g1] at g4
      cases g4
      obtain ⟨b, o, sp⟩ := p
      simp only at h0 g1 g2 g3 g5
      subst h0
      simp only [putsOpt, Nat.mul_one, add_add]
      have hg := get_putsH_eq (o := o + s.n) (vs := l2.map (Value.int k)) (i := 0) g1
      have hsz := size_setsA cs (o + s.n) (l2.map (Value.int k)) 0
      refine ⟨⟨⟨by simp; omega, fun e => (by cases e), fun p hp => ?_⟩, by simpa using hr, fun e => (by cases e), fun p hp => ?_⟩, Fr.puts (.inl (by simp [Sl.blk, hs])), fun b' hb' => .inl (by simpa [Sl.blk, hs] using hb')⟩
      · cases hp
        refine ⟨rfl, _, _, _, hg, by rw [hsz]; simp; omega, fun i hi => ?_⟩
        simp only
        rw [get_setsA (by simp; omega)]
        simp only [List.length_map, Nat.add_zero]
        rw [List.length_append] at hi
        by_cases hi1 : i < l1.length
        · rw [if_neg (by omega), g3 i hi1, List.getElem?_append_left hi1]
        · rw [if_pos (by omega), List.getElem?_map, List.getElem?_append_right (by omega)]
          congr 2
          omega
      · cases hp
        exact ⟨_, _, hg, by rw [hsz]; exact g5⟩
  · have hg : (h.push (.cells (l1.map (Value.int k) ++ l2.map (Value.int k) ++ (List.replicate (c' - (s.n + x.n)) [Value.int k z]).flatten).toArray T (0, 0)))[h.size]? = some (.cells (l1.map (Value.int k) ++ l2.map (Value.int k) ++ (List.replicate (c' - (s.n + x.n)) [Value.int k z]).flatten).toArray T (0, 0)) := get_push_new
    have hsz : ((l1.map (Value.int k) ++ l2.map (Value.int k) ++ (List.replicate (c' - (s.n + x.n)) [Value.int k z]).flatten).toArray).size = c' := by
      simp
      omega
    refine ⟨⟨⟨by simp; omega, fun e => (by cases e), fun p hp => ?_⟩, hc', fun e => (by cases e), fun p hp => ?_⟩, Fr.push _ _ _, fun b' hb' => .inr (by simp [Sl.blk] at hb'; omega)⟩
    · cases hp
      refine ⟨rfl, _, _, _, hg, by rw [hsz]; simp; omega, fun i hi => ?_⟩
      simp only [Nat.zero_add]
      rw [List.getElem?_toArray, List.getElem?_append_left (by simpa using hi), ← List.map_append, List.getElem?_map]
    · cases hp
      exact ⟨_, _, hg, by rw [hsz]; simp⟩

/-- a new slice of given numbers -/
theorem SlG.new {h : Heap} {T : TypeId} {k : IntKind} {l : List Int} {vs : List Value} (hv : vs = l.map (Value.int k)) : SlG (h.push (.cells vs.toArray T (0, 0))) ⟨some ⟨h.size, 0, none⟩, l.length, l.length⟩ k l := by
  subst hv
  refine ⟨⟨rfl, fun e => (by cases e), fun p hp => ?_⟩, Nat.le_refl _, fun e => (by cases e), fun p hp => ?_⟩
  · cases hp
    exact ⟨rfl, _, _, _, get_push_new, by simp, fun i hi => by simp⟩
  · cases hp
    exact ⟨_, _, get_push_new, by simp⟩
end Go.Hv
