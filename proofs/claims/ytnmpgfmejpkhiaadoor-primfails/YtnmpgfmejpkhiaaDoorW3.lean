/- What the functions of the program do, each by its contract. -/
import Derived.Test.YtnmpgfmejpkhiaaDoorW2
/- Large numbers as objects: digits, bytes, sums: over any memory. -/
namespace Go.Hv.W
open Go Go.Hv

def bytesA (cls : Int) (l : List Int) : AO := ⟨cls, 2, [], l⟩

/-- the number that is meant; none: there is none -/
def digO (s : St) (o : Int) : Option Int :=
  if numB o then (if numV o < 0 then none else some (numV o))
  else match s.get (namV o) with
    | none => none
    | some a => if a.kind = 2 ∧ rightB a.b = true then some (val a.b) else none

/-- a sum, a difference, a product -/
def sumZ (n x y : Int) : Option Int :=
  if n = 21 then (if (dig (x + y)).length ≤ 400 then some (x + y) else none)
  else if n = 22 then (if y ≤ x then some (x - y) else none)
  else (if (dig (x * y)).length ≤ 400 then some (x * y) else none)

/-- what is told of one -/
def tellZ (s : St) (z : Int) : Out :=
  if z ≤ 1073741823 then ⟨smallV z, 0, s⟩
  else if fetchE s 8 5 ≠ 0 then ⟨0, fetchE s 8 5, s⟩
  else if namB (fetchV s 8 5) then ⟨oopV (s.made + 1), 0, s.add (bytesA (fetchV s 8 5) (dig z))⟩ else ⟨0, 2, s⟩

def sumR (s : St) (n a b : Int) : Out :=
  match digO s a, digO s b with
  | some x, some y => (match sumZ n x y with | some z => tellZ s z | none => ⟨0, 2, s⟩)
  | _, _ => ⟨0, 2, s⟩

section
variable {v : Value} {Rep : Heap → List Nat → St → Prop} {Tight : St → Prop} (S : Sto v Rep Tight) {h : Heap} {F : List Nat} {s : St} (H : Rep h F s) {R : Value → Heap → Prop}
include S H

theorem prim_digits {o : Int} (K : ∀ h' F' t, (∀ n, digO s o = some n → Row h' t (dig n) ∧ (dig n).length ≤ 400 ∧ 0 ≤ n ∧ ∀ k ∈ t.blk, k ∉ F') → Rep h' F' s → Mv F h F' h' → R (.tuple #[.slice t.a t.n t.c, .bool (digO s o).isSome]) h') :
    HC P F_prim_digits #[v, .int .i64 o] h R := by
  refine S_prim_digits (word_Number ⟨_, _, rfl, condI (fun e => ?_) fun e => ?_⟩)
  · have hb := numV_bounds o
    refine large_Of (by omega) (fun h0 h1 t X f1 nf => ⟨t, _, rfl, ?_⟩) fun h0 => ⟨⟨none, 0, 0⟩, _, rfl, ?_⟩
    · have hd : digO s o = some (numV o) := by simp [digO, e]; omega
      have := K h1 F t (fun n hn => by
        rw [hd] at hn
        cases hn
        refine ⟨X, ?_, h0, fun k hk hF => ?_⟩
        · exact Nat.le_trans (dig_len_le (k := 8) h0 (by have : (256 : Int) ^ 8 = 18446744073709551616 := rfl; omega)) (by omega)
        · have := S.lt H k hF
          have := nf k hk
          omega) (S.fr H f1 (by simp)) (Mv.grow f1)
      rw [hd] at this
      exact this
    · have hd : digO s o = none := by simp [digO, e]; omega
      have := K h F ⟨none, 0, 0⟩ (fun n hn => by rw [hd] at hn; cases hn) H (Mv.refl F h)
      rw [hd] at this
      exact this
  · refine S.obj H (fun a ha h1 F1 sw sb H1 m1 Gw Gb hb hcap => ⟨_, _, sw, sb, _, rfl, box_new fun h2 g2 f2 s2 => box_w (sw := nilSl) (sb := nilSl) (sw' := sw) (sb' := sb) g2 rfl fun h3 g3 f3 => ?_⟩)
      fun hn h1 F1 H1 m1 => ⟨_, _, nilSl, nilSl, _, rfl, box_new fun h2 g2 f2 s2 => box_w (sw := nilSl) (sb := nilSl) (sw' := nilSl) (sb' := nilSl) g2 rfl fun h3 g3 f3 => ?_⟩
    · have f13 : Fr [] h1 h3 := f2.trans f3 fun k hk => .inr (by simp at hk; omega)
      have H3 := S.fr H1 f13 (by simp)
      have m3 : Mv F h F1 h3 := m1.trans (Mv.grow f13)
      have hok := (S.inv H).of_get ha
      simp only [add_add, cellH_of g3]
      refine ⟨sb, rfl, condI (fun _ => ⟨a.kind, rfl, condI (fun e2 => ?_) fun e2 => ?_⟩) fun e2 => (by simp at e2)⟩
      · have e2 : a.kind = 2 := by simpa using e2
        obtain ⟨_, hl, hby⟩ : a.w = [] ∧ a.b.length ≤ 1000 ∧ ∀ x ∈ a.b, 0 ≤ x ∧ x ≤ 255 := by
          rcases hok.kind with ⟨h, _⟩ | ⟨_, h⟩
          · omega
          · exact h
        have X : Row h3 sb a.b := ⟨Gb.fr f13 (by simp), hcap.2, hby⟩
        refine ⟨sb, rfl, large_Right X (by omega) ⟨_, rfl, ⟨sb, by rw [cellH_of g3]; rfl, rfl⟩, ?_⟩⟩
        have := K h3 F1 sb
        by_cases hr : rightB a.b = true
        · have hd : digO s o = some (val a.b) := by simp [digO, e, ha, e2, hr]
          rw [hd] at this
          rw [hr]
          refine this (fun n hn => ?_) H3 m3
          cases hn
          obtain ⟨r1, r2⟩ := right_dig hr
          rw [← r2]
          exact ⟨X, r1, (val_bd hby).1, fun k hk => (hb k (by simp [hk])).2⟩
        · have hd : digO s o = none := by simp [digO, e, ha, hr]
          have hr : rightB a.b = false := by simpa using hr
          rw [hd] at this
          rw [hr]
          exact this (fun n hn => by cases hn) H3 m3
      · have e2 : a.kind ≠ 2 := by simpa using e2
        have hd : digO s o = none := by simp [digO, e, ha, e2]
        have := K h3 F1 sb
        rw [hd] at this
        exact this (fun n hn => by cases hn) H3 m3
    · have f13 : Fr [] h1 h3 := f2.trans f3 fun k hk => .inr (by simp at hk; omega)
      have H3 := S.fr H1 f13 (by simp)
      have m3 : Mv F h F1 h3 := m1.trans (Mv.grow f13)
      simp only [add_add, cellH_of g3]
      refine ⟨nilSl, rfl, condI (fun e2 => (by simp at e2)) fun _ => ?_⟩
      have hd : digO s o = none := by simp [digO, e, hn]
      have := K h3 F1 nilSl
      rw [hd] at this
      exact this (fun n hn => by cases hn) H3 m3

theorem prim_bytes {cls : Int} {sl : Sl} {l : List Int} (X : Row h sl l) (hd : ∀ k ∈ sl.blk, k ∉ F) (hl : l.length ≤ 1000) (hm : s.made < 1073741823)
    (K1 : namB cls = true → ∀ h' F', Rep h' F' (s.add (bytesA cls l)) → Mv F h F' h' → R (.tuple #[.int .i64 (oopV (s.made + 1)), .int .i64 0]) h')
    (K0 : namB cls = false → ∀ h' F', Rep h' F' s → Mv F h F' h' → R (.tuple #[.int .i64 0, .int .i64 2]) h')
    (KF : (∃ t, Tight t) → ∀ h' F' w s', Rep h' F' s' → Mv F h F' h' → R (.tuple #[.int .i64 w, .int .i64 3]) h') : HC P F_prim_bytes #[v, .int .i64 cls, .slice sl.a sl.n sl.c] h R := by
  have hn := X.is.len
  have hok := S.inv H
  have hpos := hok.pos
  have hid : namV (oopV (s.made + 1)) = s.made + 1 := namV_oop (by omega) (by omega)
  have hnew : newOK cls 2 sl.n = namB cls := by simp [newOK]; omega
  have hbl : blankA cls 2 sl.n = partB (bytesA cls l) 0 := by simp [blankA, partB, bytesA, hn]
  refine S_prim_bytes (S.new H (by omega) (fun hk h1 F1 H1 m1 => ⟨_, _, rfl, ?_⟩) (fun hk h1 F1 H1 m1 => ⟨_, _, rfl, ?_⟩) fun hk ht h1 F1 H1 m1 => ⟨_, _, rfl, ?_⟩)
  · intro J hJ
    rw [hbl] at H1
    refine ⟨fun x e h' => 0 ≤ x ∧ x ≤ l.length ∧ ((e = 0 ∧ ∃ F8, Rep h' F8 (s.add (partB (bytesA cls l) x.toNat)) ∧ Mv F h F8 h') ∨ (e = 3 ∧ (∃ t, Tight t) ∧ ∃ F8 s8, Rep h' F8 s8 ∧ Mv F h F8 h')), fun x _ _ => (l.length - x).toNat, ⟨Int.le_refl _, by omega, .inl ⟨rfl, F1, H1, m1⟩⟩, fun x e h' I => ?_⟩
    obtain ⟨x0, x1, I⟩ := I
    rcases I with ⟨rfl, F8, H8, m8⟩ | ⟨rfl, ht, F8, s8, H8, m8⟩
    · refine condI (fun e => ?_) fun e => ?_
      · have e := of_decide_eq_true e
        have hx : x.toNat < l.length := by omega
        have Y := (m8.sl X.is hd).1
        obtain ⟨p, hp⟩ := Y.addr hx
        have hbb := X.byte _ (List.getElem_mem hx)
        refine condI (fun _ => ?_) fun e => (by simp at e)
        rw [hp, oE_some, Nat.mul_one]
        have hE : setByteE (s.add (partB (bytesA cls l) x.toNat)) (oopV (s.made + 1)) x l[x.toNat] = 0 := by
          have hsz2 : (partB (bytesA cls l) x.toNat).size = l.length := by simp [AO.size, partB, bytesA]; omega
          have hbe : byteE (s.add (partB (bytesA cls l) x.toNat)) (oopV (s.made + 1)) x = 0 := by
            simp only [byteE, hid, St.get_add hok, hsz2]
            rw [if_neg (by simp [partB, bytesA]), if_neg (by omega)]
          simp only [setByteE, hbe, ne_eq, not_true, if_false]
          rw [if_neg (by omega)]
        have hS : setByteS (s.add (partB (bytesA cls l) x.toNat)) (oopV (s.made + 1)) x l[x.toNat] = s.add (partB (bytesA cls l) (x.toNat + 1)) := by
          simp only [setByteS, hid, St.get_add hok, hE, if_true]
          rw [St.set_add hok]
          simp only [partB, bytesA, set_take hx]
        refine ⟨x0, e, _, Y.cell hp (List.getElem?_eq_getElem hx), ⟨by omega, by omega⟩, S.hn _ (by simp), S.setByte H8 (fun h9 F9 H9 m9 => ⟨_, rfl, ⟨by omega, by omega⟩, ⟨by omega, by omega, .inl ⟨hE, F9, ?_, m8.trans m9⟩⟩, by show Int.toNat _ < Int.toNat _; omega⟩)
          fun _ ht h9 F9 H9 m9 => ⟨_, rfl, ⟨by omega, by omega⟩, ⟨by omega, by omega, .inr ⟨rfl, ⟨_, ht⟩, F9, _, H9, m8.trans m9⟩⟩, by show Int.toNat _ < Int.toNat _; omega⟩⟩
        rw [hS] at H9
        rw [show (x + 1).toNat = x.toNat + 1 by omega]
        exact H9
      · have e : ¬ x < (sl.n : Int) := by simpa using e
        have : partB (bytesA cls l) x.toNat = bytesA cls l := by
          have h1 : l.take x.toNat = l := List.take_of_length_le (by omega)
          have h2 : l.length - x.toNat = 0 := by omega
          simp [partB, bytesA, h1, h2]
        rw [this] at H8
        rw [hnew] at hk
        exact hJ _ _ (K1 hk h' F8 H8 m8)
    · exact condI (fun _ => condI (fun e => by simp at e) fun _ => hJ _ _ (KF ht h' F8 _ s8 H8 m8)) fun _ => hJ _ _ (KF ht h' F8 _ s8 H8 m8)
  · intro J hJ
    rw [hnew] at hk
    refine ⟨fun x e h' => 0 ≤ x ∧ e = 2 ∧ h' = h1, fun _ _ _ => 0, ⟨Int.le_refl _, rfl, rfl⟩, fun x e h' I => ?_⟩
    obtain ⟨_, rfl, rfl⟩ := I
    exact condI (fun _ => condI (fun e => by simp at e) fun _ => hJ _ _ (K0 hk _ F1 H1 m1)) fun _ => hJ _ _ (K0 hk _ F1 H1 m1)
  · intro J hJ
    refine ⟨fun x e h' => 0 ≤ x ∧ e = 3 ∧ h' = h1, fun _ _ _ => 0, ⟨Int.le_refl _, rfl, rfl⟩, fun x e h' I => ?_⟩
    obtain ⟨_, rfl, rfl⟩ := I
    exact condI (fun _ => condI (fun e => by simp at e) fun _ => hJ _ _ (KF ⟨_, ht⟩ _ F1 _ _ H1 m1)) fun _ => hJ _ _ (KF ⟨_, ht⟩ _ F1 _ _ H1 m1)

theorem prim_sums {n a b : Int} (hm : s.made < 1073741823)
    (K : ∀ h' F', Rep h' F' (sumR s n a b).s → Mv F h F' h' → R (.tuple #[.int .i64 (sumR s n a b).v, .int .i64 (sumR s n a b).e]) h')
    (KF : (∃ t, Tight t) → ∀ h' F' w s', Rep h' F' s' → Mv F h F' h' → R (.tuple #[.int .i64 w, .int .i64 3]) h') : HC P F_prim_sums #[v, .int .i64 n, .int .i64 a, .int .i64 b] h R := by
  refine S_prim_sums (prim_digits S H fun h1 F1 t1 X1 H1 m1 => ⟨t1, _, rfl, prim_digits S H1 fun h2 F2 t2 X2 H2 m2 => ⟨t2, _, rfl, ?_⟩⟩)
  have m12 := m1.trans m2
  have none2 : (digO s a = none ∨ digO s b = none) → R (.tuple #[.int .i64 0, .int .i64 2]) h2 := fun hh => by
    have := K h2 F2
    have hs : sumR s n a b = ⟨0, 2, s⟩ := by
      unfold sumR
      rcases hh with hh | hh
      · rw [hh]
      · rw [hh]; cases digO s a <;> rfl
    rw [hs] at this
    exact this H2 m12
  refine condI (fun e => none2 (.inl ?_)) fun e => condI (fun e => none2 (.inr ?_)) fun e2 => ?_
  · have e := not_eq_true_of e
    simpa using e
  · have e := not_eq_true_of e
    simpa using e
  obtain ⟨x, hx⟩ := Option.isSome_iff_exists.1 (not_eq_false_of e)
  obtain ⟨y, hy⟩ := Option.isSome_iff_exists.1 (not_eq_false_of e2)
  obtain ⟨A, al, a0, ad⟩ := X1 x hx
  obtain ⟨B, bl, b0, bd⟩ := X2 y hy
  have A2 : Row h2 t1 (dig x) := ⟨(m2.sl A.is ad).1, A.cap, A.byte⟩
  have rA : rightB (dig x) = true := by simp [rightB, al, val_dig x a0]
  have rB : rightB (dig y) = true := by simp [rightB, bl, val_dig y b0]
  have hsum : sumR s n a b = (match sumZ n x y with | some z => tellZ s z | none => ⟨0, 2, s⟩) := by simp only [sumR, hx, hy]
  rw [hsum] at K
  intro J hJ
  -- what goes wrong
  have bad : ∀ (h3 : Heap) (e : Int) (t : Sl), sumZ n x y = none → e ≠ 0 → Fr [] h2 h3 → J e t h3 := fun h3 e t hz he f3 => by
    refine hJ e t h3 (condI (fun _ => ?_) fun e' => absurd (by simpa using e') he)
    have := K h3 F2
    rw [hz] at this
    exact this (S.fr H2 f3 (by simp)) (m12.trans (Mv.grow f3))
  -- what is told
  have good : ∀ (h3 : Heap) (z : Int) (t : Sl), sumZ n x y = some z → 0 ≤ z → (dig z).length ≤ 400 → Row h3 t (dig z) → (∀ k ∈ t.blk, h2.size ≤ k) → Fr [] h2 h3 → J 0 t h3 := fun h3 z t hz z0 zl X nf f3 => by
    refine hJ 0 t h3 (condI (fun e' => by simp at e') fun _ => ?_)
    have H3 := S.fr H2 f3 (by simp)
    have m3 := m12.trans (Mv.grow f3)
    rw [hz] at K
    have K : ∀ h' F', Rep h' F' (tellZ s z).s → Mv F h F' h' → R (.tuple #[.int .i64 (tellZ s z).v, .int .i64 (tellZ s z).e]) h' := K
    have vz := val_dig z z0
    have rZ : rightB (dig z) = true := by simp [rightB, zl, vz]
    have hfar : ∀ k ∈ t.blk, k ∉ F2 := fun k hk hF => by
      have := S.lt H2 k hF
      have := nf k hk
      omega
    intro J2 hJ2
    have big : ∀ (h4 : Heap) u w, ¬ z ≤ 1073741823 → Fr [] h3 h4 → J2 u w h4 := fun h4 u w hz f4 => by
      have H4 := S.fr H3 f4 (by simp)
      have m4 : Mv F2 h2 F2 h4 := Mv.grow (f3.trans' f4)
      refine hJ2 u w h4 (kit_Special S H4 (fun h5 F5 H5 m5 => ⟨_, _, rfl, condI (fun e => ?_) fun e => ?_⟩) fun he ht h5 F5 H5 m5 => ⟨_, _, rfl, condI (fun _ => KF ⟨_, ht⟩ h5 F5 _ _ H5 ((m12.trans m4).trans m5)) fun e => by simp at e⟩)
      · have e : fetchE s 8 5 ≠ 0 := by simpa using e
        have := K h5 F5
        simp only [tellZ, if_neg hz, if_pos e] at this
        exact this H5 ((m12.trans m4).trans m5)
      · have e : fetchE s 8 5 = 0 := by simpa using e
        have X5 : Row h5 t (dig z) := ⟨(m5.sl (X.grow f4).is hfar).1, X.cap, X.byte⟩
        have d5 : ∀ k ∈ t.blk, k ∉ F5 := (m5.sl (X.grow f4).is hfar).2
        refine prim_bytes S H5 X5 d5 (by omega) hm (fun hk h6 F6 H6 m6 => ⟨_, _, rfl, ?_⟩) (fun hk h6 F6 H6 m6 => ⟨_, _, rfl, ?_⟩) fun ht h6 F6 w s6 H6 m6 => ⟨_, _, rfl, KF ht h6 F6 w s6 H6 (((m12.trans m4).trans m5).trans m6)⟩
        · have := K h6 F6
          simp only [tellZ, if_neg hz, e, ne_eq, not_true, if_false, hk, if_true] at this
          exact this H6 (((m12.trans m4).trans m5).trans m6)
        · have := K h6 F6
          simp only [tellZ, if_neg hz, e, ne_eq, not_true, if_false, hk, Bool.false_eq_true] at this
          exact this H6 (((m12.trans m4).trans m5).trans m6)
    refine large_Int X (by omega) (fun hi h4 f4 => ⟨_, _, rfl, condI (fun _ => condI (fun e => word_Small ⟨_, _, rfl, ?_⟩) fun e => ?_) fun e => by simp at e⟩) fun hi => ⟨_, _, rfl, condI (fun e => by simp at e) fun _ => big h3 _ _ ?_ (Fr.refl _ _)⟩
    · have e := of_decide_eq_true e
      rw [vz] at e
      have hs : smallE z = 0 := by simp [smallE, smallOK]; omega
      have := K h4 F2
      simp only [tellZ, if_pos e] at this
      rw [vz, hs]
      exact this (S.fr H3 f4 (by simp)) (m3.trans (Mv.grow f4))
    · have e : ¬ val (dig z) ≤ 1073741823 := by simpa using e
      rw [vz] at e
      exact big h4 _ _ e f4
    · intro hle
      have : intB (dig z) = true := by simp [intB, rZ, vz]; omega
      rw [this] at hi
      cases hi
  have vx := val_dig x a0
  have vy := val_dig y b0
  refine condI (fun e3 => ?_) fun e3 => condI (fun e4 => ?_) fun e4 => ?_
  · have e3 : n = 21 := by simpa using e3
    refine box_new fun h3 g3 f3 s3 => ?_
    refine large_Add (sb := t2) (A2.grow f3) (B.grow f3) g3 (by omega) (by omega) (fun hh => absurd ⟨rA, rB⟩ hh) (fun _ _ hl h4 t X f4 nf => ⟨t, _, rfl, ?_⟩) fun _ _ hl h4 f4 => ⟨⟨none, 0, 0⟩, _, rfl, bad h4 _ _ ?_ (by decide) (f3.trans' f4)⟩
    · rw [vx, vy] at hl X
      exact good h4 (x + y) t (by simp [sumZ, e3, hl]) (by omega) hl X (fun k hk => by have := nf k hk; omega) (f3.trans' f4)
    · rw [vx, vy] at hl
      simp [sumZ, e3]; omega
  · have e3 : n ≠ 21 := by simpa using e3
    have e4 : n = 22 := by simpa using e4
    refine large_Sub A2 B (by omega) (by omega) (fun hh => absurd ⟨rA, rB⟩ hh) (fun _ _ hl h4 t X f4 nf => ⟨t, _, rfl, ?_⟩) fun _ _ hl h4 f4 => ⟨⟨none, 0, 0⟩, _, rfl, bad h4 _ _ ?_ (by decide) f4⟩
    · rw [vx, vy] at hl X
      refine good h4 (x - y) t (by simp [sumZ, e4, hl]) (by omega) (Nat.le_trans (dig_len_mono (b := x) (by omega) (by omega)) al) X nf f4
    · rw [vx, vy] at hl
      simp [sumZ, e4]; omega
  · have e3 : n ≠ 21 := by simpa using e3
    have e4 : n ≠ 22 := by simpa using e4
    refine large_Mul A2 B (by omega) (by omega) (fun hh => absurd ⟨rA, rB⟩ hh) (fun _ _ hl h4 t X f4 nf => ⟨t, _, rfl, ?_⟩) fun _ _ hl h4 f4 => ⟨⟨none, 0, 0⟩, _, rfl, bad h4 _ _ ?_ (by decide) f4⟩
    · rw [vx, vy] at hl X
      exact good h4 (x * y) t (by simp [sumZ, e3, e4, hl]) (Int.mul_nonneg a0 b0) hl X nf f4
    · rw [vx, vy] at hl
      simp [sumZ, e3, e4]; omega
end
end Go.Hv.W

/- Slices of objects that grow; memories compared. -/
namespace Go.Hv.W
open Go Go.Hv

theorem sameB_eq {a b : AO} : sameB a b = true ↔ a = b := by
  constructor
  · intro h
    simp only [sameB, Bool.and_eq_true, beq_iff_eq] at h
    obtain ⟨h1, h2, h3, h4⟩ := h
    cases a; cases b
    simp_all
  · intro h; subst h; exact sameB_refl a

theorem websterref16_Same {sa sb : Sl} {la lb : List AO} {A B : List Nat} {h : Heap} {R : Value → Heap → Prop} (Ha : SlO h sa la A) (Hb : SlO h sb lb B) (hl : la.length ≤ 1000000000000000) (hw : ∀ a ∈ la, a.w.length ≤ 1000000000000000)
    (K1 : la = lb → ∀ h', Fr [] h h' → R (.bool true) h') (K0 : la ≠ lb → ∀ h', Fr [] h h' → R (.bool false) h') :
    HC P F_websterref16_Same #[.agg #[.slice sa.a sa.n sa.c], .slice sb.a sb.n sb.c] h R := by
  have na := Ha.len
  have nb := Hb.len
  refine S_websterref16_Same (box_new fun h1 g1 f1 s1 => ?_)
  simp only [add_add]
  refine ⟨sa, by rw [cellH_of g1]; rfl, condI (fun e => K0 (fun h => ?_) h1 f1) fun e => ?_⟩
  · have e : (sa.n : Int) ≠ sb.n := by simpa using e
    rw [h] at na
    omega
  · have e : (sa.n : Int) = sb.n := by simpa using e
    refine ⟨fun z b h' => Fr [] h h' ∧ h'[h.size]? = some (.cells #[.slice sa.a sa.n sa.c] T_websterref10_Memory (0, 0)) ∧ 0 ≤ z ∧ z ≤ la.length ∧ la.take z.toNat = lb.take z.toNat, fun z _ _ => (la.length - z).toNat, ⟨f1, g1, by omega, by omega, rfl⟩, fun z b h' I => ?_⟩
    obtain ⟨fr, gb, i0, i1, i2⟩ := I
    refine condI (fun e2 => ?_) fun e2 => ?_
    · have e2 := of_decide_eq_true e2
      have h1 : z.toNat < la.length := by omega
      have h2 : z.toNat < lb.length := by omega
      obtain ⟨p, wa, ba, hp, a0, a1, a2, a3, Wa, Ba, _, oa⟩ := (Ha.fr fr (by simp)).at (List.getElem?_eq_getElem h1)
      obtain ⟨q, wb, bb, hq, b0, b1, b2, b3, Wb, Bb, _, ob⟩ := (Hb.fr fr (by simp)).at (List.getElem?_eq_getElem h2)
      refine ⟨sa, by rw [cellH_of gb]; rfl, ?_⟩
      simp only [hp, hq, oE_some]
      refine ⟨i0, by omega, _, a0, _, a1, wa, a2, ba, a3, i0, e2, _, b0, _, b1, wb, b2, bb, b3, websterref05_Same Wa Ba Wb Bb oa ob (hw _ (List.getElem_mem h1)) fun h2' f2 => ⟨_, rfl, condI (fun e3 => K0 (fun h => ?_) h2' (fr.trans' f2)) fun e3 => ?_⟩⟩
      · have e3 := not_eq_true_of e3
        subst h
        rw [sameB_refl] at e3
        cases e3
      · have e3 := sameB_eq.1 (not_eq_false_of e3)
        refine ⟨⟨by omega, by omega⟩, ⟨fr.trans' f2, (by rw [← hp]; exact f2.get gb (by simp)), by omega, by omega, ?_⟩, by show Int.toNat _ < Int.toNat _; omega⟩
        rw [show (z + 1).toNat = z.toNat + 1 by omega, List.take_succ_eq_append_getElem h1, List.take_succ_eq_append_getElem h2, i2, e3]
    · have e2 : ¬ z < (sb.n : Int) := by simpa using e2
      rw [List.take_of_length_le (by omega), List.take_of_length_le (by omega)] at i2
      exact K1 i2 h' fr

/-! ### Slices of objects that grow -/
abbrev Trip := AO × Sl × Sl
def objL (x : Trip) : List Value := [.int .i64 x.1.cls, .int .i64 x.1.kind, .slice x.2.1.a x.2.1.n x.2.1.c, .slice x.2.2.a x.2.2.n x.2.2.c]

theorem objL_one (x : Trip) : (objL x).length = 4 := rfl
theorem objL_len (L : List Trip) : (L.flatMap objL).length = 4 * L.length := by
  induction L with
  | nil => rfl
  | cons x L ih => simp [List.flatMap_cons, objL, ih]; omega

theorem objL_get : ∀ (L : List Trip) (i j : Nat) (x : Trip), L[i]? = some x → j < 4 → (L.flatMap objL)[i * 4 + j]? = (objL x)[j]?
  | [], i, j, x, h, _ => by simp at h
  | y :: L, 0, j, x, h, hj => by
    simp at h
    subst h
    rw [List.flatMap_cons, List.getElem?_append_left (by simp [objL]; omega)]
    simp
  | y :: L, i + 1, j, x, h, hj => by
    have ih := objL_get L i j x (by simpa using h) hj
    rw [List.flatMap_cons, List.getElem?_append_right (by simp [objL]; omega)]
    rw [show (i + 1) * 4 + j - (objL y).length = i * 4 + j by simp [objL]; omega]
    exact ih

structure SlOG (h : Heap) (s : Sl) (L : List Trip) (E : List Nat) : Prop where
  len : s.n = L.length
  cap : s.n ≤ s.c
  nil : s.a = none → s.c = 0
  own : ∀ p, s.a = some p → p.spot = none ∧ p.block ∉ E ∧ ∃ cs T, h[p.block]? = some (.cells cs T (0, 0)) ∧ p.off + 4 * s.c ≤ cs.size ∧ (cs.toList.drop p.off).take (4 * L.length) = L.flatMap objL
  elt : ∀ x ∈ L, SlI h x.2.1 .i64 x.1.w ∧ SlI h x.2.2 .u8 x.1.b ∧ (∀ k ∈ x.2.1.blk ++ x.2.2.blk, k ∈ E) ∧ bytesOK x.1.b
  lt : ∀ k ∈ E, k < h.size

theorem SlOG.empty (h : Heap) : SlOG h ⟨none, 0, 0⟩ [] [] := ⟨rfl, Nat.le_refl _, fun _ => rfl, fun p hp => (by cases hp), fun x hx => (by cases hx), fun k hk => (by cases hk)⟩

theorem SlOG.fr {F : List Nat} {h h' : Heap} {s : Sl} {L : List Trip} {E : List Nat} (H : SlOG h s L E) (x : Fr F h h') (h1 : ∀ b ∈ s.blk, b ∉ F) (h2 : ∀ b ∈ E, b ∉ F) : SlOG h' s L E :=
  ⟨H.len, H.cap, H.nil, fun p hp => by
    obtain ⟨a, b, cs, T, c, d⟩ := H.own p hp
    exact ⟨a, b, cs, T, x.get c (h1 _ (by simp [Sl.blk, hp])), d⟩, fun y hy => by
    obtain ⟨a, b, c, d⟩ := H.elt y hy
    exact ⟨a.fr x fun k hk => h2 k (c k (List.mem_append_left _ hk)), b.fr x fun k hk => h2 k (c k (List.mem_append_right _ hk)), c, d⟩, fun k hk => Nat.lt_of_lt_of_le (H.lt k hk) x.size⟩

theorem SlOG.slO {h : Heap} {s : Sl} {L : List Trip} {E : List Nat} (H : SlOG h s L E) : SlO h s (L.map (·.1)) (s.blk ++ E) := by
  refine ⟨by simp [H.len], fun e => ?_, fun p hp _ => by simp [Sl.blk, hp], fun k hk => ?_, fun p hp _ => ?_⟩
  · have := H.nil e
    have := H.cap
    have := H.len
    have : L = [] := List.eq_nil_of_length_eq_zero (by omega)
    simp [this]
  · rcases List.mem_append.1 hk with hk | hk
    · cases hs : s.a with
      | none => simp [Sl.blk, hs] at hk
      | some p =>
        obtain ⟨_, _, cs, T, c, _⟩ := H.own p hs
        simp [Sl.blk, hs] at hk
        subst hk
        exact lt_of_get c
    · exact H.lt k hk
  · obtain ⟨a, b, cs, T, c, d, e⟩ := H.own p hp
    have hlen := congrArg List.length e
    rw [objL_len, List.length_take, List.length_drop] at hlen
    have hcs : cs.toList.length = cs.size := Array.length_toList
    refine ⟨a, cs, T, _, c, by simp; have := H.len; have := H.cap; omega, fun i a ha => ?_⟩
    rw [List.getElem?_map] at ha
    cases hi : L[i]? with
    | none => rw [hi] at ha; cases ha
    | some x =>
      rw [hi] at ha
      simp only [Option.map_some, Option.some.injEq] at ha
      subst ha
      have hil : i < L.length := (List.getElem?_eq_some_iff.1 hi).1
      obtain ⟨e1, e2, e3, e4⟩ := H.elt x (List.mem_of_getElem? hi)
      have at' : ∀ j, j < 4 → cs[p.off + i * 4 + j]? = (objL x)[j]? := fun j hj => by
        rw [← objL_get L i j x hi hj, ← e, List.getElem?_take, if_pos (by omega), List.getElem?_drop, Array.getElem?_toList]
        congr 1
        omega
      exact ⟨x.2.1, x.2.2, at' 0 (by omega), at' 1 (by omega), at' 2 (by omega), at' 3 (by omega), e1.x, e2.x, fun k hk => List.mem_append_right _ (e3 k ((List.mem_append.1 hk).elim (fun h => List.mem_append_left _ (blkL_sub h)) fun h => List.mem_append_right _ (blkL_sub h))), e4⟩

theorem SlOG.app {h : Heap} {s : Sl} {L : List Trip} {E : List Nat} (H : SlOG h s L E) {x : Nat} {a : AO} {sw sb : Sl} {Tx : TypeId} {q : Nat × Nat} (g : h[x]? = some (.cells (objCells a.cls a.kind sw sb) Tx q))
    (Gw : SlI h sw .i64 a.w) (Gb : SlI h sb .u8 a.b) (ho : bytesOK a.b) (hne : ∀ b ∈ s.blk, b ∉ sw.blk ++ sb.blk) (hn : L.length ≤ 1000000) :
    AppOK h 4 s.a s.n s.c (some ⟨x, 0, none⟩) 1 64 ∧ ∀ s' h' (zero : List Value) (T : TypeId), zero.length = 4 → Appended h 4 zero T s.a s.n s.c (some ⟨x, 0, none⟩) 1 s' h' →
      SlOG h' s' (L ++ [(a, sw, sb)]) (E ++ (sw.blk ++ sb.blk)) ∧ Fr s.blk h h' ∧ (∀ b ∈ s'.blk, b ∈ s.blk ∨ h.size ≤ b) := by
  have hlen := H.len
  have hcap := H.cap
  have old : cellsOpt h s.a (s.n * 4) = some (L.flatMap objL) := by
    cases hs : s.a with
    | none =>
      have := H.nil hs
      have : L = [] := List.eq_nil_of_length_eq_zero (by omega)
      subst this
      rfl
    | some p =>
      obtain ⟨e0, e1, cs, T, c, d, e⟩ := H.own p hs
      obtain ⟨b, o, sp⟩ := p
      simp only at e0 c d e
      subst e0
      show cellsH h ⟨b, o, none⟩ (s.n * 4) = _
      rw [cellsH_of c (by omega), show s.n * 4 = 4 * L.length by omega, e]
  have new : cellsOpt h (some ⟨x, 0, none⟩) (1 * 4) = some (objL (a, sw, sb)) := by
    show cellsH h ⟨x, 0, none⟩ 4 = _
    rw [cellsH_of g (by simp [objCells])]
    rfl
  have ltw : ∀ k ∈ sw.blk ++ sb.blk, k < h.size := fun k hk => (List.mem_append.1 hk).elim (Gw.lt k) (Gb.lt k)
  refine ⟨⟨⟨⟨_, old⟩, fun e => ?_⟩, ⟨_, new, fun e => (by cases e), fun v hv => ?_⟩, fun p hp hr => ?_, by omega, by omega⟩, fun s' h' zero T hz A => ?_⟩
  · have := H.nil e
    omega
  · simp [objL] at hv
    rcases hv with rfl | rfl | rfl | rfl <;> rfl
  · obtain ⟨e0, e1, cs, T, c, d, e⟩ := H.own p hp
    obtain ⟨b, o, sp⟩ := p
    simp only at e0 c d e
    subst e0
    rw [add_add]
    exact StOK_of c (by omega)
  · obtain ⟨os, ns, h1, h2, hc⟩ := A.ok
    rw [old] at h1
    rw [new] at h2
    cases h1
    cases h2
    have eltN : ∀ {h'}, (∀ y ∈ L, SlI h' y.2.1 .i64 y.1.w ∧ SlI h' y.2.2 .u8 y.1.b) → SlI h' sw .i64 a.w → SlI h' sb .u8 a.b →
        ∀ y ∈ L ++ [(a, sw, sb)], SlI h' y.2.1 .i64 y.1.w ∧ SlI h' y.2.2 .u8 y.1.b ∧ (∀ k ∈ y.2.1.blk ++ y.2.2.blk, k ∈ E ++ (sw.blk ++ sb.blk)) ∧ bytesOK y.1.b := fun hL hw hb y hy => by
      rcases List.mem_append.1 hy with hy | hy
      · obtain ⟨a1, a2⟩ := hL y hy
        obtain ⟨_, _, a3, a4⟩ := H.elt y hy
        exact ⟨a1, a2, fun k hk => List.mem_append_left _ (a3 k hk), a4⟩
      · rw [List.mem_singleton] at hy
        subst hy
        exact ⟨hw, hb, fun k hk => List.mem_append_right _ hk, ho⟩
    have hfl : (L ++ [(a, sw, sb)]).flatMap objL = L.flatMap objL ++ objL (a, sw, sb) := by simp [List.flatMap_append]
    rcases hc with ⟨hr, rfl, rfl⟩ | ⟨hr, c', hc', rfl, rfl⟩
    · cases hs : s.a with
      | none =>
        have := H.nil hs
        omega
      | some p =>
        obtain ⟨e0, e1, cs, T', c, d, e⟩ := H.own p hs
        obtain ⟨b, o, sp⟩ := p
        simp only at e0 c d e
        subst e0
        simp only [putsOpt, add_add]
        have hg := get_putsH_eq (o := o + s.n * 4) (vs := objL (a, sw, sb)) (i := 0) c
        have hsz := size_setsA cs (o + s.n * 4) (objL (a, sw, sb)) 0
        have f : Fr [b] h (putsH h ⟨b, o + s.n * 4, none⟩ (objL (a, sw, sb)) 0) := Fr.puts (.inl (by simp))
        have nbE : b ∉ E := e1
        have nb2 : b ∉ sw.blk ++ sb.blk := hne b (by simp [Sl.blk, hs])
        refine ⟨⟨by simp; omega, hr, fun e => (by cases e), fun p hp => ?_, eltN (fun y hy => ?_) (Gw.fr f fun k hk => ?_) (Gb.fr f fun k hk => ?_), fun k hk => ?_⟩, by simpa [Sl.blk, hs] using f, fun b' hb' => .inl (by simpa [Sl.blk, hs] using hb')⟩
        · cases hp
          refine ⟨rfl, fun hm => (List.mem_append.1 hm).elim nbE nb2, _, _, hg, by rw [hsz]; exact d, ?_⟩
          rw [hfl]
          apply List.ext_getElem?
          intro i
          have hcs : cs.toList.length = cs.size := Array.length_toList
          have hee := congrArg List.length e
          rw [objL_len, List.length_take, List.length_drop] at hee
          simp only [List.length_append, List.length_singleton]
          rw [List.getElem?_take, List.getElem?_drop, Array.getElem?_toList]
          by_cases hi : i < 4 * (L.length + 1)
          · rw [if_pos hi, get_setsA (by show o + s.n * 4 + 0 + 4 ≤ cs.size; omega)]
            simp only [Nat.add_zero, show (objL (a, sw, sb)).length = 4 from rfl]
            by_cases hi1 : i < 4 * L.length
            · rw [if_neg (by omega), List.getElem?_append_left (by rw [objL_len]; exact hi1), ← e, List.getElem?_take, if_pos hi1, List.getElem?_drop, Array.getElem?_toList]
            · rw [if_pos (by omega), List.getElem?_append_right (by rw [objL_len]; omega), objL_len]
              congr 1
              omega
          · rw [if_neg hi, List.getElem?_eq_none (by rw [List.length_append, objL_len]; simp [objL]; omega)]
        · obtain ⟨a1, a2, a3, _⟩ := H.elt y hy
          exact ⟨a1.fr f fun k hk hm => nbE (by simp at hm; subst hm; exact a3 _ (List.mem_append_left _ hk)), a2.fr f fun k hk hm => nbE (by simp at hm; subst hm; exact a3 _ (List.mem_append_right _ hk))⟩
        · intro hm
          simp at hm
          subst hm
          exact nb2 (List.mem_append_left _ hk)
        · intro hm
          simp at hm
          subst hm
          exact nb2 (List.mem_append_right _ hk)
        · rw [size_putsH]
          exact (List.mem_append.1 hk).elim (H.lt k) (ltw k)
    · have f : Fr s.blk h (h.push (.cells (L.flatMap objL ++ objL (a, sw, sb) ++ (List.replicate (c' - (s.n + 1)) zero).flatten).toArray T (0, 0))) := Fr.push _ _ _
      have f0 : Fr [] h (h.push (.cells (L.flatMap objL ++ objL (a, sw, sb) ++ (List.replicate (c' - (s.n + 1)) zero).flatten).toArray T (0, 0))) := Fr.push _ _ _
      have hz2 : ((List.replicate (c' - (s.n + 1)) zero).flatten).length = (c' - (s.n + 1)) * 4 := by simp [hz]
      refine ⟨⟨by simp; omega, hc', fun e => (by cases e), fun p hp => ?_, eltN (fun y hy => ?_) (Gw.fr f0 (by simp)) (Gb.fr f0 (by simp)), fun k hk => ?_⟩, f, fun b hb => .inr (by simp [Sl.blk] at hb; omega)⟩
      · cases hp
        refine ⟨rfl, fun hm => ?_, _, _, get_push_new, ?_, ?_⟩
        · have := (List.mem_append.1 hm).elim (H.lt _) (ltw _)
          simp only at this
          omega
        · simp only [List.size_toArray, List.length_append, objL_len, hz2, objL_one]
          omega
        · rw [hfl]
          simp only [List.drop_zero]
          rw [List.take_append_of_le_length (by simp only [List.length_append, objL_len, List.length_singleton, objL_one]; omega), List.take_of_length_le (by simp only [List.length_append, objL_len, List.length_singleton, objL_one]; omega)]
      · obtain ⟨a1, a2, _, _⟩ := H.elt y hy
        exact ⟨a1.fr f0 (by simp), a2.fr f0 (by simp)⟩
      · have := (List.mem_append.1 hk).elim (H.lt k) (ltw k)
        simp
        omega
end Go.Hv.W

/- The law PrimPlaces answers true. -/
namespace Go.Hv.W
open Go Go.Hv

theorem websterref05_Ref {o : Int} {h : Heap} {R : Value → Heap → Prop} (K : R (.bool (refB o)) h) : HC P F_websterref05_Ref #[.int .i64 o] h R := by
  have h2 : Int.tmod o 2 = 0 ∨ Int.tmod o 2 = 1 ∨ Int.tmod o 2 = -1 := by
    have := Int.natAbs_tmod o 2
    have h3 : (2 : Int).natAbs = 2 := rfl
    rw [h3] at this
    omega
  have hz : Int.tmod o 2 = 0 ↔ o % 2 = 0 := by
    constructor
    · intro h; exact Int.emod_eq_zero_of_dvd (Int.dvd_of_tmod_eq_zero h)
    · intro h; exact Int.tmod_eq_zero_of_dvd (Int.dvd_of_emod_eq_zero h)
  have even : R (.bool (refB o)) h → (((2 : Int) ≠ 0) ∧ (cond (Int.tmod o 2 == 0) (cond (decide (0 < o)) (R (.bool (decide (o < 2147483648))) h) (R (.bool false) h)) (R (.bool false) h))) ∨ (o % 2 = 1 ∧ -2147483647 ≤ o ∧ o ≤ 2147483647) := fun K => by
    by_cases hodd : o % 2 = 1 ∧ -2147483647 ≤ o ∧ o ≤ 2147483647
    · exact .inr hodd
    · refine .inl ⟨by omega, condI (fun a => condI (fun b => ?_) fun b => ?_) fun a => ?_⟩
      · have a : o % 2 = 0 := hz.1 (by simpa using a)
        have b := of_decide_eq_true b
        have : refB o = decide (o < 2147483648) := by
          have n1 : numB o = false := by simp [numB]; omega
          simp [refB, n1, namB, a, b]
        rw [this] at K
        exact K
      · have a : o % 2 = 0 := hz.1 (by simpa using a)
        have b : ¬ 0 < o := by simpa using b
        have : refB o = false := by
          have n1 : numB o = false := by simp [numB]; omega
          simp [refB, n1, namB, b]
        rw [this] at K
        exact K
      · have a : ¬ o % 2 = 0 := fun h => by rw [hz.2 h] at a; simp at a
        have : refB o = false := by
          have n1 : numB o = false := by simp [numB]; omega
          have n2 : namB o = false := by simp [namB]; omega
          simp [refB, n1, n2]
        rw [this] at K
        exact K
  refine S_websterref05_Ref ⟨by omega, ?_⟩
  rcases even K with he | ⟨o1, o2, o3⟩
  · refine condI (fun a => condI (fun b => condI (fun c => ?_) fun c => he) fun b => he) fun a => he
    have b := of_decide_eq_true b
    have c := of_decide_eq_true c
    have a : ¬ o % 2 = 0 := fun h => by rw [hz.2 h] at a; simp at a
    have : refB o = true := by
      have n1 : numB o = true := by simp [numB]; omega
      simp [refB, n1]
    rw [this] at K
    exact K
  · have : refB o = true := by
      have n1 : numB o = true := by simp [numB]; omega
      simp [refB, n1]
    rw [this] at K
    have a : (Int.tmod o 2 != 0) = true := by
      have : Int.tmod o 2 ≠ 0 := fun h => by have := hz.1 h; omega
      simpa using this
    rw [a, show decide ((-2147483647 : Int) ≤ o) = true from decide_eq_true o2, show decide (o ≤ (2147483647 : Int)) = true from decide_eq_true o3]
    exact K

/-- where one stands: what the memory holds, and that all else is as it was -/
structure Cur (pb : Nat) (h0 h : Heap) (F : List Nat) (s : St) : Prop where
  rep : FRep pb h F s
  fr : Fr [] h0 h
  far : ∀ k ∈ F, h0.size ≤ k

theorem Cur.grow {pb : Nat} {h0 h h' : Heap} {F : List Nat} {s : St} (C : Cur pb h0 h F s) (x : Fr [] h h') : Cur pb h0 h' F s := ⟨(C.rep.grow x).1, C.fr.trans' x, C.far⟩
theorem Cur.step {pb : Nat} {h0 h h' : Heap} {F F' : List Nat} {s s' : St} (C : Cur pb h0 h F s) (H : FRep pb h' F' s') (m : Mv F h F' h') : Cur pb h0 h' F' s' :=
  ⟨H, C.fr.trans m.fr fun k hk => .inr (C.far k hk), fun k hk => (m.sub k hk).elim (C.far k) fun h => Nat.le_trans C.fr.size h⟩
theorem Cur.lt {pb : Nat} {h0 h : Heap} {F : List Nat} {s : St} (C : Cur pb h0 h F s) : ∀ k ∈ F, k < h.size := (flatSto pb).lt C.rep

/-- a new slice of some numbers -/
theorem SlI_new {h h' : Heap} {T : TypeId} {k : IntKind} {l : List Int} {cs : Array Value} (g : h'[h.size]? = some (.cells cs T (0, 0))) (hc : cs.toList = l.map (Value.int k)) {n : Nat} (hn : n = l.length) : SlI h' ⟨some ⟨h.size, 0, none⟩, n, n⟩ k l := by
  subst hn
  refine ⟨rfl, fun e => (by cases e), fun q hq => ?_⟩
  cases hq
  have hl : cs.size = l.length := by rw [← Array.length_toList, hc]; simp
  refine ⟨rfl, cs, T, _, g, by simp [hl], fun i hi => ?_⟩
  have : cs[0 + i]? = cs.toList[i]? := by simp
  simp only
  rw [this, hc, List.getElem?_map]

theorem SlI_nil (h : Heap) (k : IntKind) : SlI h ⟨none, 0, 0⟩ k [] := ⟨rfl, fun _ => rfl, fun p hp => by cases hp⟩

/-! ### The objects -/
def aE : AO := { cls := 2, kind := 1, w := [], b := [] }
def aC : AO := { cls := 2, kind := 1, w := [2, 2, 2075], b := [] }
def s5 : St := ⟨5, [(1, aE), (2, aE), (3, aE), (4, aE), (5, aC)]⟩
def s6 (w : List Int) : St := ⟨6, [(1, aE), (2, aE), (3, aE), (4, aE), (5, aC), (6, { cls := 10, kind := 1, w := w, b := [] })]⟩
def noSum : St → Int → Int → Int → Out := fun s _ _ _ => ⟨0, 0, s⟩

theorem s5_load : [aE, aE, aE, aE, aC].foldl St.add ⟨0, []⟩ = s5 := rfl
theorem s6_five (w : List Int) : (s6 w).get 5 = some aC := by simp [s6, St.get]
theorem s6_six (w : List Int) : (s6 w).get 6 = some { cls := 10, kind := 1, w := w, b := [] } := by simp [s6, St.get]
theorem nam10 : namV 10 = 5 := by decide
theorem nam12 : namV 12 = 6 := by decide
theorem s6_fetch (w : List Int) : fetchE (s6 w) 10 2 = 0 ∧ fetchV (s6 w) 10 2 = 2075 := by
  have h1 : fetchE (s6 w) 10 2 = 0 := by simp [fetchE, nam10, s6_five, aC, AO.size]
  refine ⟨h1, ?_⟩
  simp only [fetchV, nam10, s6_five, h1, if_true]
  rfl
theorem s6_shape (w : List Int) : shapeE (s6 w) 10 = 0 ∧ shF (s6 w) 10 = 3 := by
  obtain ⟨h1, h2⟩ := s6_fetch w
  have h3 : shapeE (s6 w) 10 = 0 := by
    simp only [shapeE, h1, h2]
    decide
  refine ⟨h3, ?_⟩
  simp only [shF, h3, if_true, h2]
  decide
theorem s6_beh (w : List Int) (hw : 3 ≤ w.length) : behE (s6 w) 12 = 0 ∧ behF (s6 w) 12 = 3 ∧ behN (s6 w) 12 = w.length - 3 ∧ behK (s6 w) 12 = 1 := by
  obtain ⟨h1, h2⟩ := s6_shape w
  have hs : AO.size { cls := 10, kind := 1, w := w, b := [] } = w.length := rfl
  simp only [behE, behF, behN, behK, nam12, s6_six, h1, h2, hs, ne_eq, not_true, if_false]
  refine ⟨?_, trivial, trivial, trivial⟩
  rw [if_neg (by omega)]
theorem num_odd {n : Int} (h0 : 0 ≤ n) (h1 : n ≤ 1073741823) : numB (2 * n + 1) = true ∧ numV (2 * n + 1) = n := by
  have h2 : numB (2 * n + 1) = true := by simp [numB]; omega
  refine ⟨h2, ?_⟩
  simp only [numV, h2, if_true]
  omega

theorem s5_inst {n : Int} (h0 : 0 ≤ n) (h1 : n ≤ 255) : doR noSum s5 71 10 [2 * n + 1] = ⟨12, true, 0, s6 (List.replicate (3 + n).toNat 2)⟩ := by
  obtain ⟨a1, a2⟩ := num_odd h0 (by omega)
  have k : knownF 71 = some 1 := by decide
  have e1 : shapeE s5 10 = 0 := by decide
  have e2 : shF s5 10 = 3 := by decide
  have e3 : shK s5 10 = 1 := by decide
  have e4 : shM s5 10 = true := by decide
  have e5 : isSum 71 = false := by decide
  have e6 : instSize s5 10 [n] = 3 + n := by simp [instSize, e2]
  have e7 : newOK 10 1 (3 + n) = true := by
    have : namB 10 = true := by decide
    simp [newOK, this]; omega
  have e8 : badL [n] = false := by simp [badL]; omega
  have e9 : objR s5 71 10 [2 * n + 1] = instR s5 10 [n] := by
    simp only [objR, List.map_cons, List.map_nil, kOf, a1, a2, if_true]
    simp
  have e10 : instR s5 10 [n] = ⟨12, 0, s6 (List.replicate (3 + n).toNat 2)⟩ := by
    simp only [instR, e1, e3, e4, e6, e7, e8]
    rfl
  simp only [doR, k, List.length_cons, List.length_nil, e5, e9, e10]
  rfl

theorem s6_size {w : List Int} (hw : 3 ≤ w.length) (h1 : w.length ≤ 1003) : doR noSum (s6 w) 62 12 [] = ⟨2 * (w.length - 3) + 1, true, 0, s6 w⟩ := by
  obtain ⟨b1, b2, b3, b4⟩ := s6_beh w hw
  have k : knownF 62 = some 0 := by decide
  have e5 : isSum 62 = false := by decide
  have hs : smallOK (w.length - 3 : Int) = true := by simp [smallOK]; omega
  have e9 : objR (s6 w) 62 12 [] = ⟨2 * (w.length - 3) + 1, 0, s6 w⟩ := by
    simp only [objR, b1, b3, smallV, smallE, hs, if_true]
    simp
  simp only [doR, k, List.length_nil, e5, e9]
  rfl

theorem s6_at {w : List Int} (hw : 3 ≤ w.length) {i : Int} (h0 : 0 ≤ i) (h1 : i ≤ 255) : (1 ≤ i ∧ i ≤ w.length - 3 → atE (s6 w) 12 (2 * i + 1) = 0 ∧ atV (s6 w) 12 (2 * i + 1) = 2 + i) ∧ (¬ (1 ≤ i ∧ i ≤ w.length - 3) → atE (s6 w) 12 (2 * i + 1) = 21) := by
  obtain ⟨b1, b2, b3, b4⟩ := s6_beh w hw
  obtain ⟨a1, a2⟩ := num_odd h0 (by omega)
  refine ⟨fun hi => ?_, fun hi => ?_⟩
  · simp only [atE, atV, b1, b2, b3, a1, a2]
    refine ⟨?_, by omega⟩
    simp
    omega
  · simp only [atE, b1, b3, a1, a2]
    simp
    omega

theorem s6_put {w : List Int} (hw : 3 ≤ w.length) {i v : Int} (h0 : 0 ≤ i) (h1 : i ≤ 255) (hv : refB v = true) :
    (1 ≤ i ∧ i ≤ w.length - 3 → doR noSum (s6 w) 61 12 [2 * i + 1, v] = ⟨v, true, 0, s6 (w.set (2 + i).toNat v)⟩) ∧ (¬ (1 ≤ i ∧ i ≤ w.length - 3) → doR noSum (s6 w) 61 12 [2 * i + 1, v] = ⟨0, false, 0, s6 w⟩) := by
  obtain ⟨b1, b2, b3, b4⟩ := s6_beh w hw
  obtain ⟨p1, p2⟩ := s6_at hw h0 h1
  have k : knownF 61 = some 2 := by decide
  have e5 : isSum 61 = false := by decide
  refine ⟨fun hi => ?_, fun hi => ?_⟩
  · obtain ⟨q1, q2⟩ := p1 hi
    have f1 : fetchE (s6 w) 12 (2 + i) = 0 := by
      have hs : AO.size { cls := 10, kind := 1, w := w, b := [] } = w.length := rfl
      simp only [fetchE, nam12, s6_six, hs]
      simp
      omega
    have f2 : setE' (s6 w) 12 (2 + i) v = 0 := by simp [setE', f1, hv]
    have f3 : setS (s6 w) 12 (2 + i) v = s6 (w.set (2 + i).toNat v) := by
      simp only [setS, nam12, s6_six, f2, if_true]
      simp [St.set, s6]
    have e9 : objR (s6 w) 61 12 [2 * i + 1, v] = ⟨v, 0, s6 (w.set (2 + i).toNat v)⟩ := by
      have g0 : ([2 * i + 1, v] : List Int).getD 0 0 = 2 * i + 1 := rfl
      have g1 : ([2 * i + 1, v] : List Int).getD 1 0 = v := rfl
      simp only [objR, g0, g1, putV, putE, putS, q1, q2, b4, f2, f3]
      simp
    simp only [doR, k, List.length_cons, List.length_nil, e5, e9]
    rfl
  · have q1 := p2 hi
    have e9 : objR (s6 w) 61 12 [2 * i + 1, v] = ⟨0, 21, s6 w⟩ := by
      have g0 : ([2 * i + 1, v] : List Int).getD 0 0 = 2 * i + 1 := rfl
      have g1 : ([2 * i + 1, v] : List Int).getD 1 0 = v := rfl
      simp only [objR, g0, g1, putV, putE, putS, q1]
      simp
    simp only [doR, k, List.length_cons, List.length_nil, e5, e9]
    rfl

theorem s6_get {w : List Int} (hw : 3 ≤ w.length) {i : Int} (h0 : 0 ≤ i) (h1 : i ≤ 255) :
    (1 ≤ i ∧ i ≤ w.length - 3 → ∀ v, w[(2 + i).toNat]? = some v → doR noSum (s6 w) 60 12 [2 * i + 1] = ⟨v, true, 0, s6 w⟩ ∧ fetchE (s6 w) 12 (2 + i) = 0 ∧ fetchV (s6 w) 12 (2 + i) = v) ∧ (¬ (1 ≤ i ∧ i ≤ w.length - 3) → doR noSum (s6 w) 60 12 [2 * i + 1] = ⟨0, false, 0, s6 w⟩) := by
  obtain ⟨b1, b2, b3, b4⟩ := s6_beh w hw
  obtain ⟨p1, p2⟩ := s6_at hw h0 h1
  have k : knownF 60 = some 1 := by decide
  have e5 : isSum 60 = false := by decide
  have g0 : ([2 * i + 1] : List Int).getD 0 0 = 2 * i + 1 := rfl
  refine ⟨fun hi v hv => ?_, fun hi => ?_⟩
  · obtain ⟨q1, q2⟩ := p1 hi
    have f1 : fetchE (s6 w) 12 (2 + i) = 0 := by
      have hs : AO.size { cls := 10, kind := 1, w := w, b := [] } = w.length := rfl
      simp only [fetchE, nam12, s6_six, hs]
      simp
      omega
    have f2 : fetchV (s6 w) 12 (2 + i) = v := by simp only [fetchV, nam12, s6_six, f1, if_true, hv, Option.getD_some]
    refine ⟨?_, f1, f2⟩
    have e9 : objR (s6 w) 60 12 [2 * i + 1] = ⟨v, 0, s6 w⟩ := by
      simp only [objR, g0, getV, getE', q1, q2, b4, f1, f2]
      simp
    simp only [doR, k, List.length_cons, List.length_nil, e5, e9]
    rfl
  · have q1 := p2 hi
    have e9 : objR (s6 w) 60 12 [2 * i + 1] = ⟨0, 21, s6 w⟩ := by
      simp only [objR, g0, getV, getE', q1]
      simp
    simp only [doR, k, List.length_cons, List.length_nil, e5, e9]
    rfl
end Go.Hv.W

/- All objects of a memory, by number and as they are. -/
namespace Go.Hv.W
open Go Go.Hv

theorem next_of {s : St} {p q : List (Int × AO)} {id : Int} (hs : s.objs = p ++ q) (hp : ∀ x ∈ p, x.1 ≤ id) : (q = [] → s.nextId id = 0) ∧ (∀ y q', q = y :: q' → id < y.1 → s.nextId id = y.1) := by
  unfold St.nextId
  rw [hs, List.find?_append]
  have h0 : p.find? (fun x => decide (id < x.1)) = none := by
    rw [List.find?_eq_none]
    intro x hx
    have := hp x hx
    simp; omega
  rw [h0]
  refine ⟨fun h => ?_, fun y q' h hy => ?_⟩
  · subst h; rfl
  · subst h
    simp [hy]

theorem split_ord {s : St} (hok : s.OK) {p q : List (Int × AO)} {y : Int × AO} (hs : s.objs = p ++ y :: q) : (∀ x ∈ p, x.1 ≤ y.1) ∧ (∀ x ∈ q, y.1 < x.1) := by
  have h := hok.ord
  rw [hs, List.pairwise_append] at h
  obtain ⟨_, h2, h3⟩ := h
  rw [List.pairwise_cons] at h2
  exact ⟨fun x hx => Int.le_of_lt (h3 x hx y (by simp)), h2.1⟩

section
variable {v : Value} {Rep : Heap → List Nat → St → Prop} {Tight : St → Prop} (S : Sto v Rep Tight) {h : Heap} {F : List Nat} {s : St} (H : Rep h F s) {R : Value → Heap → Prop}
include S H

theorem flat_All (hm : s.made < 1073741824) (hl : s.objs.length ≤ 1000000)
    (K : ∀ h' F' t, SlI h' t .i64 (s.objs.map fun x => oopV x.1) → (∀ k ∈ t.blk, h.size ≤ k ∧ k ∉ F') → Rep h' F' s → Mv F h F' h' → R (.slice t.a t.n t.c) h') : HC P F_flat_All #[v] h R := by
  have hok := S.inv H
  have hid : ∀ y ∈ s.objs, namV (oopV y.1) = y.1 := fun y hy => by
    have := hok.rng y hy
    exact namV_oop this.1 (by omega)
  refine S_flat_All (S.next H fun h1 F1 H1 m1 => ⟨_, _, rfl, ?_⟩)
  have n0 : namV 0 = 0 := by decide
  rw [n0]
  refine ⟨fun b z t h' => ∃ F' p q, s.objs = p ++ q ∧ Rep h' F' s ∧ Mv F h F' h' ∧ SlG h' t .i64 (p.map fun x => oopV x.1) ∧ (∀ k ∈ t.blk, h.size ≤ k ∧ k ∉ F') ∧ ((q = [] ∧ b = false) ∨ ∃ y q', q = y :: q' ∧ b = true ∧ z = oopV y.1), fun _ _ t _ => s.objs.length - t.n,
    ⟨F1, [], s.objs, rfl, H1, m1, SlG.empty _ _, by simp [Sl.blk], ?_⟩, fun b z t h' I => ?_⟩
  · obtain ⟨a1, a2⟩ := next_of (s := s) (p := []) (q := s.objs) (id := 0) rfl (fun x hx => by cases hx)
    cases hq : s.objs with
    | nil => exact .inl ⟨rfl, by rw [a1 hq]; rfl⟩
    | cons y q' =>
      have := hok.rng y (by rw [hq]; simp)
      rw [a2 y q' hq (by omega)]
      exact .inr ⟨y, q', rfl, decide_eq_true (by omega), rfl⟩
  · obtain ⟨F', p, q, hs, H', m', G, hd, hq⟩ := I
    refine condI (fun e => ?_) fun e => ?_
    · subst e
      rcases hq with ⟨_, hq⟩ | ⟨y, q', rfl, _, rfl⟩
      · cases hq
      · have hlen := congrArg List.length hs
        rw [List.length_append, List.length_cons] at hlen
        have hn := G.is.len
        rw [List.length_map] at hn
        refine box_new fun h2 g2 f2 s2 => ?_
        have X : SlI h2 ⟨some ⟨h'.size, 0, none⟩, 1, 1⟩ .i64 [oopV y.1] := SlI_new g2 (l := [oopV y.1]) rfl rfl
        have G2 := G.fr f2 (by simp)
        refine ⟨G2.appOK X (by omega) (by simp only; omega), rfl, fun t' h3 A => ?_⟩
        obtain ⟨a1, a2, a3⟩ := G2.appended X A
        have hlt := S.lt H'
        have H3 := S.fr (S.fr H' f2 (by simp)) a2 fun k hk hb => (hd k hb).2 hk
        have m3 : Mv F h F' h3 := ⟨(m'.fr.trans f2 (by simp)).trans a2 (fun k hk => .inr (hd k hk).1), m'.sub⟩
        have hy : y ∈ s.objs := by rw [hs]; simp
        have hd3 : ∀ k ∈ t'.blk, h.size ≤ k ∧ k ∉ F' ∧ k < h3.size := fun k hk => by
          have h1 := a1.is.lt k hk
          rcases a3 k hk with h2 | h2
          · exact ⟨(hd k h2).1, (hd k h2).2, h1⟩
          · have := m'.fr.size
            exact ⟨by omega, fun hm => (by have := hlt k hm; omega), h1⟩
        have hn3 := a1.is.len
        rw [List.length_append, List.length_map, List.length_singleton] at hn3
        refine S.next H3 fun h4 F4 H4 m4 => ⟨_, _, rfl, ⟨F4, p ++ [y], q', by rw [hs]; simp, H4, m3.trans m4, ?_, fun k hk => ⟨(hd3 k hk).1, m4.out (hd3 k hk).2.2 (hd3 k hk).2.1⟩, ?_⟩, by show s.objs.length - t'.n < s.objs.length - t.n; omega⟩
        · have := a1.fr m4.fr fun k hk => (hd3 k hk).2.1
          simpa using this
        · rw [hid y hy]
          obtain ⟨o1, o2⟩ := split_ord hok hs
          obtain ⟨b1, b2⟩ := next_of (s := s) (p := p ++ [y]) (q := q') (id := y.1) (by rw [hs]; simp) fun x hx => by
            rcases List.mem_append.1 hx with hx | hx
            · exact o1 x hx
            · rw [List.mem_singleton] at hx
              rw [hx]
              exact Int.le_refl _
          cases hq' : q' with
          | nil => exact .inl ⟨rfl, by rw [b1 hq']; rfl⟩
          | cons z q'' =>
            have h1 := o2 z (by rw [hq']; simp)
            have h2 := hok.rng z (by rw [hs, hq']; simp)
            rw [b2 z q'' hq' h1]
            exact .inr ⟨z, q'', rfl, decide_eq_true (by omega), rfl⟩
    · subst e
      rcases hq with ⟨rfl, _⟩ | ⟨y, q', _, hq, _⟩
      · rw [List.append_nil] at hs
        rw [← hs] at G
        exact K h' F' t G.is hd H' m'
      · cases hq

theorem websterlaw16_objs (hm : s.made < 1073741824) (hl : s.objs.length ≤ 1000000)
    (K : ∀ h' F' t B, SlO h' t (s.objs.map (·.2)) B → (∀ k ∈ B, k ∉ F') → Rep h' F' s → Mv F h F' h' → R (.slice t.a t.n t.c) h') : HC P F_websterlaw16_objs #[v] h R := by
  have hok := S.inv H
  refine S_websterlaw16_objs (flat_All S H hm hl fun h1 F1 t G hd H1 m1 => ⟨t, rfl, ?_⟩)
  have hn := G.len
  rw [List.length_map] at hn
  refine ⟨fun z t2 h' => ∃ F' L E, 0 ≤ z ∧ z ≤ s.objs.length ∧ Rep h' F' s ∧ Mv F1 h1 F' h' ∧ SlOG h' t2 L E ∧ L.map (·.1) = (s.objs.map (·.2)).take z.toNat ∧ (∀ k ∈ t2.blk ++ E, h1.size ≤ k ∧ k ∉ F'), fun z _ _ => (s.objs.length - z).toNat,
    ⟨F1, [], [], by omega, by omega, H1, Mv.refl _ _, SlOG.empty _, rfl, by simp [Sl.blk]⟩, fun z t2 h' I => ?_⟩
  obtain ⟨F', L, E, i0, i1, H', m', O, hL, hE⟩ := I
  refine condI (fun e => ?_) fun e => ?_
  · have e := of_decide_eq_true e
    have hlt : z.toNat < s.objs.length := by omega
    have G' := m'.sl G (fun k hk => (hd k hk).2)
    obtain ⟨p, hp⟩ := G'.1.addr (i := z.toNat) (by simpa using hlt)
    obtain ⟨y, hy⟩ : ∃ y, s.objs[z.toNat] = y := ⟨_, rfl⟩
    have hmem : y ∈ s.objs := by rw [← hy]; exact List.getElem_mem hlt
    have hrng := hok.rng y hmem
    have hid : namV (oopV y.1) = y.1 := namV_oop hrng.1 (by omega)
    have hget : s.get (namV (oopV y.1)) = some y.2 := by
      rw [hid]
      obtain ⟨p, q, hs⟩ := List.append_of_mem hmem
      unfold St.get
      rw [hs, List.find?_append]
      have : p.find? (fun x => x.1 == y.1) = none := by
        rw [List.find?_eq_none]
        intro x hx
        have h := hok.ord
        rw [hs, List.pairwise_append] at h
        have := h.2.2 x hx y (by simp)
        simp; omega
      rw [this]
      simp
    have hc : cellH h' (p.add z.toNat) = some (.int .i64 (oopV y.1)) := G'.1.cell hp (by rw [List.getElem?_map, List.getElem?_eq_getElem hlt, hy]; rfl)
    have hlen : L.length = z.toNat := by
      have := congrArg List.length hL
      simp only [List.length_map, List.length_take] at this
      omega
    have hby : bytesOK y.2.b := by
      rcases (hok.objs y hmem).kind with ⟨_, h2, _⟩ | ⟨_, _, _, h2⟩
      · rw [h2]; intro x hx; cases hx
      · exact h2
    have htk : (s.objs.map (·.2)).take (z.toNat + 1) = (s.objs.map (·.2)).take z.toNat ++ [y.2] := by
      rw [List.take_succ_eq_append_getElem (by simpa using hlt)]
      simp [hy]
    -- what is behind the object's reading: it goes into a block of its own, and is appended
    have tail : ∀ {h2 F2 sw sb h3} {b : Nat}, Rep h2 F2 s → Mv F1 h1 F2 h2 → SlI h2 sw .i64 y.2.w → SlI h2 sb .u8 y.2.b → (∀ k ∈ sw.blk ++ sb.blk, h'.size ≤ k ∧ k ∉ F2) → SlOG h2 t2 L E → (∀ k ∈ t2.blk ++ E, h1.size ≤ k ∧ k ∉ F2 ∧ k < h'.size) →
        h3[b]? = some (.cells (objCells y.2.cls y.2.kind sw sb) T_api_Obj (0, 0)) → (∀ G, (∀ k ∈ G, k ∉ F2 ∧ h'.size ≤ k ∧ k ∉ sw.blk ++ sb.blk) → Fr G h2 h3 → True) → ∀ {G : List Nat}, Fr G h2 h3 → (∀ k ∈ G, k ∉ F2 ∧ h'.size ≤ k ∧ k ∉ sw.blk ++ sb.blk) →
        ∃ z6, cellH h3 (Addr.add ⟨b, 0, none⟩ 0) = some (.int .i64 z6) ∧ ∃ z7, cellH h3 (Addr.add ⟨b, 0, none⟩ 1) = some (.int .i64 z7) ∧ ∃ s5 : Sl, cellH h3 (Addr.add ⟨b, 0, none⟩ 2) = some (.slice s5.a s5.n s5.c) ∧ ∃ s6 : Sl, cellH h3 (Addr.add ⟨b, 0, none⟩ 3) = some (.slice s6.a s6.n s6.c) ∧
          ∀ h4 : Heap, h4 = Array.push h3 (Obj.cells #[.int .i64 z6, .int .i64 z7, .slice s5.a s5.n s5.c, .slice s6.a s6.n s6.c] T_api_Obj (0, 0)) → AppOK h4 4 t2.a t2.n t2.c (some ⟨h3.size, 0, none⟩) 1 64 ∧ 4 = 4 ∧
            ∀ (s7 : Sl) (h5 : Heap), Appended h4 4 [.int .i64 0, .int .i64 0, .slice none 0 0, .slice none 0 0] T_api_Obj t2.a t2.n t2.c (some ⟨h3.size, 0, none⟩) 1 s7 h5 → InI (z + 1) ∧
              (∃ F' L E, 0 ≤ z + 1 ∧ z + 1 ≤ s.objs.length ∧ Rep h5 F' s ∧ Mv F1 h1 F' h5 ∧ SlOG h5 s7 L E ∧ L.map (·.1) = (s.objs.map (·.2)).take (z + 1).toNat ∧ (∀ k ∈ s7.blk ++ E, h1.size ≤ k ∧ k ∉ F')) ∧ (s.objs.length - (z + 1)).toNat < (s.objs.length - z).toNat := by
      intro h2 F2 sw sb h3 b H2 m2 Gw Gb hb O2 hE2 g3 _ Gx f3 hG
      simp only [add_add, cellH_of g3]
      refine ⟨_, rfl, _, rfl, sw, rfl, sb, rfl, ?_⟩
      intro h4 e4
      have g4 : h4[h3.size]? = some (.cells (objCells y.2.cls y.2.kind sw sb) T_api_Obj (0, 0)) := by rw [e4]; exact get_push_new
      have f34 : Fr [] h3 h4 := by rw [e4]; exact Fr.push _ _ _
      have f4 : Fr Gx h2 h4 := f3.trans f34 (by simp)
      have O4 := O2.fr f4 (fun k hk hg => by have := hG k hg; have := hE2 k (List.mem_append_left _ hk); omega) (fun k hk hg => by have := hG k hg; have := hE2 k (List.mem_append_right _ hk); omega)
      have Gw4 := Gw.fr f4 fun k hk hg => (hG k hg).2.2 (List.mem_append_left _ hk)
      have Gb4 := Gb.fr f4 fun k hk hg => (hG k hg).2.2 (List.mem_append_right _ hk)
      have H4 := S.fr H2 f4 fun k hk hg => (hG k hg).1 hk
      obtain ⟨A1, A2⟩ := O4.app g4 Gw4 Gb4 hby (fun k hk hm => by have := hE2 k (List.mem_append_left _ hk); have := hb k hm; omega) (by omega)
      refine ⟨A1, trivial, fun s7 h5 A => ⟨⟨by omega, by omega⟩, ?_, by show Int.toNat _ < Int.toNat _; omega⟩⟩
      obtain ⟨B1, B2, B3⟩ := A2 s7 h5 _ _ rfl A
      have H5 := S.fr H4 B2 fun k hk hb => (hE2 k (List.mem_append_left _ hb)).2.1 hk
      have l1 := m'.fr.size
      have l4 := f4.size
      have m5 : Mv F1 h1 F2 h5 := ⟨(m2.fr.trans f4 fun k hk => .inr (by have := hG k hk; omega)).trans B2 fun k hk => .inr (hE2 k (List.mem_append_left _ hk)).1, m2.sub⟩
      refine ⟨F2, L ++ [(y.2, sw, sb)], E ++ (sw.blk ++ sb.blk), by omega, by omega, H5, m5, B1, ?_, fun k hk => ?_⟩
      · rw [show (z + 1).toNat = z.toNat + 1 by omega, htk, List.map_append, hL]
        rfl
      · rcases List.mem_append.1 hk with hk | hk
        · rcases B3 k hk with hk | hk
          · exact ⟨(hE2 k (List.mem_append_left _ hk)).1, (hE2 k (List.mem_append_left _ hk)).2.1⟩
          · have l2 := m2.fr.size
            have hF2 := S.lt H2
            exact ⟨by omega, fun hm => by have := hF2 k hm; omega⟩
        · rcases List.mem_append.1 hk with hk | hk
          · exact ⟨(hE2 k (List.mem_append_right _ hk)).1, (hE2 k (List.mem_append_right _ hk)).2.1⟩
          · exact ⟨by have := (hb k hk).1; omega, (hb k hk).2⟩
    have hlow : ∀ k ∈ t2.blk ++ E, k < h'.size := fun k hk => (O.slO).lt k hk
    rw [hp, oE_some, Nat.mul_one]
    refine ⟨i0, by omega, _, hc, S.hn _ (by simp), ?_, fun h2 e2 => ?_⟩
    · refine S.obj H' (fun a ha h2 F2 sw sb H2 m2 Gw Gb hb _ => ?_) fun hno => (by rw [hget] at hno; cases hno)
      rw [hget] at ha
      cases ha
      refine ⟨_, _, sw, sb, _, rfl, box_new fun h3 g3 f3 s3 => box_w (sw := nilSl) (sb := nilSl) (sw' := sw) (sb' := sb) g3 rfl fun h4 g4 f4 => ?_⟩
      have O2 := O.fr m2.fr (fun k hk => (hE k (List.mem_append_left _ hk)).2) (fun k hk => (hE k (List.mem_append_right _ hk)).2)
      have hblt : ∀ k ∈ sw.blk ++ sb.blk, k < h2.size := fun k hk => (List.mem_append.1 hk).elim (Gw.lt k) (Gb.lt k)
      have l2 := m2.fr.size
      have hF2 := S.lt H2
      exact tail H2 (m'.trans m2) Gw Gb hb O2 (fun k hk => ⟨(hE k hk).1, m2.out (hlow k hk) (hE k hk).2, hlow k hk⟩) g4 (fun _ _ _ => trivial) (G := [h2.size]) ((f3.mono fun _ hk => by simp at hk).trans' f4) fun k hk => by
        simp at hk
        subst hk
        exact ⟨fun hm => by have := hF2 _ hm; omega, by omega, fun hm => by have := hblt _ hm; omega⟩
    · have g2 : h2[h'.size]? = some (.cells (objCells 0 0 nilSl nilSl) T_api_Obj (0, 0)) := by rw [e2]; exact get_push_new
      have f2 : Fr [] h' h2 := by rw [e2]; exact Fr.push _ _ _
      have s2 : h2.size = h'.size + 1 := by rw [e2]; simp
      have hcell : cellH h2 (p.add z.toNat) = some (.int .i64 (oopV y.1)) := (G'.1.fr f2 (by simp)).cell hp (by rw [List.getElem?_map, List.getElem?_eq_getElem hlt, hy]; rfl)
      refine ⟨⟨_, hcell, rfl⟩, S.obj (S.fr H' f2 (by simp)) (fun a ha h3 F3 sw sb H3 m3 Gw Gb hb _ => ?_) fun hno => (by rw [hget] at hno; cases hno)⟩
      rw [hget] at ha
      cases ha
      have hlt' := S.lt H'
      have g3 := m3.fr.get g2 (fun hm => by have := hlt' _ hm; omega)
      refine ⟨_, _, sw, sb, _, rfl, box_w (sw := nilSl) (sb := nilSl) (sw' := sw) (sb' := sb) g3 rfl fun h4 g4 f4 => ?_⟩
      have m23 : Mv F' h' F3 h3 := (Mv.grow f2).trans m3
      have O2 := O.fr m23.fr (fun k hk => (hE k (List.mem_append_left _ hk)).2) (fun k hk => (hE k (List.mem_append_right _ hk)).2)
      exact tail H3 (m'.trans m23) Gw Gb (fun k hk => ⟨by have := (hb k hk).1; omega, (hb k hk).2⟩) O2 (fun k hk => ⟨(hE k hk).1, m23.out (hlow k hk) (hE k hk).2, hlow k hk⟩) g4 (fun _ _ _ => trivial) f4 fun k hk => by
        simp at hk
        subst hk
        exact ⟨m3.out (by omega) (fun hm => by have := hlt' _ hm; omega), by omega, fun hm => by have := (hb _ hm).1; omega⟩
  · have e : ¬ z < (t.n : Int) := by simpa using e
    rw [List.take_of_length_le (by simp; omega)] at hL
    have := O.slO
    rw [hL] at this
    exact K h' F' t2 _ this (fun k hk => (hE k hk).2) H' (m1.trans m')
end
end Go.Hv.W

/- The law PrimPlaces answers true: the walk. -/
namespace Go.Hv.W
open Go Go.Hv

theorem Cur.cnt {pb : Nat} {h0 h : Heap} {F : List Nat} {s : St} (C : Cur pb h0 h F s) (H : HasCounts h0) : HasCounts h ∧ G_prim_counts ∉ F := by
  refine ⟨H.fr C.fr (by simp), fun hm => ?_⟩
  obtain ⟨cs, T, q, h1, _⟩ := H.get
  have := lt_of_get h1
  have := C.far _ hm
  omega

/-- a primitive is done on the memory without bounds -/
theorem Cur.do {pb : Nat} {h0 h : Heap} {F : List Nat} {s : St} (C : Cur pb h0 h F s) (HC0 : HasCounts h0) {n r : Int} {sl : Sl} {l : List Int} (hs : SlI h sl .i64 l) (hd : ∀ k ∈ sl.blk, k ∉ F) (hl : l.length ≤ 1000) (hm : s.made < 4611686018427387904)
    (hn : isSum n = false) {d : DoOut} (hdo : doR noSum s n r l = d) {R : Value → Heap → Prop} (K : ∀ h' F', Cur pb h0 h' F' d.s → R (.tuple #[.int .i64 d.v, .bool d.b, .int .i64 d.e]) h') :
    HC P F_prim_Do #[flatV pb, .int .i64 n, .int .i64 r, .slice sl.a sl.n sl.c] h R := by
  obtain ⟨c1, c2⟩ := C.cnt HC0
  refine prim_Do (flatSto pb) C.rep (sums := noSum) c1 c2 hs.x (fun k hk => hd k (blkL_sub hk)) hl hm (fun h => by rw [hn] at h; cases h) (fun h' F' H' m' => ?_) fun ht => by obtain ⟨_, ht⟩ := ht; exact ht.elim
  rw [hdo] at H' ⊢
  exact K h' F' (C.step H' m')

theorem law_PrimPlaces {n i v : Int} (hn0 : 0 ≤ n) (hn1 : n ≤ 255) (hi0 : 0 ≤ i) (hi1 : i ≤ 255) {h : Heap} {R : Value → Heap → Prop} (hC : HasCounts h) (K : ∀ h', Fr [] h h' → R (.bool true) h') :
    HC P F_websterlaw16_PrimPlaces #[.int .u8 n, .int .u8 i, .int .i64 v] h R := by
  have fin : ∀ {h'}, Fr [] h h' → HC P F_websterlaw16_known #[] h' fun v1 h1 => ∃ b1 : Bool, v1 = .bool b1 ∧ R (.bool b1) h1 := fun f => websterlaw16_known (hC.fr f (by simp)) fun h1 f1 => ⟨_, rfl, K h1 (f.trans' f1)⟩
  refine S_websterlaw16_PrimPlaces (box_new fun h1 g1 f1 s1 => box_new fun h2 g2 f2 s2 => flat_New fun h3 pb mb fl f3 lpb lmb => ⟨_, rfl, ?_⟩)
  simp only [Option.isNone_some, cond_false]
  have f13 := (f1.trans' f2).trans' f3
  have C3 : Cur pb h h3 (fpM pb mb []) ⟨0, []⟩ := ⟨⟨mb, [], fl, rfl, rfl⟩, f13, fun k hk => by
    simp [fpM] at hk
    omega⟩
  have g1' : h3[h.size]? = some (.cells #[.int .i64 2, .int .i64 2, .int .i64 2075] T_int (0, 0)) := f3.get (f2.get g1 (by simp)) (by simp)
  have g2' := f3.get g2 (by simp)
  have hB : ∀ k ∈ [h1.size, h.size], k ∉ fpM pb mb [] := fun k hk hm => by
    simp [fpM] at hm hk
    omega
  have hO : SlO h3 ⟨some ⟨h1.size, 0, none⟩, 5, 5⟩ [aE, aE, aE, aE, aC] [h1.size, h.size] := by
    refine ⟨rfl, fun e => (by cases e), fun p hp _ => by cases hp; simp, fun k hk => by have := lt_of_get g1'; have := lt_of_get g2'; simp at hk; omega, fun p hp _ => ?_⟩
    cases hp
    refine ⟨rfl, _, _, _, g2', by simp, fun j a ha => ?_⟩
    have e0 : ∀ j, j < 4 → ([aE, aE, aE, aE, aC] : List AO)[j]? = some aE := fun j hj => by
      match j, hj with
      | 0, _ | 1, _ | 2, _ | 3, _ => rfl
      | k + 4, hj => omega
    have hj5 : j < 5 := by have := (List.getElem?_eq_some_iff.1 ha).1; simpa using this
    have nw : bytesOK [] := fun x hx => by cases hx
    match j, hj5, ha with
    | 0, _, ha | 1, _, ha | 2, _, ha | 3, _, ha =>
      simp at ha
      subst ha
      exact ⟨nilSl, nilSl, rfl, rfl, rfl, rfl, (SlI_nil _ _).x, (SlI_nil _ _).x, by simp [blkL, aE], nw⟩
    | 4, _, ha =>
      simp at ha
      subst ha
      exact ⟨⟨some ⟨h.size, 0, none⟩, 3, 3⟩, nilSl, rfl, rfl, rfl, rfl, SlI.x ⟨rfl, fun e => (by cases e), fun q hq => by
        cases hq
        exact ⟨rfl, _, _, _, g1', by simp [aC], fun i hi => by
          simp [aC] at hi
          match i, hi with
          | 0, _ | 1, _ | 2, _ => rfl
          | k + 3, hi => omega⟩⟩, (SlI_nil _ _).x, by simp [blkL, aC, Sl.blk], nw⟩
    | k + 5, hj5, _ => omega
  refine flat_Load (flatSto pb) C3.rep (sl := ⟨some ⟨h1.size, 0, none⟩, 5, 5⟩) hO hB (by simp) (by simp) (fun hbad h4 F4 H4 m4 => ?_) (fun _ _ h4 F4 H4 m4 => ?_) fun ht => by obtain ⟨_, ht⟩ := ht; exact ht.elim
  · exfalso
    rcases hbad with hb | ⟨a, ha, hb⟩
    · simp at hb
    · have all : ∀ a ∈ [aE, aE, aE, aE, aC], chkB a = true := by decide
      rw [all a ha] at hb
      cases hb
  have C4 := C3.step H4 m4
  rw [s5_load] at C4
  refine ⟨_, rfl, ?_⟩
  simp only [show ((0 : Int) != 0) = false from rfl, cond_false, Option.isSome_some, cond_true]
  refine websterref05_Ref ⟨_, rfl, condI (fun e => fin C4.fr) fun e => ?_⟩
  have hv := not_eq_false_of e
  refine ⟨⟨by omega, by omega⟩, ⟨by omega, by omega⟩, ⟨by omega, by omega⟩, box_new fun h5 g5 f5 s5' => ?_⟩
  have C5 := C4.grow f5
  have lt4 := C4.lt
  refine C5.do hC (SlI_new g5 (l := [2 * n + 1]) rfl rfl) (fun k hk hm => by simp [Sl.blk] at hk; have := lt4 k hm; omega) (by simp) (by decide) (by decide) (s5_inst hn0 hn1) fun h6 F6 C6 => ⟨_, _, _, rfl, ?_⟩
  generalize hw : List.replicate (3 + n).toNat (2 : Int) = w at *
  have hlw : (w.length : Int) = 3 + n := by rw [← hw, List.length_replicate]; omega
  refine C6.do hC (sl := ⟨none, 0, 0⟩) (SlI_nil _ _) (by simp [Sl.blk]) (by simp) (by show (6 : Int) < _; omega) (by decide) (s6_size (by omega) (by omega)) fun h7 F7 C7 => ⟨_, _, _, rfl, ?_⟩
  have hsz : 2 * ((w.length : Int) - 3) + 1 = 2 * n + 1 := by omega
  rw [hsz]
  simp only [Bool.not_true, cond_false, show ((0 : Int) != 0) = false from rfl]
  refine ⟨⟨by omega, by omega⟩, ⟨by omega, by omega⟩, ⟨by omega, by omega⟩, condI (fun e => by simp at e) fun _ => ?_⟩
  refine ⟨⟨by omega, by omega⟩, ⟨by omega, by omega⟩, ⟨by omega, by omega⟩, box_new fun h8 g8 f8 s8 => ?_⟩
  have C8 := C7.grow f8
  have lt7 := C7.lt
  have X8 : SlI h8 ⟨some ⟨h7.size, 0, none⟩, 2, 2⟩ .i64 [2 * i + 1, v] := SlI_new g8 (l := [2 * i + 1, v]) rfl rfl
  have X8d : ∀ k ∈ Sl.blk ⟨some ⟨h7.size, 0, none⟩, 2, 2⟩, k ∉ F7 := fun k hk hm => by simp [Sl.blk] at hk; have := lt7 k hm; omega
  obtain ⟨p1, p2⟩ := s6_put (w := w) (by omega) hi0 hi1 hv
  by_cases hin : 1 ≤ i ∧ i ≤ (w.length : Int) - 3
  · refine C8.do hC X8 X8d (by simp) (by show (6 : Int) < _; omega) (by decide) (p1 hin) fun h9 F9 C9 => ⟨_, _, _, rfl, ?_⟩
    refine ⟨⟨by omega, by omega⟩, ⟨by omega, by omega⟩, ⟨by omega, by omega⟩, box_new fun h10 g10 f10 s10 => ?_⟩
    have C10 := C9.grow f10
    have lt9 := C9.lt
    have hl2 : ((w.set (2 + i).toNat v).length : Int) = w.length := by simp
    obtain ⟨q1, _⟩ := s6_get (w := w.set (2 + i).toNat v) (by omega) hi0 hi1
    obtain ⟨r1, r2, r3⟩ := q1 (by omega) v (by rw [List.getElem?_set_self (by omega)])
    refine C10.do hC (SlI_new g10 (l := [2 * i + 1]) rfl rfl) (fun k hk hm => by simp [Sl.blk] at hk; have := lt9 k hm; omega) (by simp) (by show (6 : Int) < _; omega) (by decide) r1 fun h11 F11 C11 => ⟨_, _, _, rfl, ?_⟩
    rw [show decide ((1 : Int) ≤ i) = true from decide_eq_true hin.1, show decide (i ≤ n) = true from decide_eq_true (by omega)]
    simp only [cond_true, Bool.not_true, cond_false]
    refine ⟨⟨by omega, by omega⟩, ⟨by omega, by omega⟩, ?_⟩
    obtain ⟨mb', L', fl', hF', hs'⟩ := C11.rep
    have hg := get_lk hs' (namV 12)
    have hp := place_fetch hs' 12 (2 + i)
    refine flat_Fetch (r := 12) (i := 2 + i) fl' (fun o h12 z hl hk h0 hz f12 => ?_) fun h12 hne f12 => absurd (by rw [← hp]; exact r2) hne
    have hz' : z = v := by
      have := r3
      unfold fetchV at this
      rw [hg, hl] at this
      simp only [Option.map_some, r2, if_true, hz, Option.getD_some] at this
      exact this
    subst hz'
    refine ⟨_, _, rfl, ?_⟩
    simp only [beq_self_eq_true, cond_true]
    exact fin (C11.fr.trans' f12)
  · refine C8.do hC X8 X8d (by simp) (by show (6 : Int) < _; omega) (by decide) (p2 hin) fun h9 F9 C9 => ⟨_, _, _, rfl, ?_⟩
    refine ⟨⟨by omega, by omega⟩, ⟨by omega, by omega⟩, ⟨by omega, by omega⟩, box_new fun h10 g10 f10 s10 => ?_⟩
    have C10 := C9.grow f10
    have lt9 := C9.lt
    obtain ⟨_, q2⟩ := s6_get (w := w) (by omega) hi0 hi1
    refine C10.do hC (SlI_new g10 (l := [2 * i + 1]) rfl rfl) (fun k hk hm => by simp [Sl.blk] at hk; have := lt9 k hm; omega) (by simp) (by show (6 : Int) < _; omega) (by decide) (q2 hin) fun h11 F11 C11 => ⟨_, _, _, rfl, ?_⟩
    simp only [Bool.not_false, cond_true, beq_self_eq_true]
    have fin' := fin C11.fr
    refine condI (fun a => condI (fun b => fin') fun b => ?_) fun a => fin'
    exfalso
    have a := of_decide_eq_true a
    have b : i ≤ n := by simpa using b
    omega
end Go.Hv.W

/- The law PrimLarge answers true. -/
namespace Go.Hv.W
open Go Go.Hv

/-- a primitive is done on the memory without bounds -/
theorem Cur.doS {pb : Nat} {h0 h : Heap} {F : List Nat} {s : St} (C : Cur pb h0 h F s) (HC0 : HasCounts h0) {n r : Int} {sl : Sl} {l : List Int} (hs : SlX h sl .i64 l) (hd : ∀ k ∈ blkL sl l, k ∉ F) (hl : l.length ≤ 1000) (hm : s.made < 1073741823)
    {d : DoOut} (hdo : doR sumR s n r l = d) {R : Value → Heap → Prop} (K : ∀ h' F', Cur pb h0 h' F' d.s → R (.tuple #[.int .i64 d.v, .bool d.b, .int .i64 d.e]) h') :
    HC P F_prim_Do #[flatV pb, .int .i64 n, .int .i64 r, .slice sl.a sl.n sl.c] h R := by
  obtain ⟨c1, c2⟩ := C.cnt HC0
  refine prim_Do (flatSto pb) C.rep (sums := sumR) c1 c2 hs hd hl (by omega) (fun _ _ h1 R' H1 _ k kf => prim_sums (flatSto pb) H1 hm k fun ht => by obtain ⟨_, ht⟩ := ht; exact ht.elim) (fun h' F' H' m' => ?_) fun ht => by obtain ⟨_, ht⟩ := ht; exact ht.elim
  rw [hdo] at H' ⊢
  exact K h' F' (C.step H' m')

def aD : AO := { cls := 2, kind := 1, w := [2, 2, 2, 2, 2, 2], b := [] }

/-- a memory in which the fourth tells the class of large numbers -/
structure Good (s : St) : Prop where
  four : s.get 4 = some aD
  ids : ∀ p ∈ s.objs, 1 ≤ p.1 ∧ p.1 ≤ s.made
  lo : 4 ≤ s.made

theorem St.get_add_old {s : St} {id : Int} {a : AO} (h : s.get id = some a) (b : AO) : (s.add b).get id = some a := by
  unfold St.get at h ⊢
  unfold St.add
  rw [List.find?_append]
  cases hf : s.objs.find? (fun p => p.1 == id) with
  | none => rw [hf] at h; cases h
  | some p => rw [hf] at h; simpa using h

theorem Good.add {s : St} (G : Good s) (b : AO) : Good (s.add b) := ⟨St.get_add_old G.four b, fun p hp => by
  simp only [St.add, List.mem_append, List.mem_singleton] at hp ⊢
  rcases hp with hp | rfl
  · have := G.ids p hp; omega
  · have := G.lo; simp; omega, by have := G.lo; simp [St.add]; omega⟩

theorem Good.get_new {s : St} (G : Good s) (b : AO) : (s.add b).get (s.made + 1) = some b := by
  unfold St.get St.add
  rw [List.find?_append]
  have : s.objs.find? (fun p => p.1 == s.made + 1) = none := by
    rw [List.find?_eq_none]
    intro p hp
    have := G.ids p hp
    simp; omega
  simp [this]

theorem Good.fetch {s : St} (G : Good s) : fetchE s 8 5 = 0 ∧ fetchV s 8 5 = 2 := by
  have h8 : namV 8 = 4 := by decide
  have h1 : fetchE s 8 5 = 0 := by simp [fetchE, h8, G.four, aD, AO.size]
  refine ⟨h1, ?_⟩
  simp only [fetchV, h8, G.four, h1, if_true]
  rfl

theorem digO_keep {s : St} {o z : Int} (h : digO s o = some z) (b : AO) : digO (s.add b) o = some z := by
  unfold digO at h ⊢
  split
  · next e => rw [if_pos e] at h; exact h
  · next e =>
    rw [if_neg e] at h
    cases hg : s.get (namV o) with
    | none => rw [hg] at h; cases h
    | some a =>
      rw [hg] at h
      rw [St.get_add_old hg]
      exact h

theorem numB_small {z : Int} (h0 : -1073741824 ≤ z) (h1 : z ≤ 1073741823) : numB (2 * z + 1) = true ∧ numV (2 * z + 1) = z := by
  have h : numB (2 * z + 1) = true := by simp [numB]; omega
  exact ⟨h, by simp only [numV, h, if_true]; omega⟩

theorem digO_small {s : St} {z : Int} (h0 : 0 ≤ z) (h1 : z ≤ 1073741823) : digO s (2 * z + 1) = some z := by
  obtain ⟨a, b⟩ := numB_small (z := z) (by omega) h1
  simp only [digO, a, b, if_true]
  rw [if_neg (by omega)]

theorem known_sum {n : Int} (hn : n = 21 ∨ n = 22 ∨ n = 29) : knownF n = some 1 ∧ isSum n = true ∧ ¬ n < 16 := by
  rcases hn with rfl | rfl | rfl <;> exact ⟨by decide, by decide, by decide⟩

/-- what a sum comes to -/
theorem sum_do {s : St} (G : Good s) (hm : s.made < 1000000) {n r a x y z : Int} (hn : n = 21 ∨ n = 22 ∨ n = 29) (hr : digO s r = some x) (ha : digO s a = some y) (hz : sumZ n x y = some z) (h0 : 0 ≤ z) (hl : (dig z).length ≤ 400) :
    ∃ d : DoOut, doR sumR s n r [a] = d ∧ d.b = true ∧ Good d.s ∧ d.s.made ≤ s.made + 1 ∧ digO d.s d.v = some z ∧ (∀ o w, digO s o = some w → digO d.s o = some w) ∧ (z ≤ 1073741823 → d.v = 2 * z + 1) ∧ (1073741823 < z → d.v = 2 * (s.made + 1)) := by
  obtain ⟨k1, k2, k3⟩ := known_sum hn
  have hd : doR sumR s n r [a] = doneR (tellZ s z) := by
    unfold doR
    simp only [List.length_singleton, k1, k2, if_neg k3, if_true]
    rw [if_neg (by simp)]
    simp only [List.getD_cons_zero, sumR, hr, ha, hz]
  refine ⟨_, hd, ?_⟩
  obtain ⟨f1, f2⟩ := G.fetch
  by_cases hs : z ≤ 1073741823
  · have hv : smallV z = 2 * z + 1 := by simp [smallV, smallOK]; omega
    simp only [tellZ, if_pos hs, doneR, if_true, hv]
    exact ⟨trivial, G, by omega, digO_small h0 hs, fun o w h => h, fun _ => trivial, fun h => by omega⟩
  · have hp : oopV (s.made + 1) = 2 * (s.made + 1) := by have := G.lo; simp [oopV]; omega
    have hnb : numB (2 * (s.made + 1)) = false := by simp [numB]; try omega
    have hnm : namV (2 * (s.made + 1)) = s.made + 1 := by rw [← hp]; exact namV_oop (by have := G.lo; omega) (by omega)
    have h2 : namB 2 = true := by decide
    simp only [tellZ, if_neg hs, f1, f2, ne_eq, not_true, if_false, h2, if_true, doneR, hp]
    refine ⟨trivial, G.add _, by simp [St.add], ?_, fun o w h => digO_keep h _, fun h => absurd h hs, fun _ => trivial⟩
    have hz2 := val_dig z h0
    have hr' : rightB (dig z) = true := by simp [rightB, hl, hz2]
    simp only [digO, hnb, hnm, G.get_new, bytesA, hr', Bool.false_eq_true, if_false, and_self, if_true, hz2]

def s4 : St := ⟨4, [(1, aE), (2, aE), (3, aE), (4, aD)]⟩
theorem s4_load : [aE, aE, aE, aD].foldl St.add ⟨0, []⟩ = s4 := rfl
theorem s4_good : Good s4 := ⟨rfl, by decide, by decide⟩

theorem law_PrimLarge {a b : Int} (ha0 : 0 ≤ a) (ha1 : a ≤ 4294967295) (hb0 : 0 ≤ b) (hb1 : b ≤ 4294967295) {h : Heap} {R : Value → Heap → Prop} (hC : HasCounts h) (K : ∀ h', Fr [] h h' → R (.bool true) h') :
    HC P F_websterlaw16_PrimLarge #[.int .u32 a, .int .u32 b] h R := by
  have fin : ∀ {h'}, Fr [] h h' → HC P F_websterlaw16_known #[] h' fun v1 h1 => ∃ b1 : Bool, v1 = .bool b1 ∧ R (.bool b1) h1 := fun f => websterlaw16_known (hC.fr f (by simp)) fun h1 f1 => ⟨_, rfl, K h1 (f.trans' f1)⟩
  refine S_websterlaw16_PrimLarge (box_new fun h1 g1 f1 s1 => box_new fun h2 g2 f2 s2 => flat_New fun h3 pb mb fl f3 lpb lmb => ⟨_, rfl, ?_⟩)
  simp only [Option.isNone_some, cond_false]
  have f13 := (f1.trans' f2).trans' f3
  have C3 : Cur pb h h3 (fpM pb mb []) ⟨0, []⟩ := ⟨⟨mb, [], fl, rfl, rfl⟩, f13, fun k hk => by
    simp [fpM] at hk
    omega⟩
  have g1' : h3[h.size]? = some (.cells #[.int .i64 2, .int .i64 2, .int .i64 2, .int .i64 2, .int .i64 2, .int .i64 2] T_int (0, 0)) := f3.get (f2.get g1 (by simp)) (by simp)
  have g2' := f3.get g2 (by simp)
  have hB : ∀ k ∈ [h1.size, h.size], k ∉ fpM pb mb [] := fun k hk hm => by
    simp [fpM] at hm hk
    omega
  have hO : SlO h3 ⟨some ⟨h1.size, 0, none⟩, 4, 4⟩ [aE, aE, aE, aD] [h1.size, h.size] := by
    refine ⟨rfl, fun e => (by cases e), fun p hp _ => by cases hp; simp, fun k hk => by have := lt_of_get g1'; have := lt_of_get g2'; simp at hk; omega, fun p hp _ => ?_⟩
    cases hp
    refine ⟨rfl, _, _, _, g2', by simp, fun j a ha => ?_⟩
    have hj5 : j < 4 := by have := (List.getElem?_eq_some_iff.1 ha).1; simpa using this
    have nw : bytesOK [] := fun x hx => by cases hx
    match j, hj5, ha with
    | 0, _, ha | 1, _, ha | 2, _, ha =>
      simp at ha
      subst ha
      exact ⟨nilSl, nilSl, rfl, rfl, rfl, rfl, (SlI_nil _ _).x, (SlI_nil _ _).x, by simp [blkL, aE], nw⟩
    | 3, _, ha =>
      simp at ha
      subst ha
      exact ⟨⟨some ⟨h.size, 0, none⟩, 6, 6⟩, nilSl, rfl, rfl, rfl, rfl, SlI.x ⟨rfl, fun e => (by cases e), fun q hq => by
        cases hq
        exact ⟨rfl, _, _, _, g1', by simp [aD], fun i hi => by
          simp [aD] at hi
          match i, hi with
          | 0, _ | 1, _ | 2, _ | 3, _ | 4, _ | 5, _ => rfl
          | k + 6, hi => omega⟩⟩, (SlI_nil _ _).x, by simp [blkL, aD, Sl.blk], nw⟩
    | k + 4, hj5, _ => omega
  refine flat_Load (flatSto pb) C3.rep (sl := ⟨some ⟨h1.size, 0, none⟩, 4, 4⟩) hO hB (by simp) (by simp) (fun hbad h4 F4 H4 m4 => ?_) (fun _ _ h4 F4 H4 m4 => ?_) fun ht => by obtain ⟨_, ht⟩ := ht; exact ht.elim
  · exfalso
    rcases hbad with hb | ⟨a, ha, hb⟩
    · simp at hb
    · have all : ∀ a ∈ [aE, aE, aE, aD], chkB a = true := by decide
      rw [all a ha] at hb
      cases hb
  have C4 := C3.step H4 m4
  rw [s4_load] at C4
  refine ⟨_, rfl, ?_⟩
  simp only [show ((0 : Int) != 0) = false from rfl, cond_false]
  obtain ⟨x, hx⟩ : ∃ x, Int.tmod a 1073741824 = x := ⟨_, rfl⟩
  obtain ⟨y, hy⟩ : ∃ y, Int.tmod b 1073741824 = y := ⟨_, rfl⟩
  have hx2 : 0 ≤ x ∧ x ≤ 1073741823 := by rw [← hx, Int.tmod_eq_emod_of_nonneg ha0]; omega
  have hy2 : 0 ≤ y ∧ y ≤ 1073741823 := by rw [← hy, Int.tmod_eq_emod_of_nonneg hb0]; omega
  rw [hx, hy]
  have h8 : (256 : Int) ^ 8 = 18446744073709551616 := rfl
  have hxy : 0 ≤ x * y ∧ x * y ≤ 1152921504606846976 := ⟨Int.mul_nonneg hx2.1 hy2.1, Int.le_trans (Int.mul_le_mul_of_nonneg_right (Int.le_trans hx2.2 (by decide : (1073741823 : Int) ≤ 1073741824)) hy2.1) (by omega)⟩
  have hcm : y * x = x * y := Int.mul_comm _ _
  obtain ⟨w, hw⟩ : ∃ w, x * y = w := ⟨_, rfl⟩
  rw [hw] at hxy hcm
  have short : ∀ z : Int, 0 ≤ z → z ≤ 1152921504606846976 → (dig z).length ≤ 400 := fun z z0 z1 => Nat.le_trans (dig_len_le (k := 8) z0 (by omega)) (by omega)
  have ii : ∀ z : Int, 0 ≤ z → z ≤ 2147483648 → InI z := fun z z0 z1 => ⟨by omega, by omega⟩
  refine ⟨by decide, ii _ hx2.1 (by omega), ii _ (by omega) (by omega), ii _ (by omega) (by omega), by decide, ii _ hy2.1 (by omega), ii _ (by omega) (by omega), ii _ (by omega) (by omega), ?_⟩
  -- the sum
  refine box_new fun h5 g5 f5 s5' => ?_
  have C5 := C4.grow f5
  have lt4 := C4.lt
  obtain ⟨d1, e1, b1, G1, m1, v1, k1, sm1, bg1⟩ := sum_do s4_good (by decide) (n := 21) (.inl rfl) (digO_small (s := s4) hx2.1 hx2.2) (digO_small (s := s4) hy2.1 hy2.2) (z := x + y) (by simp [sumZ, short (x + y) (by omega) (by omega)]) (by omega) (short _ (by omega) (by omega))
  have hm1 : d1.s.made ≤ 5 := m1
  refine C5.doS hC (SlI_new g5 (l := [2 * y + 1]) rfl rfl).x (fun k hk hm => by simp [blkL, Sl.blk] at hk; have := lt4 k hm; omega) (by simp) (by decide) e1 fun h6 F6 C6 => ⟨_, _, _, rfl, ?_⟩
  -- less one
  refine box_new fun h7 g7 f7 s7 => ?_
  have C7 := C6.grow f7
  have lt6 := C6.lt
  obtain ⟨d2, e2, b2, G2, m2, v2, k2, sm2, _⟩ := sum_do G1 (by omega) (n := 22) (.inr (.inl rfl)) v1 (k1 _ _ (digO_small (s := s4) hy2.1 hy2.2)) (z := x) (by simp [sumZ]; omega) (by omega) (short _ (by omega) (by omega))
  refine C7.doS hC (SlI_new g7 (l := [2 * y + 1]) rfl rfl).x (fun k hk hm => by simp [blkL, Sl.blk] at hk; have := lt6 k hm; omega) (by simp) (by omega) e2 fun h8' F8 C8 => ⟨_, _, _, rfl, ?_⟩
  -- the products
  refine box_new fun h9 g9 f9 s9 => ?_
  have C9 := C8.grow f9
  have lt8 := C8.lt
  obtain ⟨d3, e3, b3, G3, m3, v3, k3, _, _⟩ := sum_do G2 (by omega) (n := 29) (.inr (.inr rfl)) (digO_small (s := d2.s) hx2.1 hx2.2) (digO_small (s := d2.s) hy2.1 hy2.2) (z := w) (by simp [sumZ, hw, short w hxy.1 hxy.2]) hxy.1 (short _ hxy.1 hxy.2)
  refine C9.doS hC (SlI_new g9 (l := [2 * y + 1]) rfl rfl).x (fun k hk hm => by simp [blkL, Sl.blk] at hk; have := lt8 k hm; omega) (by simp) (by omega) e3 fun h10 F10 C10 => ⟨_, _, _, rfl, ?_⟩
  refine box_new fun h11 g11 f11 s11 => ?_
  have C11 := C10.grow f11
  have lt10 := C10.lt
  obtain ⟨d4, e4, b4, G4, m4', v4, k4, _, _⟩ := sum_do G3 (by omega) (n := 29) (.inr (.inr rfl)) (digO_small (s := d3.s) hy2.1 hy2.2) (digO_small (s := d3.s) hx2.1 hx2.2) (z := w) (by simp [sumZ, hcm, short w hxy.1 hxy.2]) hxy.1 (short _ hxy.1 hxy.2)
  refine C11.doS hC (SlI_new g11 (l := [2 * x + 1]) rfl rfl).x (fun k hk hm => by simp [blkL, Sl.blk] at hk; have := lt10 k hm; omega) (by simp) (by omega) e4 fun h12 F12 C12 => ⟨_, _, _, rfl, ?_⟩
  rw [b1, b2, b3, b4, sm2 hx2.2]
  simp only [Bool.not_true, cond_false, bne_self_eq_false]
  -- the difference
  refine box_new fun h13 g13 f13' s13 => ?_
  have C13 := C12.grow f13'
  have lt12 := C12.lt
  obtain ⟨d5, e5, b5, G5, m5, v5, k5, sm5, _⟩ := sum_do G4 (by omega) (n := 22) (.inr (.inl rfl)) (k4 _ _ v3) v4 (z := 0) (by simp [sumZ]) (by omega) (short _ (by omega) (by omega))
  refine C13.doS hC (SlI_new g13 (l := [d4.v]) rfl rfl).x (fun k hk hm => by simp [blkL, Sl.blk] at hk; have := lt12 k hm; omega) (by simp) (by omega) e5 fun h14 F14 C14 => ⟨_, _, _, rfl, ?_⟩
  rw [sm5 (by omega)]
  simp only [show ((2 * (0 : Int) + 1) == 1) = true from rfl, cond_true]
  refine ⟨by decide, by decide, ii _ hx2.1 (by omega), by decide, ii _ hy2.1 (by omega), ii _ (by omega) (by omega), ?_⟩
  have par : ((Int.tmod d1.v 2 != 0) == decide (x + y < 1073741824)) = true := by
    by_cases hs : x + y ≤ 1073741823
    · rw [sm1 hs, Int.tmod_eq_emod_of_nonneg (by omega), show (2 * (x + y) + 1) % 2 = 1 by omega, show decide (x + y < 1073741824) = true from decide_eq_true (by omega)]
      rfl
    · rw [bg1 (by omega), show decide (x + y < 1073741824) = false from decide_eq_false (by omega)]
      rfl
  rw [par]
  exact fin C14.fr
end Go.Hv.W

/- Objects that may be, few of them: as the laws' own words have it. -/
namespace Go.Hv.W
open Go Go.Hv

theorem websterref01_Named {o : Int} {h : Heap} {R : Value → Heap → Prop} (ho : InI o) (K : R (.tuple #[.int .i64 (namV o), .bool (namB o)]) h) : HC P F_websterref01_Named #[.int .i64 o] h R := by
  have hz : Int.tmod o 2 = 0 ↔ o % 2 = 0 := by
    constructor
    · intro h; exact Int.emod_eq_zero_of_dvd (Int.dvd_of_tmod_eq_zero h)
    · intro h; exact Int.tmod_eq_zero_of_dvd (Int.dvd_of_emod_eq_zero h)
  have no : namB o = false → R (.tuple #[.int .i64 0, .bool false]) h := fun hb => by simpa [namV, hb] using K
  refine S_websterref01_Named ⟨by omega, condI (fun e => no ?_) fun e => condI (fun e2 => no ?_) fun e2 => condI (fun e3 => no ?_) fun e3 => ?_⟩
  · have e : Int.tmod o 2 ≠ 0 := by simpa using e
    have : ¬ o % 2 = 0 := fun h => e (hz.2 h)
    simp [namB]; omega
  · have e2 := of_decide_eq_true e2
    simp [namB]; omega
  · have e3 := of_decide_eq_true e3
    simp [namB]; omega
  · have e : Int.tmod o 2 = 0 := by simpa using e
    have e := hz.1 e
    have e2 : ¬ o < 2 := by simpa using e2
    have e3 : ¬ 2147483646 < o := by simpa using e3
    have hb : namB o = true := by simp [namB]; omega
    have hd : Int.tdiv o 2 = o / 2 := Int.tdiv_eq_ediv_of_nonneg (by omega)
    rw [hd]
    simp only [namV, hb, if_true] at K
    exact ⟨by omega, ⟨by omega, by omega⟩, K⟩

theorem websterref05_Check {a : AO} {sw sb : Sl} {h : Heap} {R : Value → Heap → Prop} (Gw : SlX h sw .i64 a.w) (Gb : SlX h sb .u8 a.b) (hc : InI a.cls)
    (K1 : chkB a = true → ∀ h', Fr [] h h' → R (.int .i64 0) h') (K0 : chkB a = false → ∀ h', Fr [] h h' → R (.int .i64 2) h') :
    HC P F_websterref05_Check #[.agg #[.int .i64 a.cls, .int .i64 a.kind, .slice sw.a sw.n sw.c, .slice sb.a sb.n sb.c]] h R := by
  have nw := Gw.len
  have nb := Gb.len
  refine S_websterref05_Check (box_new fun h1 g1 f1 s1 => ?_)
  simp only [add_add]
  have g1' : h1[h.size]? = some (.cells (objCells a.cls a.kind sw sb) T_api_Obj (0, 0)) := g1
  have c0 : cellH h1 ⟨h.size, 0 + 0, none⟩ = some (.int .i64 a.cls) := by rw [cellH_of g1']; rfl
  have c1 : cellH h1 ⟨h.size, 0 + 1, none⟩ = some (.int .i64 a.kind) := by rw [cellH_of g1']; rfl
  have c2 : cellH h1 ⟨h.size, 0 + 2, none⟩ = some (.slice sw.a sw.n sw.c) := by rw [cellH_of g1']; rfl
  have c3 : cellH h1 ⟨h.size, 0 + 3, none⟩ = some (.slice sb.a sb.n sb.c) := by rw [cellH_of g1']; rfl
  have bad : chkB a = false → R (.int .i64 2) h1 := fun hb => K0 hb h1 f1
  have Gw1 := Gw.fr f1 (by simp)
  refine ⟨_, c0, websterref01_Named hc ⟨_, _, rfl, ?_⟩⟩
  intro J1 hJ1
  refine condI (fun e => bad (by simp [chkB, not_eq_true_of e])) fun e => ?_
  have e := not_eq_false_of e
  have both : a.w.length ≤ 1000 → a.b.length ≤ 1000 → (a.kind = 1 ∨ a.kind = 2) → J1 0 h1 := fun hw hb hk => by
    refine hJ1 0 h1 fun J2 hJ2 => ?_
    have loop : a.b.length = 0 ∧ a.kind = 1 ∨ a.w.length = 0 ∧ a.kind = 2 → J2 0 h1 := fun hh => by
      refine hJ2 0 h1 ⟨fun z _ h' => h' = h1 ∧ 0 ≤ z ∧ z ≤ a.w.length ∧ ∀ i x, i < z.toNat → a.w[i]? = some x → refB x = true, fun z _ _ => (a.w.length - z).toNat, ⟨rfl, by omega, by omega, fun i x hi => by omega⟩, fun z _ h' I => ?_⟩
      obtain ⟨rfl, i0, i1, i2⟩ := I
      refine ⟨sw, c2, condI (fun e2 => ⟨sw, c2, ?_⟩) fun e2 => ?_⟩
      · have e2 := of_decide_eq_true e2
        have hlt : z.toNat < a.w.length := by omega
        have hk1 : a.kind = 1 := by omega
        obtain ⟨p, hp⟩ := Gw1.addr hlt
        rw [hp, oE_some, Nat.mul_one]
        refine ⟨i0, e2, _, Gw1.cell hp (List.getElem?_eq_getElem hlt), websterref05_Ref ⟨_, rfl, condI (fun e3 => bad ?_) fun e3 => ?_⟩⟩
        · have e3 := not_eq_true_of e3
          have : a.w.any (fun x => !refB x) = true := List.any_eq_true.2 ⟨_, List.getElem_mem hlt, by rw [e3]; rfl⟩
          simp [chkB, hk1, this]
        · have e3 := not_eq_false_of e3
          refine ⟨⟨by omega, by omega⟩, ⟨rfl, by omega, by omega, fun i x hi hx => ?_⟩, by show Int.toNat _ < Int.toNat _; omega⟩
          by_cases h : i = z.toNat
          · subst h
            rw [List.getElem?_eq_getElem hlt] at hx
            cases hx
            exact e3
          · exact i2 i x (by omega) hx
      · have e2 : ¬ z < (sw.n : Int) := by simpa using e2
        refine K1 ?_ h' f1
        rcases hh with ⟨h1, h2⟩ | ⟨h1, h2⟩
        · have : a.w.any (fun x => !refB x) = false := by
            rw [List.any_eq_false]
            intro x hx
            obtain ⟨i, hi, rfl⟩ := List.getElem_of_mem hx
            have := i2 i _ (by omega) (List.getElem?_eq_getElem hi)
            simp [this]
          simp only [chkB, e, h1, h2, this]
          simp; omega
        · simp only [chkB, e, h1, h2]
          simp; omega
    refine ⟨_, c1, condI (fun e2 => ⟨sb, c3, condI (fun e3 => bad ?_) fun e3 => ⟨_, c1, condI (fun e4 => ?_) fun e4 => loop ?_⟩⟩) fun e2 => ⟨_, c1, condI (fun e3 => ⟨sw, c2, condI (fun e4 => bad ?_) fun e4 => loop ?_⟩) fun e3 => ?_⟩⟩
    · have e2 : a.kind = 1 := by simpa using e2
      have e3 := of_decide_eq_true e3
      have : ¬ a.b.length = 0 := by omega
      simp [chkB, e2]
      intro _ h; simp [h] at this
    · have e2 : a.kind = 1 := by simpa using e2
      have e4 : a.kind = 2 := by simpa using e4
      omega
    · have e2 : a.kind = 1 := by simpa using e2
      have e3 : ¬ (0 : Int) < sb.n := by simpa using e3
      exact .inl ⟨by omega, e2⟩
    · have e3 : a.kind = 2 := by simpa using e3
      have e4 := of_decide_eq_true e4
      have : ¬ a.w.length = 0 := by omega
      simp [chkB, e3]
      intro _ h; simp [h] at this
    · have e3 : a.kind = 2 := by simpa using e3
      have e4 : ¬ (0 : Int) < sw.n := by simpa using e4
      exact .inr ⟨by omega, e3⟩
    · have e2 : a.kind ≠ 1 := by simpa using e2
      have e3 : a.kind ≠ 2 := by simpa using e3
      omega
  have lens : (a.kind = 1 ∨ a.kind = 2) → ∃ s1 : Sl, cellH h1 ⟨h.size, 0 + 2, none⟩ = some (.slice s1.a s1.n s1.c) ∧ cond (decide (1000 < (s1.n : Int))) (R (.int .i64 2) h1) (∃ s2 : Sl, cellH h1 ⟨h.size, 0 + 3, none⟩ = some (.slice s2.a s2.n s2.c) ∧ cond (decide (1000 < (s2.n : Int))) (R (.int .i64 2) h1) (J1 0 h1)) := fun hk => by
    refine ⟨sw, c2, condI (fun e2 => bad ?_) fun e2 => ⟨sb, c3, condI (fun e3 => bad ?_) fun e3 => both ?_ ?_ hk⟩⟩
    · have e2 := of_decide_eq_true e2
      have : ¬ a.w.length ≤ 1000 := by omega
      have h2 : ¬ a.w.length = 0 := by omega
      simp only [chkB, decide_eq_false this, beq_eq_false_iff_ne.2 h2]
      simp
    · have e3 := of_decide_eq_true e3
      have : ¬ a.b.length ≤ 1000 := by omega
      have h2 : ¬ a.b.length = 0 := by omega
      simp only [chkB, decide_eq_false this, beq_eq_false_iff_ne.2 h2]
      simp
    · have e2 : ¬ (1000 : Int) < sw.n := by simpa using e2
      omega
    · have e3 : ¬ (1000 : Int) < sb.n := by simpa using e3
      omega
  refine ⟨_, c1, condI (fun e2 => ⟨_, c1, condI (fun e3 => bad ?_) fun e3 => lens ?_⟩) fun e2 => lens ?_⟩
  · have e2 : a.kind ≠ 1 := by simpa using e2
    have e3 : a.kind ≠ 2 := by simpa using e3
    simp [chkB, e2, e3]
  · have e3 : a.kind = 2 := by simpa using e3
    exact .inr e3
  · have e2 : a.kind = 1 := by simpa using e2
    exact .inl e2

theorem websterlaw16_few {s : Sl} {l : List AO} {B : List Nat} {h : Heap} {R : Value → Heap → Prop} (H : SlO h s l B) (hl : l.length ≤ 1000000000000000) (hsz : ∀ a ∈ l, a.w.length ≤ 1000000000000000 ∧ a.b.length ≤ 1000000000000000 ∧ InI a.cls)
    (K : ∀ b h', (b = true → (∀ a ∈ l, chkB a = true) ∧ l.length ≤ 200) → Fr [] h h' → R (.bool b) h') : HC P F_websterlaw16_few #[.slice s.a s.n s.c] h R := by
  have hn := H.len
  refine S_websterlaw16_few ⟨fun z c _ h' => Fr [] h h' ∧ 0 ≤ z ∧ z ≤ l.length ∧ z ≤ c ∧ c ≤ 201 * z ∧ ∀ i a, i < z.toNat → l[i]? = some a → chkB a = true, fun z _ _ _ => (l.length - z).toNat, ⟨Fr.refl _ _, by omega, by omega, by omega, by omega, fun i a hi => by omega⟩, fun z c b h' I => ?_⟩
  obtain ⟨fr, i0, i1, i2, i3, i4⟩ := I
  refine condI (fun e => ?_) fun e => ?_
  · have e := of_decide_eq_true e
    have hlt : z.toNat < l.length := by omega
    obtain ⟨q, sw, sb, hq, c0, c1, c2, c3, w, b, _, _⟩ := (H.fr fr (by simp)).at (List.getElem?_eq_getElem hlt)
    obtain ⟨z1, z2, z3⟩ := hsz _ (List.getElem_mem hlt)
    have nw := w.len
    have nb := b.len
    have hd : Int.tdiv ((sw.n : Int) + sb.n) 10 = ((sw.n : Int) + sb.n) / 10 := Int.tdiv_eq_ediv_of_nonneg (by omega)
    rw [hq, oE_some]
    refine ⟨⟨by omega, by omega⟩, i0, e, sw, c2, ?_⟩
    simp only [oE_some]
    refine ⟨i0, e, sb, c3, ⟨by omega, by omega⟩, by omega, ?_⟩
    rw [hd]
    refine ⟨⟨by omega, by omega⟩, ⟨by omega, by omega⟩, i0, e, _, c0, _, c1, sw, c2, sb, c3, websterref05_Check w b z3 (fun hc h2 f2 => ⟨_, rfl, condI (fun e2 => (by simp at e2)) fun _ => ?_⟩) fun hc h2 f2 => ⟨_, rfl, condI (fun _ => K false h2 (fun h => by cases h) (fr.trans' f2)) fun e2 => (by simp at e2)⟩⟩
    have h20 : (sw.n : Int) + sb.n ≤ 2000 := by
      simp only [chkB, Bool.and_eq_true, Bool.or_eq_true, beq_iff_eq, decide_eq_true_eq] at hc
      rcases hc.2 with ⟨_, h1, h2, _⟩ | ⟨_, h1, h2⟩ <;> omega
    refine ⟨⟨by omega, by omega⟩, ⟨fr.trans' f2, by omega, by omega, by omega, by omega, fun i a hi ha => ?_⟩, by show Int.toNat _ < Int.toNat _; omega⟩
    by_cases h : i = z.toNat
    · subst h
      rw [List.getElem?_eq_getElem hlt] at ha
      cases ha
      exact hc
    · exact i4 i a (by omega) ha
  · have e : ¬ z < (s.n : Int) := by simpa using e
    refine K _ h' (fun hb => ⟨fun a ha => ?_, ?_⟩) fr
    · obtain ⟨i, hi, rfl⟩ := List.getElem_of_mem ha
      exact i4 i _ (by omega) (List.getElem?_eq_getElem hi)
    · have := of_decide_eq_true hb
      omega
end Go.Hv.W

/- The law PrimFails answers true. -/
namespace Go.Hv.W
open Go Go.Hv

theorem fetchE_3 (s : St) (o i : Int) : fetchE s o i ≠ 3 := by unfold fetchE; (repeat' split) <;> omega
theorem byteE_3 (s : St) (o i : Int) : byteE s o i ≠ 3 := by unfold byteE; (repeat' split) <;> omega
theorem setE_3 (s : St) (o i v : Int) : setE' s o i v ≠ 3 := by have := fetchE_3 s o i; unfold setE'; (repeat' split) <;> omega
theorem setByteE_3 (s : St) (o i v : Int) : setByteE s o i v ≠ 3 := by have := byteE_3 s o i; unfold setByteE; (repeat' split) <;> omega
theorem becomeE_3 (s : St) (a b : Int) : becomeE s a b ≠ 3 := by unfold becomeE; (repeat' split) <;> omega
theorem smallE_3 (z : Int) : smallE z ≠ 3 := by unfold smallE; (repeat' split) <;> omega
theorem shapeE_3 (s : St) (c : Int) : shapeE s c ≠ 3 := by have := fetchE_3 s c 2; unfold shapeE; (repeat' split) <;> omega
theorem behE_3 (s : St) (o : Int) : behE s o ≠ 3 := by
  unfold behE
  split
  · omega
  · rename_i a _
    have := shapeE_3 s a.cls
    (repeat' split) <;> omega
theorem atE_3 (s : St) (o i : Int) : atE s o i ≠ 3 := by have := behE_3 s o; unfold atE; (repeat' split) <;> omega
theorem getE_3 (s : St) (o i : Int) : getE' s o i ≠ 3 := by
  have := atE_3 s o i
  have := fetchE_3 s o (atV s o i)
  have := byteE_3 s o (atV s o i)
  have := smallE_3 (byteV s o (atV s o i))
  unfold getE'; (repeat' split) <;> omega
theorem putE_3 (s : St) (o i v : Int) : putE s o i v ≠ 3 := by
  have := atE_3 s o i
  have := setE_3 s o (atV s o i) v
  have := setByteE_3 s o (atV s o i) (numV v)
  unfold putE; (repeat' split) <;> omega
theorem clsOfE_3 (s : St) (o : Int) : clsOfE s o ≠ 3 := by
  have := fetchE_3 s 8 0
  unfold clsOfE classE; (repeat' split) <;> omega

theorem setS_bad {s : St} {o i v : Int} (h : setE' s o i v ≠ 0) : setS s o i v = s := by unfold setS; split; rfl; rw [if_neg h]
theorem setByteS_bad {s : St} {o i v : Int} (h : setByteE s o i v ≠ 0) : setByteS s o i v = s := by unfold setByteS; split; rfl; rw [if_neg h]
theorem becomeS_bad {s : St} {a b : Int} (h : becomeE s a b ≠ 0) : becomeS s a b = s := by
  unfold becomeE at h
  unfold becomeS
  cases ha : s.get (namV a) with
  | none => rfl
  | some x =>
    cases hb : s.get (namV b) with
    | none => rfl
    | some y => rw [ha, hb] at h; simp at h
theorem putS_bad {s : St} {o i v : Int} (h : putE s o i v ≠ 0) : putS s o i v = s := by
  unfold putE at h
  unfold putS
  split at h
  · next e => rw [if_pos e]
  · next e =>
    rw [if_neg e]
    split at h
    · next e => rw [if_pos e]; exact setS_bad h
    · next e =>
      rw [if_neg e]
      split at h
      · next e => rw [if_pos e]
      · next e => rw [if_neg e]; exact setByteS_bad h

theorem St.set_len (s : St) (id : Int) (a : AO) : (s.set id a).objs.length = s.objs.length ∧ (s.set id a).made = s.made := by simp [St.set]
theorem setS_len (s : St) (o i v : Int) : (setS s o i v).objs.length = s.objs.length ∧ (setS s o i v).made = s.made := by
  unfold setS; (repeat' split) <;> first | exact ⟨rfl, rfl⟩ | exact St.set_len ..
theorem setByteS_len (s : St) (o i v : Int) : (setByteS s o i v).objs.length = s.objs.length ∧ (setByteS s o i v).made = s.made := by
  unfold setByteS; (repeat' split) <;> first | exact ⟨rfl, rfl⟩ | exact St.set_len ..
theorem becomeS_len (s : St) (a b : Int) : (becomeS s a b).objs.length = s.objs.length ∧ (becomeS s a b).made = s.made := by
  unfold becomeS
  split
  · simp [St.set]
  · exact ⟨rfl, rfl⟩
theorem putS_len (s : St) (o i v : Int) : (putS s o i v).objs.length = s.objs.length ∧ (putS s o i v).made = s.made := by
  unfold putS; (repeat' split) <;> first | exact ⟨rfl, rfl⟩ | exact setS_len .. | exact setByteS_len ..
theorem St.add_len (s : St) (a : AO) : (s.add a).objs.length = s.objs.length + 1 ∧ (s.add a).made = s.made + 1 := by simp [St.add]

structure OutOK (s : St) (o : Out) : Prop where
  e : o.e ≠ 3
  bad : o.e ≠ 0 → o.s = s
  lo : s.objs.length ≤ o.s.objs.length
  hi : o.s.objs.length ≤ s.objs.length + 1
  made : o.s.made ≤ s.made + 1

theorem OutOK.same {s : St} {v e : Int} (h : e ≠ 3) : OutOK s ⟨v, e, s⟩ := ⟨h, fun _ => rfl, Nat.le_refl _, Nat.le_succ _, by simp; omega⟩
theorem OutOK.len {s s' : St} {v e : Int} (h : e ≠ 3) (hb : e ≠ 0 → s' = s) (hl : s'.objs.length = s.objs.length ∧ s'.made = s.made) : OutOK s ⟨v, e, s'⟩ :=
  ⟨h, hb, by simp [hl.1], by simp [hl.1], by simp [hl.2]; omega⟩
theorem OutOK.add {s : St} {v : Int} (a : AO) : OutOK s ⟨v, 0, s.add a⟩ := ⟨by simp, fun h => absurd rfl h, by simp [St.add], by simp [St.add], by simp [St.add]⟩

theorem objR_ok (s : St) (n o : Int) (l : List Int) : OutOK s (objR s n o l) := by
  unfold objR
  split
  · exact .same (getE_3 _ _ _)
  split
  · exact .len (putE_3 _ _ _ _) putS_bad (putS_len ..)
  split
  · refine .same ?_
    have := behE_3 s o
    have := smallE_3 (behN s o)
    split <;> assumption
  split
  · unfold instR
    split
    · exact .same (shapeE_3 _ _)
    split
    · exact .same (by omega)
    split
    · exact .add _
    · exact .same (by omega)
  split
  · exact .len (becomeE_3 _ _ _) becomeS_bad (becomeS_len ..)
  split
  · exact .same (fetchE_3 _ _ _)
  split
  · exact .len (setE_3 _ _ _ _) setS_bad (setS_len ..)
  split
  · split
    · exact .same (smallE_3 _)
    · exact .same (by omega)
  split
  · exact .same (by omega)
  split
  · exact .same (by omega)
  · exact .same (clsOfE_3 _ _)

theorem sumR_ok (s : St) (n a b : Int) : OutOK s (sumR s n a b) := by
  unfold sumR
  split
  · split
    · unfold tellZ
      split
      · exact .same (by omega)
      split
      · exact .same (fetchE_3 _ _ _)
      split
      · exact .add _
      · exact .same (by omega)
    · exact .same (by omega)
  · exact .same (by omega)

structure DoOK (s : St) (n : Int) (l : List Int) (d : DoOut) : Prop where
  e : d.e = 0
  good : d.b = true → knownF n = some (l.length : Int)
  bad : d.b = false → d.v = 0 ∧ d.s = s
  lo : s.objs.length ≤ d.s.objs.length
  hi : d.s.objs.length ≤ s.objs.length + 1
  made : d.s.made ≤ s.made + 1

theorem doneR_ok {s : St} {n : Int} {l : List Int} {o : Out} (h : OutOK s o) (hk : knownF n = some (l.length : Int)) : DoOK s n l (doneR o) := by
  unfold doneR
  split
  · exact ⟨rfl, fun _ => hk, fun h => (by cases h), h.lo, h.hi, h.made⟩
  · next e =>
    rw [if_neg h.e]
    have := h.bad e
    exact ⟨rfl, fun h => (by cases h), fun _ => ⟨rfl, this⟩, h.lo, h.hi, h.made⟩

theorem doR_ok (s : St) (n r : Int) (l : List Int) : DoOK s n l (doR sumR s n r l) := by
  unfold doR
  split
  · exact ⟨rfl, fun h => (by cases h), fun _ => ⟨rfl, rfl⟩, Nat.le_refl _, Nat.le_succ _, by simp; omega⟩
  · next hk =>
    have hk := Decidable.not_not.1 hk
    split
    · exact ⟨rfl, fun _ => hk, fun h => ⟨arF_no h, rfl⟩, Nat.le_refl _, Nat.le_succ _, by simp; omega⟩
    split
    · exact doneR_ok (sumR_ok ..) hk
    · exact doneR_ok (objR_ok ..) hk

theorem foldl_add : ∀ (l : List AO) (s : St), (l.foldl St.add s).made = s.made + l.length ∧ (l.foldl St.add s).objs.map (·.2) = s.objs.map (·.2) ++ l
  | [], s => by simp
  | a :: l, s => by
    obtain ⟨h1, h2⟩ := foldl_add l (s.add a)
    rw [List.foldl_cons]
    refine ⟨by rw [h1]; simp [St.add]; omega, ?_⟩
    rw [h2]
    simp [St.add]

theorem law_PrimFails {sl sa : Sl} {l : List AO} {B : List Nat} {n r : Int} {args : List Int} {h : Heap} {R : Value → Heap → Prop} (hO : SlO h sl l B) (hA : SlX h sa .i64 args) (hl : l.length ≤ 1000000000000000)
    (hsz : ∀ a ∈ l, a.w.length ≤ 1000000000000000 ∧ a.b.length ≤ 1000000000000000 ∧ InI a.cls) (hC : HasCounts h) (K : ∀ h', Fr [] h h' → R (.bool true) h') :
    HC P F_websterlaw16_PrimFails #[.slice sl.a sl.n sl.c, .int .i64 n, .int .i64 r, .slice sa.a sa.n sa.c] h R := by
  have fin : ∀ {h'}, Fr [] h h' → HC P F_websterlaw16_known #[] h' fun v1 h1 => ∃ b1 : Bool, v1 = .bool b1 ∧ R (.bool b1) h1 := fun f => websterlaw16_known (hC.fr f (by simp)) fun h1 f1 => ⟨_, rfl, K h1 (f.trans' f1)⟩
  have na := hA.len
  have nl := hO.len
  refine S_websterlaw16_PrimFails (websterlaw16_few hO hl hsz fun b h1 hb f1 => ⟨b, rfl, condI (fun _ => fin f1) fun e => condI (fun _ => fin f1) fun e2 => flat_New fun h2 pb mb fl f2 lpb lmb => ⟨_, rfl, ?_⟩⟩)
  obtain ⟨hchk, h200⟩ := hb (not_eq_false_of e)
  have e2 : ¬ (4 : Int) < sa.n := by simpa using e2
  simp only [Option.isNone_some, cond_false]
  have f12 := f1.trans' f2
  have z1 := f1.size
  have C3 : Cur pb h h2 (fpM pb mb []) ⟨0, []⟩ := ⟨⟨mb, [], fl, rfl, rfl⟩, f12, fun k hk => by
    simp [fpM] at hk
    omega⟩
  have hO2 := hO.fr f12 (by simp)
  refine flat_Load (flatSto pb) C3.rep hO2 (fun k hk hm => by have := C3.far k hm; have := hO.lt k hk; omega) (by omega) (by simp) (fun hbad h4 F4 H4 m4 => ?_) (fun _ _ h4 F4 H4 m4 => ?_) fun ht => by obtain ⟨_, ht⟩ := ht; exact ht.elim
  · exfalso
    rcases hbad with hb | ⟨a, ha, hb⟩
    · simp at hb
    · rw [hchk a ha] at hb
      cases hb
  have C4 := C3.step H4 m4
  obtain ⟨s, hs⟩ : ∃ s, l.foldl St.add ⟨0, []⟩ = s := ⟨_, rfl⟩
  obtain ⟨q1, q2⟩ := foldl_add l ⟨0, []⟩
  rw [hs] at C4 q1 q2
  simp only [Int.zero_add, List.map_nil, List.nil_append] at q1 q2
  have q3 : s.objs.length = l.length := by rw [← q2]; simp
  refine ⟨_, rfl, ?_⟩
  simp only [show ((0 : Int) != 0) = false from rfl, cond_false]
  have hok := doR_ok s n r args
  obtain ⟨d, hd⟩ : ∃ d, doR sumR s n r args = d := ⟨_, rfl⟩
  rw [hd] at hok
  refine C4.doS hC (hA.fr C4.fr (by simp)) (fun k hk hm => by
    have h1 := C4.far k hm
    have hl : args ≠ [] := fun e => by rw [e] at hk; cases hk
    rw [mem_blkL hl] at hk
    have := (hA.is hl).lt k hk
    omega) (by omega) (by rw [q1]; omega) hd fun h5 F5 C5 => ⟨_, _, _, rfl, prim_Known (C5.cnt hC).1 fun h6 f6 => ⟨_, _, rfl, ?_⟩⟩
  have C6 := C5.grow f6
  intro J hJ
  have out : J false h6 := by
    refine hJ false h6 (condI (fun e3 => ?_) fun e3 => ?_)
    · have e3 := not_eq_true_of e3
      obtain ⟨b1, b2⟩ := hok.bad e3
      rw [b1]
      simp only [beq_self_eq_true, cond_true]
      rw [b2] at C6
      refine websterlaw16_objs (flatSto pb) C6.rep (by rw [q1]; omega) (by omega) fun h7 F7 t B7 hO7 hd7 H7 m7 => ⟨t, rfl, ?_⟩
      have C7 := C6.step H7 m7
      rw [q2] at hO7
      refine websterref16_Same (hO.fr C7.fr (by simp)) hO7 (by omega) (fun a ha => by have := (hsz a ha).1; omega) (fun _ h8 f8 => ⟨true, rfl, fin (C7.fr.trans' f8)⟩) fun hne => absurd rfl hne
    · refine flat_All (flatSto pb) C6.rep (by have := hok.made; omega) (by have := hok.hi; omega) fun h7 F7 t G hd7 H7 m7 => ⟨t, rfl, ?_⟩
      have C7 := C6.step H7 m7
      have nt := G.len
      rw [List.length_map] at nt
      have := hok.lo
      exact condI (fun _ => fin C7.fr) fun e4 => by
        have e4 : ¬ (sl.n : Int) ≤ t.n := by simpa using e4
        omega
  rw [hok.e]
  simp only [show ((0 : Int) != 0) = false from rfl, cond_false]
  refine condI (fun e3 => ?_) fun _ => out
  have hk := hok.good e3
  rw [hk]
  simp only [Option.isSome_some, Bool.not_true, cond_false, Option.getD_some]
  refine condI (fun e4 => ?_) fun _ => out
  have e4 : (args.length : Int) ≠ sa.n := by simpa using e4
  omega
end Go.Hv.W
