/- What the functions of the program do, each by its contract. -/
import Derived.Test.YtnmpgfmejpkhiaaDoorW2
/- Large numbers as objects: digits, bytes, sums: over any memory. -/
namespace Go.Hv.W
open Go Go.Hv

def bytesA (cls : Int) (l : List Int) : AO := ⟨cls, 2, [], l⟩

/-- the number that is meant; none: there is none -/
def digO (s : St) (o : Int) : Option Int :=
  if numB o then (if numV o < 0 then none else some (numV o))
  else match s.get (namV o) with
    | none => none
    | some a => if a.kind = 2 ∧ rightB a.b = true then some (val a.b) else none

/-- a sum, a difference, a product -/
def sumZ (n x y : Int) : Option Int :=
  if n = 21 then (if (dig (x + y)).length ≤ 400 then some (x + y) else none)
  else if n = 22 then (if y ≤ x then some (x - y) else none)
  else (if (dig (x * y)).length ≤ 400 then some (x * y) else none)

/-- what is told of one -/
def tellZ (s : St) (z : Int) : Out :=
  if z ≤ 1073741823 then ⟨smallV z, 0, s⟩
  else if fetchE s 8 5 ≠ 0 then ⟨0, fetchE s 8 5, s⟩
  else if namB (fetchV s 8 5) then ⟨oopV (s.made + 1), 0, s.add (bytesA (fetchV s 8 5) (dig z))⟩ else ⟨0, 2, s⟩

def sumR (s : St) (n a b : Int) : Out :=
  match digO s a, digO s b with
  | some x, some y => (match sumZ n x y with | some z => tellZ s z | none => ⟨0, 2, s⟩)
  | _, _ => ⟨0, 2, s⟩

section
variable {v : Value} {Rep : Heap → List Nat → St → Prop} {Tight : St → Prop} (S : Sto v Rep Tight) {h : Heap} {F : List Nat} {s : St} (H : Rep h F s) {R : Value → Heap → Prop}
include S H

theorem prim_digits {o : Int} (K : ∀ h' F' t, (∀ n, digO s o = some n → Row h' t (dig n) ∧ (dig n).length ≤ 400 ∧ 0 ≤ n ∧ ∀ k ∈ t.blk, k ∉ F') → Rep h' F' s → Mv F h F' h' → R (.tuple #[.slice t.a t.n t.c, .bool (digO s o).isSome]) h') :
    HC P F_prim_digits #[v, .int .i64 o] h R := by
  refine S_prim_digits (word_Number ⟨_, _, rfl, condI (fun e => ?_) fun e => ?_⟩)
  · have hb := numV_bounds o
    refine large_Of (by omega) (fun h0 h1 t X f1 nf => ⟨t, _, rfl, ?_⟩) fun h0 => ⟨⟨none, 0, 0⟩, _, rfl, ?_⟩
    · have hd : digO s o = some (numV o) := by simp [digO, e]; omega
      have := K h1 F t (fun n hn => by
        rw [hd] at hn
        cases hn
        refine ⟨X, ?_, h0, fun k hk hF => ?_⟩
        · exact Nat.le_trans (dig_len_le (k := 8) h0 (by have : (256 : Int) ^ 8 = 18446744073709551616 := rfl; omega)) (by omega)
        · have := S.lt H k hF
          have := nf k hk
          omega) (S.fr H f1 (by simp)) (Mv.grow f1)
      rw [hd] at this
      exact this
    · have hd : digO s o = none := by simp [digO, e]; omega
      have := K h F ⟨none, 0, 0⟩ (fun n hn => by rw [hd] at hn; cases hn) H (Mv.refl F h)
      rw [hd] at this
      exact this
  · refine S.obj H (fun a ha h1 F1 sw sb H1 m1 Gw Gb hb hcap => ⟨_, _, sw, sb, _, rfl, box_new fun h2 g2 f2 s2 => box_w (sw := nilSl) (sb := nilSl) (sw' := sw) (sb' := sb) g2 rfl fun h3 g3 f3 => ?_⟩)
      fun hn h1 F1 H1 m1 => ⟨_, _, nilSl, nilSl, _, rfl, box_new fun h2 g2 f2 s2 => box_w (sw := nilSl) (sb := nilSl) (sw' := nilSl) (sb' := nilSl) g2 rfl fun h3 g3 f3 => ?_⟩
    · have f13 : Fr [] h1 h3 := f2.trans f3 fun k hk => .inr (by simp at hk; omega)
      have H3 := S.fr H1 f13 (by simp)
      have m3 : Mv F h F1 h3 := m1.trans (Mv.grow f13)
      have hok := (S.inv H).of_get ha
      simp only [add_add, cellH_of g3]
      refine ⟨sb, rfl, condI (fun _ => ⟨a.kind, rfl, condI (fun e2 => ?_) fun e2 => ?_⟩) fun e2 => (by simp at e2)⟩
      · have e2 : a.kind = 2 := by simpa using e2
        obtain ⟨_, hl, hby⟩ : a.w = [] ∧ a.b.length ≤ 1000 ∧ ∀ x ∈ a.b, 0 ≤ x ∧ x ≤ 255 := by
          rcases hok.kind with ⟨h, _⟩ | ⟨_, h⟩
          · omega
          · exact h
        have X : Row h3 sb a.b := ⟨Gb.fr f13 (by simp), hcap.2, hby⟩
        refine ⟨sb, rfl, large_Right X (by omega) ⟨_, rfl, ⟨sb, by rw [cellH_of g3]; rfl, rfl⟩, ?_⟩⟩
        have := K h3 F1 sb
        by_cases hr : rightB a.b = true
        · have hd : digO s o = some (val a.b) := by simp [digO, e, ha, e2, hr]
          rw [hd] at this
          rw [hr]
          refine this (fun n hn => ?_) H3 m3
          cases hn
          obtain ⟨r1, r2⟩ := right_dig hr
          rw [← r2]
          exact ⟨X, r1, (val_bd hby).1, fun k hk => (hb k (by simp [hk])).2⟩
        · have hd : digO s o = none := by simp [digO, e, ha, hr]
          have hr : rightB a.b = false := by simpa using hr
          rw [hd] at this
          rw [hr]
          exact this (fun n hn => by cases hn) H3 m3
      · have e2 : a.kind ≠ 2 := by simpa using e2
        have hd : digO s o = none := by simp [digO, e, ha, e2]
        have := K h3 F1 sb
        rw [hd] at this
        exact this (fun n hn => by cases hn) H3 m3
    · have f13 : Fr [] h1 h3 := f2.trans f3 fun k hk => .inr (by simp at hk; omega)
      have H3 := S.fr H1 f13 (by simp)
      have m3 : Mv F h F1 h3 := m1.trans (Mv.grow f13)
      simp only [add_add, cellH_of g3]
      refine ⟨nilSl, rfl, condI (fun e2 => (by simp at e2)) fun _ => ?_⟩
      have hd : digO s o = none := by simp [digO, e, hn]
      have := K h3 F1 nilSl
      rw [hd] at this
      exact this (fun n hn => by cases hn) H3 m3

theorem prim_bytes {cls : Int} {sl : Sl} {l : List Int} (X : Row h sl l) (hd : ∀ k ∈ sl.blk, k ∉ F) (hl : l.length ≤ 1000) (hm : s.made < 1073741823)
    (K1 : namB cls = true → ∀ h' F', Rep h' F' (s.add (bytesA cls l)) → Mv F h F' h' → R (.tuple #[.int .i64 (oopV (s.made + 1)), .int .i64 0]) h')
    (K0 : namB cls = false → ∀ h' F', Rep h' F' s → Mv F h F' h' → R (.tuple #[.int .i64 0, .int .i64 2]) h')
    (KF : (∃ t, Tight t) → ∀ h' F' w s', Rep h' F' s' → Mv F h F' h' → R (.tuple #[.int .i64 w, .int .i64 3]) h') : HC P F_prim_bytes #[v, .int .i64 cls, .slice sl.a sl.n sl.c] h R := by
  have hn := X.is.len
  have hok := S.inv H
  have hpos := hok.pos
  have hid : namV (oopV (s.made + 1)) = s.made + 1 := namV_oop (by omega) (by omega)
  have hnew : newOK cls 2 sl.n = namB cls := by simp [newOK]; omega
  have hbl : blankA cls 2 sl.n = partB (bytesA cls l) 0 := by simp [blankA, partB, bytesA, hn]
  refine S_prim_bytes (S.new H (by omega) (fun hk h1 F1 H1 m1 => ⟨_, _, rfl, ?_⟩) (fun hk h1 F1 H1 m1 => ⟨_, _, rfl, ?_⟩) fun hk ht h1 F1 H1 m1 => ⟨_, _, rfl, ?_⟩)
  · intro J hJ
    rw [hbl] at H1
    refine ⟨fun x e h' => 0 ≤ x ∧ x ≤ l.length ∧ ((e = 0 ∧ ∃ F8, Rep h' F8 (s.add (partB (bytesA cls l) x.toNat)) ∧ Mv F h F8 h') ∨ (e = 3 ∧ (∃ t, Tight t) ∧ ∃ F8 s8, Rep h' F8 s8 ∧ Mv F h F8 h')), fun x _ _ => (l.length - x).toNat, ⟨Int.le_refl _, by omega, .inl ⟨rfl, F1, H1, m1⟩⟩, fun x e h' I => ?_⟩
    obtain ⟨x0, x1, I⟩ := I
    rcases I with ⟨rfl, F8, H8, m8⟩ | ⟨rfl, ht, F8, s8, H8, m8⟩
    · refine condI (fun e => ?_) fun e => ?_
      · have e := of_decide_eq_true e
        have hx : x.toNat < l.length := by omega
        have Y := (m8.sl X.is hd).1
        obtain ⟨p, hp⟩ := Y.addr hx
        have hbb := X.byte _ (List.getElem_mem hx)
        refine condI (fun _ => ?_) fun e => (by simp at e)
        rw [hp, oE_some, Nat.mul_one]
        have hE : setByteE (s.add (partB (bytesA cls l) x.toNat)) (oopV (s.made + 1)) x l[x.toNat] = 0 := by
          have hsz2 : (partB (bytesA cls l) x.toNat).size = l.length := by simp [AO.size, partB, bytesA]; omega
          have hbe : byteE (s.add (partB (bytesA cls l) x.toNat)) (oopV (s.made + 1)) x = 0 := by
            simp only [byteE, hid, St.get_add hok, hsz2]
            rw [if_neg (by simp [partB, bytesA]), if_neg (by omega)]
          simp only [setByteE, hbe, ne_eq, not_true, if_false]
          rw [if_neg (by omega)]
        have hS : setByteS (s.add (partB (bytesA cls l) x.toNat)) (oopV (s.made + 1)) x l[x.toNat] = s.add (partB (bytesA cls l) (x.toNat + 1)) := by
          simp only [setByteS, hid, St.get_add hok, hE, if_true]
          rw [St.set_add hok]
          simp only [partB, bytesA, set_take hx]
        refine ⟨x0, e, _, Y.cell hp (List.getElem?_eq_getElem hx), ⟨by omega, by omega⟩, S.hn _ (by simp), S.setByte H8 (fun h9 F9 H9 m9 => ⟨_, rfl, ⟨by omega, by omega⟩, ⟨by omega, by omega, .inl ⟨hE, F9, ?_, m8.trans m9⟩⟩, by show Int.toNat _ < Int.toNat _; omega⟩)
          fun _ ht h9 F9 H9 m9 => ⟨_, rfl, ⟨by omega, by omega⟩, ⟨by omega, by omega, .inr ⟨rfl, ⟨_, ht⟩, F9, _, H9, m8.trans m9⟩⟩, by show Int.toNat _ < Int.toNat _; omega⟩⟩
        rw [hS] at H9
        rw [show (x + 1).toNat = x.toNat + 1 by omega]
        exact H9
      · have e : ¬ x < (sl.n : Int) := by simpa using e
        have : partB (bytesA cls l) x.toNat = bytesA cls l := by
          have h1 : l.take x.toNat = l := List.take_of_length_le (by omega)
          have h2 : l.length - x.toNat = 0 := by omega
          simp [partB, bytesA, h1, h2]
        rw [this] at H8
        rw [hnew] at hk
        exact hJ _ _ (K1 hk h' F8 H8 m8)
    · exact condI (fun _ => condI (fun e => by simp at e) fun _ => hJ _ _ (KF ht h' F8 _ s8 H8 m8)) fun _ => hJ _ _ (KF ht h' F8 _ s8 H8 m8)
  · intro J hJ
    rw [hnew] at hk
    refine ⟨fun x e h' => 0 ≤ x ∧ e = 2 ∧ h' = h1, fun _ _ _ => 0, ⟨Int.le_refl _, rfl, rfl⟩, fun x e h' I => ?_⟩
    obtain ⟨_, rfl, rfl⟩ := I
    exact condI (fun _ => condI (fun e => by simp at e) fun _ => hJ _ _ (K0 hk _ F1 H1 m1)) fun _ => hJ _ _ (K0 hk _ F1 H1 m1)
  · intro J hJ
    refine ⟨fun x e h' => 0 ≤ x ∧ e = 3 ∧ h' = h1, fun _ _ _ => 0, ⟨Int.le_refl _, rfl, rfl⟩, fun x e h' I => ?_⟩
    obtain ⟨_, rfl, rfl⟩ := I
    exact condI (fun _ => condI (fun e => by simp at e) fun _ => hJ _ _ (KF ⟨_, ht⟩ _ F1 _ _ H1 m1)) fun _ => hJ _ _ (KF ⟨_, ht⟩ _ F1 _ _ H1 m1)

theorem prim_sums {n a b : Int} (hm : s.made < 1073741823)
    (K : ∀ h' F', Rep h' F' (sumR s n a b).s → Mv F h F' h' → R (.tuple #[.int .i64 (sumR s n a b).v, .int .i64 (sumR s n a b).e]) h')
    (KF : (∃ t, Tight t) → ∀ h' F' w s', Rep h' F' s' → Mv F h F' h' → R (.tuple #[.int .i64 w, .int .i64 3]) h') : HC P F_prim_sums #[v, .int .i64 n, .int .i64 a, .int .i64 b] h R := by
  refine S_prim_sums (prim_digits S H fun h1 F1 t1 X1 H1 m1 => ⟨t1, _, rfl, prim_digits S H1 fun h2 F2 t2 X2 H2 m2 => ⟨t2, _, rfl, ?_⟩⟩)
  have m12 := m1.trans m2
  have none2 : (digO s a = none ∨ digO s b = none) → R (.tuple #[.int .i64 0, .int .i64 2]) h2 := fun hh => by
    have := K h2 F2
    have hs : sumR s n a b = ⟨0, 2, s⟩ := by
      unfold sumR
      rcases hh with hh | hh
      · rw [hh]
      · rw [hh]; cases digO s a <;> rfl
    rw [hs] at this
    exact this H2 m12
  refine condI (fun e => none2 (.inl ?_)) fun e => condI (fun e => none2 (.inr ?_)) fun e2 => ?_
  · have e := not_eq_true_of e
    simpa using e
  · have e := not_eq_true_of e
    simpa using e
  obtain ⟨x, hx⟩ := Option.isSome_iff_exists.1 (not_eq_false_of e)
  obtain ⟨y, hy⟩ := Option.isSome_iff_exists.1 (not_eq_false_of e2)
  obtain ⟨A, al, a0, ad⟩ := X1 x hx
  obtain ⟨B, bl, b0, bd⟩ := X2 y hy
  have A2 : Row h2 t1 (dig x) := ⟨(m2.sl A.is ad).1, A.cap, A.byte⟩
  have rA : rightB (dig x) = true := by simp [rightB, al, val_dig x a0]
  have rB : rightB (dig y) = true := by simp [rightB, bl, val_dig y b0]
  have hsum : sumR s n a b = (match sumZ n x y with | some z => tellZ s z | none => ⟨0, 2, s⟩) := by simp only [sumR, hx, hy]
  rw [hsum] at K
  intro J hJ
  -- what goes wrong
  have bad : ∀ (h3 : Heap) (e : Int) (t : Sl), sumZ n x y = none → e ≠ 0 → Fr [] h2 h3 → J e t h3 := fun h3 e t hz he f3 => by
    refine hJ e t h3 (condI (fun _ => ?_) fun e' => absurd (by simpa using e') he)
    have := K h3 F2
    rw [hz] at this
    exact this (S.fr H2 f3 (by simp)) (m12.trans (Mv.grow f3))
  -- what is told
  have good : ∀ (h3 : Heap) (z : Int) (t : Sl), sumZ n x y = some z → 0 ≤ z → (dig z).length ≤ 400 → Row h3 t (dig z) → (∀ k ∈ t.blk, h2.size ≤ k) → Fr [] h2 h3 → J 0 t h3 := fun h3 z t hz z0 zl X nf f3 => by
    refine hJ 0 t h3 (condI (fun e' => by simp at e') fun _ => ?_)
    have H3 := S.fr H2 f3 (by simp)
    have m3 := m12.trans (Mv.grow f3)
    rw [hz] at K
    have K : ∀ h' F', Rep h' F' (tellZ s z).s → Mv F h F' h' → R (.tuple #[.int .i64 (tellZ s z).v, .int .i64 (tellZ s z).e]) h' := K
    have vz := val_dig z z0
    have rZ : rightB (dig z) = true := by simp [rightB, zl, vz]
    have hfar : ∀ k ∈ t.blk, k ∉ F2 := fun k hk hF => by
      have := S.lt H2 k hF
      have := nf k hk
      omega
    intro J2 hJ2
    have big : ∀ (h4 : Heap) u w, ¬ z ≤ 1073741823 → Fr [] h3 h4 → J2 u w h4 := fun h4 u w hz f4 => by
      have H4 := S.fr H3 f4 (by simp)
      have m4 : Mv F2 h2 F2 h4 := Mv.grow (f3.trans' f4)
      refine hJ2 u w h4 (kit_Special S H4 (fun h5 F5 H5 m5 => ⟨_, _, rfl, condI (fun e => ?_) fun e => ?_⟩) fun he ht h5 F5 H5 m5 => ⟨_, _, rfl, condI (fun _ => KF ⟨_, ht⟩ h5 F5 _ _ H5 ((m12.trans m4).trans m5)) fun e => by simp at e⟩)
      · have e : fetchE s 8 5 ≠ 0 := by simpa using e
        have := K h5 F5
        simp only [tellZ, if_neg hz, if_pos e] at this
        exact this H5 ((m12.trans m4).trans m5)
      · have e : fetchE s 8 5 = 0 := by simpa using e
        have X5 : Row h5 t (dig z) := ⟨(m5.sl (X.grow f4).is hfar).1, X.cap, X.byte⟩
        have d5 : ∀ k ∈ t.blk, k ∉ F5 := (m5.sl (X.grow f4).is hfar).2
        refine prim_bytes S H5 X5 d5 (by omega) hm (fun hk h6 F6 H6 m6 => ⟨_, _, rfl, ?_⟩) (fun hk h6 F6 H6 m6 => ⟨_, _, rfl, ?_⟩) fun ht h6 F6 w s6 H6 m6 => ⟨_, _, rfl, KF ht h6 F6 w s6 H6 (((m12.trans m4).trans m5).trans m6)⟩
        · have := K h6 F6
          simp only [tellZ, if_neg hz, e, ne_eq, not_true, if_false, hk, if_true] at this
          exact this H6 (((m12.trans m4).trans m5).trans m6)
        · have := K h6 F6
          simp only [tellZ, if_neg hz, e, ne_eq, not_true, if_false, hk, Bool.false_eq_true] at this
          exact this H6 (((m12.trans m4).trans m5).trans m6)
    refine large_Int X (by omega) (fun hi h4 f4 => ⟨_, _, rfl, condI (fun _ => condI (fun e => word_Small ⟨_, _, rfl, ?_⟩) fun e => ?_) fun e => by simp at e⟩) fun hi => ⟨_, _, rfl, condI (fun e => by simp at e) fun _ => big h3 _ _ ?_ (Fr.refl _ _)⟩
    · have e := of_decide_eq_true e
      rw [vz] at e
      have hs : smallE z = 0 := by simp [smallE, smallOK]; omega
      have := K h4 F2
      simp only [tellZ, if_pos e] at this
      rw [vz, hs]
      exact this (S.fr H3 f4 (by simp)) (m3.trans (Mv.grow f4))
    · have e : ¬ val (dig z) ≤ 1073741823 := by simpa using e
      rw [vz] at e
      exact big h4 _ _ e f4
    · intro hle
      have : intB (dig z) = true := by simp [intB, rZ, vz]; omega
      rw [this] at hi
      cases hi
  have vx := val_dig x a0
  have vy := val_dig y b0
  refine condI (fun e3 => ?_) fun e3 => condI (fun e4 => ?_) fun e4 => ?_
  · have e3 : n = 21 := by simpa using e3
    refine box_new fun h3 g3 f3 s3 => ?_
    refine large_Add (sb := t2) (A2.grow f3) (B.grow f3) g3 (by omega) (by omega) (fun hh => absurd ⟨rA, rB⟩ hh) (fun _ _ hl h4 t X f4 nf => ⟨t, _, rfl, ?_⟩) fun _ _ hl h4 f4 => ⟨⟨none, 0, 0⟩, _, rfl, bad h4 _ _ ?_ (by decide) (f3.trans' f4)⟩
    · rw [vx, vy] at hl X
      exact good h4 (x + y) t (by simp [sumZ, e3, hl]) (by omega) hl X (fun k hk => by have := nf k hk; omega) (f3.trans' f4)
    · rw [vx, vy] at hl
      simp [sumZ, e3]; omega
  · have e3 : n ≠ 21 := by simpa using e3
    have e4 : n = 22 := by simpa using e4
    refine large_Sub A2 B (by omega) (by omega) (fun hh => absurd ⟨rA, rB⟩ hh) (fun _ _ hl h4 t X f4 nf => ⟨t, _, rfl, ?_⟩) fun _ _ hl h4 f4 => ⟨⟨none, 0, 0⟩, _, rfl, bad h4 _ _ ?_ (by decide) f4⟩
    · rw [vx, vy] at hl X
      refine good h4 (x - y) t (by simp [sumZ, e4, hl]) (by omega) (Nat.le_trans (dig_len_mono (b := x) (by omega) (by omega)) al) X nf f4
    · rw [vx, vy] at hl
      simp [sumZ, e4]; omega
  · have e3 : n ≠ 21 := by simpa using e3
    have e4 : n ≠ 22 := by simpa using e4
    refine large_Mul A2 B (by omega) (by omega) (fun hh => absurd ⟨rA, rB⟩ hh) (fun _ _ hl h4 t X f4 nf => ⟨t, _, rfl, ?_⟩) fun _ _ hl h4 f4 => ⟨⟨none, 0, 0⟩, _, rfl, bad h4 _ _ ?_ (by decide) f4⟩
    · rw [vx, vy] at hl X
      exact good h4 (x * y) t (by simp [sumZ, e3, e4, hl]) (Int.mul_nonneg a0 b0) hl X nf f4
    · rw [vx, vy] at hl
      simp [sumZ, e3, e4]; omega
end
end Go.Hv.W

/- The law PrimLarge answers true. -/
namespace Go.Hv.W
open Go Go.Hv

/-- a primitive is done on the memory without bounds -/
theorem Cur.doS {pb : Nat} {h0 h : Heap} {F : List Nat} {s : St} (C : Cur pb h0 h F s) (HC0 : HasCounts h0) {n r : Int} {sl : Sl} {l : List Int} (hs : SlI h sl .i64 l) (hd : ∀ k ∈ sl.blk, k ∉ F) (hl : l.length ≤ 1000) (hm : s.made < 1073741823)
    {d : DoOut} (hdo : doR sumR s n r l = d) {R : Value → Heap → Prop} (K : ∀ h' F', Cur pb h0 h' F' d.s → R (.tuple #[.int .i64 d.v, .bool d.b, .int .i64 d.e]) h') :
    HC P F_prim_Do #[flatV pb, .int .i64 n, .int .i64 r, .slice sl.a sl.n sl.c] h R := by
  obtain ⟨c1, c2⟩ := C.cnt HC0
  refine prim_Do (flatSto pb) C.rep (sums := sumR) c1 c2 hs hd hl (by omega) (fun _ _ h1 R' H1 _ k kf => prim_sums (flatSto pb) H1 hm k fun ht => by obtain ⟨_, ht⟩ := ht; exact ht.elim) (fun h' F' H' m' => ?_) fun ht => by obtain ⟨_, ht⟩ := ht; exact ht.elim
  rw [hdo] at H' ⊢
  exact K h' F' (C.step H' m')

def aD : AO := { cls := 2, kind := 1, w := [2, 2, 2, 2, 2, 2], b := [] }

/-- a memory in which the fourth tells the class of large numbers -/
structure Good (s : St) : Prop where
  four : s.get 4 = some aD
  ids : ∀ p ∈ s.objs, 1 ≤ p.1 ∧ p.1 ≤ s.made
  lo : 4 ≤ s.made

theorem St.get_add_old {s : St} {id : Int} {a : AO} (h : s.get id = some a) (b : AO) : (s.add b).get id = some a := by
  unfold St.get at h ⊢
  unfold St.add
  rw [List.find?_append]
  cases hf : s.objs.find? (fun p => p.1 == id) with
  | none => rw [hf] at h; cases h
  | some p => rw [hf] at h; simpa using h

theorem Good.add {s : St} (G : Good s) (b : AO) : Good (s.add b) := ⟨St.get_add_old G.four b, fun p hp => by
  simp only [St.add, List.mem_append, List.mem_singleton] at hp ⊢
  rcases hp with hp | rfl
  · have := G.ids p hp; omega
  · have := G.lo; simp; omega, by have := G.lo; simp [St.add]; omega⟩

theorem Good.get_new {s : St} (G : Good s) (b : AO) : (s.add b).get (s.made + 1) = some b := by
  unfold St.get St.add
  rw [List.find?_append]
  have : s.objs.find? (fun p => p.1 == s.made + 1) = none := by
    rw [List.find?_eq_none]
    intro p hp
    have := G.ids p hp
    simp; omega
  simp [this]

theorem Good.fetch {s : St} (G : Good s) : fetchE s 8 5 = 0 ∧ fetchV s 8 5 = 2 := by
  have h8 : namV 8 = 4 := by decide
  have h1 : fetchE s 8 5 = 0 := by simp [fetchE, h8, G.four, aD, AO.size]
  refine ⟨h1, ?_⟩
  simp only [fetchV, h8, G.four, h1, if_true]
  rfl

theorem digO_keep {s : St} {o z : Int} (h : digO s o = some z) (b : AO) : digO (s.add b) o = some z := by
  unfold digO at h ⊢
  split
  · next e => rw [if_pos e] at h; exact h
  · next e =>
    rw [if_neg e] at h
    cases hg : s.get (namV o) with
    | none => rw [hg] at h; cases h
    | some a =>
      rw [hg] at h
      rw [St.get_add_old hg]
      exact h

theorem numB_small {z : Int} (h0 : -1073741824 ≤ z) (h1 : z ≤ 1073741823) : numB (2 * z + 1) = true ∧ numV (2 * z + 1) = z := by
  have h : numB (2 * z + 1) = true := by simp [numB]; omega
  exact ⟨h, by simp only [numV, h, if_true]; omega⟩

theorem digO_small {s : St} {z : Int} (h0 : 0 ≤ z) (h1 : z ≤ 1073741823) : digO s (2 * z + 1) = some z := by
  obtain ⟨a, b⟩ := numB_small (z := z) (by omega) h1
  simp only [digO, a, b, if_true]
  rw [if_neg (by omega)]

theorem known_sum {n : Int} (hn : n = 21 ∨ n = 22 ∨ n = 29) : knownF n = some 1 ∧ isSum n = true ∧ ¬ n < 16 := by
  rcases hn with rfl | rfl | rfl <;> exact ⟨by decide, by decide, by decide⟩

/-- what a sum comes to -/
theorem sum_do {s : St} (G : Good s) (hm : s.made < 1000000) {n r a x y z : Int} (hn : n = 21 ∨ n = 22 ∨ n = 29) (hr : digO s r = some x) (ha : digO s a = some y) (hz : sumZ n x y = some z) (h0 : 0 ≤ z) (hl : (dig z).length ≤ 400) :
    ∃ d : DoOut, doR sumR s n r [a] = d ∧ d.b = true ∧ Good d.s ∧ d.s.made ≤ s.made + 1 ∧ digO d.s d.v = some z ∧ (∀ o w, digO s o = some w → digO d.s o = some w) ∧ (z ≤ 1073741823 → d.v = 2 * z + 1) ∧ (1073741823 < z → d.v = 2 * (s.made + 1)) := by
  obtain ⟨k1, k2, k3⟩ := known_sum hn
  have hd : doR sumR s n r [a] = doneR (tellZ s z) := by
    unfold doR
    simp only [List.length_singleton, k1, k2, if_neg k3, if_true]
    rw [if_neg (by simp)]
    simp only [List.getD_cons_zero, sumR, hr, ha, hz]
  refine ⟨_, hd, ?_⟩
  obtain ⟨f1, f2⟩ := G.fetch
  by_cases hs : z ≤ 1073741823
  · have hv : smallV z = 2 * z + 1 := by simp [smallV, smallOK]; omega
    simp only [tellZ, if_pos hs, doneR, if_true, hv]
    exact ⟨trivial, G, by omega, digO_small h0 hs, fun o w h => h, fun _ => trivial, fun h => by omega⟩
  · have hp : oopV (s.made + 1) = 2 * (s.made + 1) := by have := G.lo; simp [oopV]; omega
    have hnb : numB (2 * (s.made + 1)) = false := by simp [numB]; try omega
    have hnm : namV (2 * (s.made + 1)) = s.made + 1 := by rw [← hp]; exact namV_oop (by have := G.lo; omega) (by omega)
    have h2 : namB 2 = true := by decide
    simp only [tellZ, if_neg hs, f1, f2, ne_eq, not_true, if_false, h2, if_true, doneR, hp]
    refine ⟨trivial, G.add _, by simp [St.add], ?_, fun o w h => digO_keep h _, fun h => absurd h hs, fun _ => trivial⟩
    have hz2 := val_dig z h0
    have hr' : rightB (dig z) = true := by simp [rightB, hl, hz2]
    simp only [digO, hnb, hnm, G.get_new, bytesA, hr', Bool.false_eq_true, if_false, and_self, if_true, hz2]

def s4 : St := ⟨4, [(1, aE), (2, aE), (3, aE), (4, aD)]⟩
theorem s4_load : [aE, aE, aE, aD].foldl St.add ⟨0, []⟩ = s4 := rfl
theorem s4_good : Good s4 := ⟨rfl, by decide, by decide⟩

theorem law_PrimLarge {a b : Int} (ha0 : 0 ≤ a) (ha1 : a ≤ 4294967295) (hb0 : 0 ≤ b) (hb1 : b ≤ 4294967295) {h : Heap} {R : Value → Heap → Prop} (hC : HasCounts h) (K : ∀ h', Fr [] h h' → R (.bool true) h') :
    HC P F_websterlaw16_PrimLarge #[.int .u32 a, .int .u32 b] h R := by
  have fin : ∀ {h'}, Fr [] h h' → HC P F_websterlaw16_known #[] h' fun v1 h1 => ∃ b1 : Bool, v1 = .bool b1 ∧ R (.bool b1) h1 := fun f => websterlaw16_known (hC.fr f (by simp)) fun h1 f1 => ⟨_, rfl, K h1 (f.trans' f1)⟩
  refine S_websterlaw16_PrimLarge (box_new fun h1 g1 f1 s1 => box_new fun h2 g2 f2 s2 => flat_New fun h3 pb mb fl f3 lpb lmb => ⟨_, rfl, ?_⟩)
  simp only [Option.isNone_some, cond_false]
  have f13 := (f1.trans' f2).trans' f3
  have C3 : Cur pb h h3 (fpM pb mb []) ⟨0, []⟩ := ⟨⟨mb, [], fl, rfl, rfl⟩, f13, fun k hk => by
    simp [fpM] at hk
    omega⟩
  have g1' : h3[h.size]? = some (.cells #[.int .i64 2, .int .i64 2, .int .i64 2, .int .i64 2, .int .i64 2, .int .i64 2] T_int (0, 0)) := f3.get (f2.get g1 (by simp)) (by simp)
  have g2' := f3.get g2 (by simp)
  have hB : ∀ k ∈ [h1.size, h.size], k ∉ fpM pb mb [] := fun k hk hm => by
    simp [fpM] at hm hk
    omega
  have hO : SlO h3 ⟨some ⟨h1.size, 0, none⟩, 4, 4⟩ [aE, aE, aE, aD] [h1.size, h.size] := by
    refine ⟨rfl, fun e => (by cases e), fun p hp => by cases hp; simp, fun k hk => by have := lt_of_get g1'; have := lt_of_get g2'; simp at hk; omega, fun p hp => ?_⟩
    cases hp
    refine ⟨rfl, _, _, _, g2', by simp, fun j a ha => ?_⟩
    have hj5 : j < 4 := by have := (List.getElem?_eq_some_iff.1 ha).1; simpa using this
    have nw : bytesOK [] := fun x hx => by cases hx
    match j, hj5, ha with
    | 0, _, ha | 1, _, ha | 2, _, ha =>
      simp at ha
      subst ha
      exact ⟨nilSl, nilSl, rfl, rfl, rfl, rfl, SlI_nil _ _, SlI_nil _ _, by simp [nilSl, Sl.blk], nw⟩
    | 3, _, ha =>
      simp at ha
      subst ha
      exact ⟨⟨some ⟨h.size, 0, none⟩, 6, 6⟩, nilSl, rfl, rfl, rfl, rfl, ⟨rfl, fun e => (by cases e), fun q hq => by
        cases hq
        exact ⟨rfl, _, _, _, g1', by simp [aD], fun i hi => by
          simp [aD] at hi
          match i, hi with
          | 0, _ | 1, _ | 2, _ | 3, _ | 4, _ | 5, _ => rfl
          | k + 6, hi => omega⟩⟩, SlI_nil _ _, by simp [nilSl, Sl.blk], nw⟩
    | k + 4, hj5, _ => omega
  refine flat_Load (flatSto pb) C3.rep (sl := ⟨some ⟨h1.size, 0, none⟩, 4, 4⟩) hO hB (by simp) (by simp) (fun hbad h4 F4 H4 m4 => ?_) (fun _ _ h4 F4 H4 m4 => ?_) fun ht => by obtain ⟨_, ht⟩ := ht; exact ht.elim
  · exfalso
    rcases hbad with hb | ⟨a, ha, hb⟩
    · simp at hb
    · have all : ∀ a ∈ [aE, aE, aE, aD], chkB a = true := by decide
      rw [all a ha] at hb
      cases hb
  have C4 := C3.step H4 m4
  rw [s4_load] at C4
  refine ⟨_, rfl, ?_⟩
  simp only [show ((0 : Int) != 0) = false from rfl, cond_false]
  obtain ⟨x, hx⟩ : ∃ x, Int.tmod a 1073741824 = x := ⟨_, rfl⟩
  obtain ⟨y, hy⟩ : ∃ y, Int.tmod b 1073741824 = y := ⟨_, rfl⟩
  have hx2 : 0 ≤ x ∧ x ≤ 1073741823 := by rw [← hx, Int.tmod_eq_emod_of_nonneg ha0]; omega
  have hy2 : 0 ≤ y ∧ y ≤ 1073741823 := by rw [← hy, Int.tmod_eq_emod_of_nonneg hb0]; omega
  rw [hx, hy]
  have h8 : (256 : Int) ^ 8 = 18446744073709551616 := rfl
  have hxy : 0 ≤ x * y ∧ x * y ≤ 1152921504606846976 := ⟨Int.mul_nonneg hx2.1 hy2.1, Int.le_trans (Int.mul_le_mul_of_nonneg_right (Int.le_trans hx2.2 (by decide : (1073741823 : Int) ≤ 1073741824)) hy2.1) (by omega)⟩
  have hcm : y * x = x * y := Int.mul_comm _ _
  obtain ⟨w, hw⟩ : ∃ w, x * y = w := ⟨_, rfl⟩
  rw [hw] at hxy hcm
  have short : ∀ z : Int, 0 ≤ z → z ≤ 1152921504606846976 → (dig z).length ≤ 400 := fun z z0 z1 => Nat.le_trans (dig_len_le (k := 8) z0 (by omega)) (by omega)
  have ii : ∀ z : Int, 0 ≤ z → z ≤ 2147483648 → InI z := fun z z0 z1 => ⟨by omega, by omega⟩
  refine ⟨by decide, ii _ hx2.1 (by omega), ii _ (by omega) (by omega), ii _ (by omega) (by omega), by decide, ii _ hy2.1 (by omega), ii _ (by omega) (by omega), ii _ (by omega) (by omega), ?_⟩
  -- the sum
  refine box_new fun h5 g5 f5 s5' => ?_
  have C5 := C4.grow f5
  have lt4 := C4.lt
  obtain ⟨d1, e1, b1, G1, m1, v1, k1, sm1, bg1⟩ := sum_do s4_good (by decide) (n := 21) (.inl rfl) (digO_small (s := s4) hx2.1 hx2.2) (digO_small (s := s4) hy2.1 hy2.2) (z := x + y) (by simp [sumZ, short (x + y) (by omega) (by omega)]) (by omega) (short _ (by omega) (by omega))
  have hm1 : d1.s.made ≤ 5 := m1
  refine C5.doS hC (SlI_new g5 (l := [2 * y + 1]) rfl rfl) (fun k hk hm => by simp [Sl.blk] at hk; have := lt4 k hm; omega) (by simp) (by decide) e1 fun h6 F6 C6 => ⟨_, _, _, rfl, ?_⟩
  -- less one
  refine box_new fun h7 g7 f7 s7 => ?_
  have C7 := C6.grow f7
  have lt6 := C6.lt
  obtain ⟨d2, e2, b2, G2, m2, v2, k2, sm2, _⟩ := sum_do G1 (by omega) (n := 22) (.inr (.inl rfl)) v1 (k1 _ _ (digO_small (s := s4) hy2.1 hy2.2)) (z := x) (by simp [sumZ]; omega) (by omega) (short _ (by omega) (by omega))
  refine C7.doS hC (SlI_new g7 (l := [2 * y + 1]) rfl rfl) (fun k hk hm => by simp [Sl.blk] at hk; have := lt6 k hm; omega) (by simp) (by omega) e2 fun h8' F8 C8 => ⟨_, _, _, rfl, ?_⟩
  -- the products
  refine box_new fun h9 g9 f9 s9 => ?_
  have C9 := C8.grow f9
  have lt8 := C8.lt
  obtain ⟨d3, e3, b3, G3, m3, v3, k3, _, _⟩ := sum_do G2 (by omega) (n := 29) (.inr (.inr rfl)) (digO_small (s := d2.s) hx2.1 hx2.2) (digO_small (s := d2.s) hy2.1 hy2.2) (z := w) (by simp [sumZ, hw, short w hxy.1 hxy.2]) hxy.1 (short _ hxy.1 hxy.2)
  refine C9.doS hC (SlI_new g9 (l := [2 * y + 1]) rfl rfl) (fun k hk hm => by simp [Sl.blk] at hk; have := lt8 k hm; omega) (by simp) (by omega) e3 fun h10 F10 C10 => ⟨_, _, _, rfl, ?_⟩
  refine box_new fun h11 g11 f11 s11 => ?_
  have C11 := C10.grow f11
  have lt10 := C10.lt
  obtain ⟨d4, e4, b4, G4, m4', v4, k4, _, _⟩ := sum_do G3 (by omega) (n := 29) (.inr (.inr rfl)) (digO_small (s := d3.s) hy2.1 hy2.2) (digO_small (s := d3.s) hx2.1 hx2.2) (z := w) (by simp [sumZ, hcm, short w hxy.1 hxy.2]) hxy.1 (short _ hxy.1 hxy.2)
  refine C11.doS hC (SlI_new g11 (l := [2 * x + 1]) rfl rfl) (fun k hk hm => by simp [Sl.blk] at hk; have := lt10 k hm; omega) (by simp) (by omega) e4 fun h12 F12 C12 => ⟨_, _, _, rfl, ?_⟩
  rw [b1, b2, b3, b4, sm2 hx2.2]
  simp only [Bool.not_true, cond_false, bne_self_eq_false]
  -- the difference
  refine box_new fun h13 g13 f13' s13 => ?_
  have C13 := C12.grow f13'
  have lt12 := C12.lt
  obtain ⟨d5, e5, b5, G5, m5, v5, k5, sm5, _⟩ := sum_do G4 (by omega) (n := 22) (.inr (.inl rfl)) (k4 _ _ v3) v4 (z := 0) (by simp [sumZ]) (by omega) (short _ (by omega) (by omega))
  refine C13.doS hC (SlI_new g13 (l := [d4.v]) rfl rfl) (fun k hk hm => by simp [Sl.blk] at hk; have := lt12 k hm; omega) (by simp) (by omega) e5 fun h14 F14 C14 => ⟨_, _, _, rfl, ?_⟩
  rw [sm5 (by omega)]
  simp only [show ((2 * (0 : Int) + 1) == 1) = true from rfl, cond_true]
  refine ⟨by decide, by decide, ii _ hx2.1 (by omega), by decide, ii _ hy2.1 (by omega), ii _ (by omega) (by omega), ?_⟩
  have par : ((Int.tmod d1.v 2 != 0) == decide (x + y < 1073741824)) = true := by
    by_cases hs : x + y ≤ 1073741823
    · rw [sm1 hs, Int.tmod_eq_emod_of_nonneg (by omega), show (2 * (x + y) + 1) % 2 = 1 by omega, show decide (x + y < 1073741824) = true from decide_eq_true (by omega)]
      rfl
    · rw [bg1 (by omega), show decide (x + y < 1073741824) = false from decide_eq_false (by omega)]
      rfl
  rw [par]
  exact fin C14.fr
end Go.Hv.W
