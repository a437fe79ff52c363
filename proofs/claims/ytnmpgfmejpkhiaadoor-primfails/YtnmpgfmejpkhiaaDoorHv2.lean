/- An engine of ours: what a heap has to be so that a piece of a program does what is wanted, reckoned out of the code, and proved to be enough. -/
import Derived.RangeFuncRecord
import Derived.Test.YtnmpgfmejpkhiaaDoorHv1
/- Ranges over functions: code at whose top level one stands. -/
namespace Go.Hv

def hasRF : Code → Bool
  | .seq a b => hasRF a || hasRF b
  | .cond _ a b => hasRF a || hasRF b
  | .block _ c => hasRF c
  | .loop c => hasRF c
  | .scope c => hasRF c
  | .rangeFunc _ _ _ _ => true
  | _ => false

/-- a jump out of a round, as code -/
def exCode : Ex → Option Code
  | .normal => none
  | .ret => some .ret
  | .exit id => some (.exit id)
  | .goto l => some (.goto l)
def exNorm : Ex → Bool | .normal => true | _ => false

/-- the jumps out of a body -/
def jumps : Code → List Ex
  | .seq a b => jumps a ++ jumps b
  | .cond _ a b => jumps a ++ jumps b
  | .block id c => (jumps c).filter fun e => match e with | .exit i => !(Nat.beq i id) | _ => true
  | .loop c => jumps c
  | .scope c => jumps c
  | .exit id => [.exit id]
  | .ret => [.ret]
  | _ => []

/-- how a loop's record lies in the heap, by its state and what is to come -/
abbrev Rec := LoopState → Ex → Obj

def loopRec (ρ : Loop) : Rec := fun s e => .loop { ρ with state := s, pending := exCode e }

def asFn (v : Value) (k : FuncId → Array Value → Array Value → Prop) : Prop := match v with | .func (.func f) a b => k f a b | _ => False

def putEs (n : Nat) (env : Env) : List Tmp → List Value → Env
  | p :: ps, x :: xs => putEs n (putE n env (some p) x) ps xs
  | _, _ => env

def allV : Nat → (List Value → Prop) → Prop
  | 0, φ => φ []
  | n + 1, φ => ∀ x : Value, allV n fun xs => φ (x :: xs)

/-- one round -/
def roundE (P : Program) (qs : List Nat) (n : Nat) (ps : List Tmp) (asg bd : Code) (env : Env) (l : Nat) (mk : Rec) (xs : List Value) (h : Heap) (R : Value → Heap → Prop) : Prop :=
  h[l]? = some (mk .ready .normal) ∧
  vc P qs n asg (putEs n env ps xs) h fun e env1 h1 => match e with
    | .normal => h1[l]? = some (mk .ready .normal) ∧ ∀ h2 : Heap, h2 = h1.setIfInBounds l (mk .busy .normal) →
        vc P qs n bd env1 h2 fun e _ h3 => h3[l]? = some (mk .busy .normal) ∧ ∀ h4 : Heap, h4 = h3.setIfInBounds l (mk (bif exNorm e then .ready else .done) e) → R (.bool (exNorm e)) h4
    | _ => False

def orL : List Ex → (Ex → Prop) → Prop
  | [], _ => False
  | [e], k => k e
  | e :: l, k => k e ∨ orL l k

def vcM (P : Program) (qs : List Nat) (n : Nat) : Code → Env → Heap → List Nat → (Ex → Env → Heap → List Nat → Prop) → Prop
  | .seq a b, env, h, ms, Q => bif hasRF (.seq a b) then
      vcM P qs n a env h ms fun e env' h' ms' => match e with
        | .normal => vcM P qs n b env' h' ms' Q
        | e => Q e env' h' ms'
    else vc P qs n (.seq a b) env h fun e env' h' => Q e env' h' ms
  | .block id c, env, h, ms, Q => bif hasRF (.block id c) then
      vcM P qs n c env h ms fun e env' h' ms' => match e with
        | .exit i => bif Nat.beq i id then Q .normal env' h' ms' else Q (.exit i) env' h' ms'
        | e => Q e env' h' ms'
    else vc P qs n (.block id c) env h fun e env' h' => Q e env' h' ms
  | .rangeFunc g ps asg bd, env, h, ms, Q => wV env g fun gv => ∀ mk : Rec, ∀ h1 : Heap, h1 = h.push (.deferred (some [])) → ∀ h2 : Heap, h2 = h1.push (mk .ready .normal) →
      (allV ps.size fun xs => ∀ (h' : Heap) (R : Value → Heap → Prop), roundE P qs n ps.toList asg bd env h1.size mk xs h' R → HV P (.func (.yield h1.size) #[] #[]) xs.toArray h' R) →
      asFn gv fun f first cap => HC P f (first ++ #[.func (.yield h1.size) #[] #[]] ++ cap) h2 fun _ h4 =>
        orL (.normal :: jumps bd) fun e => h4[h1.size]? = some (mk (bif exNorm e then .ready else .done) e) ∧ ∀ h5 : Heap, h5 = h4.setIfInBounds h1.size (mk .exhausted e) → Q e env h5 (h.size :: ms)
  | c, env, h, ms, Q => bif hasRF c then False else vc P qs n c env h fun e env' h' => Q e env' h' ms

/-- the marks among the deferred calls are taken -/
def shutE : List Nat → Heap → (Heap → Prop) → Prop
  | [], h, k => k h
  | r :: ms, h, k => h[r]? = some (.deferred (some [])) ∧ ∀ h' : Heap, h' = h.setIfInBounds r (.deferred none) → shutE ms h' k

def vcFM (P : Program) (qs : List Nat) (fn : Func) (args : List Value) (h : Heap) (R : Value → Heap → Prop) : Prop :=
  match fn.body with
  | none => False
  | some c => bif Nat.ble args.length fn.ntmps then
      vcM P qs fn.ntmps c (argEnv 0 args) h [] fun e env h' ms => match e with
        | .normal => shutE ms h' fun h'' => vcRes P env h'' fn.results.toList fun vs => R (retV vs) h''
        | .ret => shutE ms h' fun h'' => vcRes P env h'' fn.results.toList fun vs => R (retV vs) h''
        | _ => False
    else False

def markD (r : Nat) : Deferred := { target := .collected r, args := #[] }

section
variable {P : Program} {qs : List Nat} {n : Nat}

theorem orL_elim {k : Ex → Prop} : ∀ {l : List Ex}, orL l k → ∃ e ∈ l, k e
  | [], h => h.elim
  | [e], h => ⟨e, by simp, h⟩
  | e :: e' :: l, h => by
    rcases h with h | h
    · exact ⟨e, by simp, h⟩
    · obtain ⟨x, hx, hk⟩ := orL_elim h
      exact ⟨x, List.mem_cons_of_mem _ hx, hk⟩

theorem asFn_elim {v : Value} {k : FuncId → Array Value → Array Value → Prop} (h : asFn v k) : ∃ f a b, v = .func (.func f) a b ∧ k f a b := by
  unfold asFn at h
  split at h
  · exact ⟨_, _, _, rfl, h⟩
  · exact h.elim

theorem allV_mk : ∀ {k : Nat} {φ : List Value → Prop}, (∀ xs, xs.length = k → φ xs) → allV k φ
  | 0, φ, h => h [] rfl
  | k + 1, φ, h => fun x => allV_mk fun xs hl => h (x :: xs) (by simp [hl])

theorem Good.puts {ds : List Deferred} : ∀ {ps : List Tmp} {xs : List Value} {env : Env} {a : Act}, Good n ds env a → ps.length = xs.length →
    Good n ds (putEs n env ps xs) { a with tmps := (ps.zip xs).foldl (fun t (p, v) => t.setIfInBounds p v) a.tmps }
  | [], [], env, a, g, _ => g
  | p :: ps, x :: xs, env, a, g, hl => by
    have g' := Good.puts (ps := ps) (xs := xs) (g.put (some p) x) (by simpa using hl)
    exact g'
  | [], _ :: _, _, _, _, hl => by simp at hl
  | _ :: _, [], _, _, _, hl => by simp at hl

theorem zip_toArray {ps : Array Tmp} {xs : List Value} {t : Array Value} : ((ps.zip xs.toArray).foldl (fun t (x : Tmp × Value) => t.setIfInBounds x.1 x.2) t) = (ps.toList.zip xs).foldl (fun t (x : Tmp × Value) => t.setIfInBounds x.1 x.2) t := by
  rw [← Array.foldl_toList]
  simp

theorem roundE_sound (hm : P.follows .mixedOrders = true) {ps : Array Tmp} {asg bd : Code} {env : Env} {a : Act} {l : Nat} {ρ : Loop} {xs : List Value} {ds : List Deferred} {R : Value → Heap → Prop} {w : World}
    (g : Good n ds env a) (h1 : ρ.tmps = a.tmps) (h2 : ρ.params = ps) (h3 : ρ.assign = asg) (h4 : ρ.body = bd) (hl : xs.length = ps.size)
    (H : roundE P qs n ps.toList asg bd env l (loopRec ρ) xs w.heap R) : OpOK P R w (((Deferred.ofValue (.func (.yield l) #[] #[]) xs.toArray) >>= fun d => invoke d.target d.args).run P w) := by
  obtain ⟨hr, H⟩ := H
  have hg := getObj_run (P := P) hr (fun c t f h => by cases h)
  have hgl : (Instr.getLoop l).run P w = .ok { ρ with state := .ready, pending := exCode .normal } w := by
    simp only [Instr.getLoop, Sem.run_bind, hg, Result.andThen_ok, loopRec, Sem.run_pure]
  have hy : ((Deferred.ofValue (.func (.yield l) #[] #[]) xs.toArray) >>= fun d => invoke d.target d.args).run P w =
      .ok (.round l ρ.fn ((ps.zip xs.toArray).foldl (fun t (x : Tmp × Value) => t.setIfInBounds x.1 x.2) ρ.tmps) asg bd) w := by
    have : ((Deferred.ofValue (.func (.yield l) #[] #[]) xs.toArray) >>= fun d => invoke d.target d.args).run P w = (Instr.yield l xs.toArray).run P w := by
      simp [Deferred.ofValue, invoke]
    rw [this]
    simp only [Instr.yield, Sem.run_bind, hgl, Result.andThen_ok]
    have hsz : ¬ (xs.toArray.size ≠ ps.size) := by simp [hl]
    simp only [h2, h3, h4, if_neg hsz, Sem.run_pure, Sem.run_bind, Result.andThen_ok]
  rw [hy]
  refine ⟨Same.refl w, roundIn_of_wpIn trivial ?_⟩
  rw [h1, zip_toArray]
  have g0 : Good n [] env { tmps := a.tmps, defers := [] } := ⟨g.agree, g.size, rfl⟩
  have g1 := g0.puts (ps := ps.toList) (xs := xs) (by simp [hl])
  refine vc_sound (r := some l) hm asg g1 H fun e env1 a1 w1 g1 hk hs _ => ?_
  cases e with
  | normal =>
    obtain ⟨hr1, hk⟩ := hk
    have hg1 := getObj_run (P := P) hr1 (fun c t f h => by cases h)
    have hst : (Instr.beginRound l).run P w1 = .ok () { w1 with heap := w1.heap.setIfInBounds l (loopRec ρ .busy .normal) } := by
      have h5 := setObj_run (P := P) (o' := loopRec ρ .busy .normal) hr1 (fun c t f h => by cases h)
      simp only [Instr.beginRound, Instr.getLoop, Sem.run_bind, hg1, Result.andThen_ok, loopRec, Sem.run_pure] at h5 ⊢
      rw [h5]
      rfl
    refine ⟨_, hst, vc_sound (r := some l) hm bd g1 (hk _ rfl) fun e env2 a2 w2 g2 hk2 hs2 _ => ?_⟩
    obtain ⟨hr2, hk2⟩ := hk2
    have hg2 := getObj_run (P := P) hr2 (fun c t f h => by cases h)
    have sm1 := same_set w1 (o' := loopRec ρ .busy .normal) hr1 (fun c t f h => by cases h) (fun c t f h => by cases h)
    have hend : ∀ j : Option Code, j = exCode e → (Instr.endRound l j).run P w2 = .ok (.bool (exNorm e)) { w2 with heap := w2.heap.setIfInBounds l (loopRec ρ (bif exNorm e then .ready else .done) e) } := by
      intro j hj
      subst hj
      have hn : (exCode e).isNone = exNorm e := by cases e <;> rfl
      have h5 := setObj_run (P := P) (o' := loopRec ρ (bif exNorm e then .ready else .done) e) hr2 (fun c t f h => by cases h)
      simp only [Instr.endRound, Instr.getLoop, Sem.run_bind, hg2, Result.andThen_ok, loopRec, Sem.run_pure, hn] at h5 ⊢
      have hbif : (if exNorm e = true then LoopState.ready else LoopState.done) = (bif exNorm e then LoopState.ready else LoopState.done) := by cases exNorm e <;> rfl
      rw [hbif, h5]
      rfl
    have sm2 := same_set w2 (o' := loopRec ρ (bif exNorm e then .ready else .done) e) hr2 (fun c t f h => by cases h) (fun c t f h => by cases h)
    have fin : ∃ v', Ending.returned (.bool (exNorm e)) = .returned v' ∧ R v' (w2.heap.setIfInBounds l (loopRec ρ (bif exNorm e then .ready else .done) e)) ∧ Same w { w2 with heap := w2.heap.setIfInBounds l (loopRec ρ (bif exNorm e then .ready else .done) e) } :=
      ⟨_, rfl, hk2 _ rfl, ((hs.trans sm1).trans hs2).trans sm2⟩
    cases e with
    | normal => exact ⟨_, _, hend none rfl, fin⟩
    | ret => exact ⟨_, _, hend _ rfl, fin⟩
    | exit id => exact ⟨_, _, hend _ rfl, fin⟩
    | goto t => exact ⟨_, _, hend _ rfl, fin⟩
  | exit id => exact hk.elim
  | ret => exact hk.elim
  | goto t => exact hk.elim

theorem vcM_sound {m : Nat} (hm : P.follows .mixedOrders = true) : ∀ (c : Code) {env : Env} {a : Act} {w : World} {ms : List Nat} {QH : Ex → Env → Heap → List Nat → Prop} {Q : Exit → Act → World → Prop},
    Good n (ms.map markD) env a → vcM P qs n c env w.heap ms QH →
    (∀ e env' a' w' ms', Good n (ms'.map markD) env' a' → QH e env' w'.heap ms' → Same w w' → Q e.to a' w') → c.wpIn Fence.wide m P Q a w := by
  have plainC : ∀ (c : Code) {env : Env} {a : Act} {w : World} {ms : List Nat} {QH : Ex → Env → Heap → List Nat → Prop} {Q : Exit → Act → World → Prop},
      Good n (ms.map markD) env a → (vc P qs n c env w.heap fun e env' h' => QH e env' h' ms) →
      (∀ e env' a' w' ms', Good n (ms'.map markD) env' a' → QH e env' w'.heap ms' → Same w w' → Q e.to a' w') → c.wpIn Fence.wide m P Q a w := fun c {env a w ms QH Q} g H hQ =>
    vc_sound (r := none) hm c g H fun e env' a' w' g' hk hs _ => hQ e env' a' w' ms g' hk hs
  intro c
  induction c with
  | seq x y ihx ihy =>
    intro env a w ms QH Q g H hQ
    simp only [vcM] at H
    cases hrf : hasRF (.seq x y) with
    | false => rw [hrf] at H; exact plainC _ g H hQ
    | true =>
      rw [hrf] at H
      refine wpIn_seq (ihx g H fun e env' a' w' ms' g' hk hs => ?_)
      cases e with
      | normal => exact ihy g' hk fun e env'' a'' w'' ms'' g'' hk' hs' => hQ _ _ _ _ _ g'' hk' (hs.trans hs')
      | exit id => exact hQ (.exit id) _ _ _ _ g' hk hs
      | ret => exact hQ .ret _ _ _ _ g' hk hs
      | goto l => exact hQ (.goto l) _ _ _ _ g' hk hs
  | block id c ih =>
    intro env a w ms QH Q g H hQ
    simp only [vcM] at H
    cases hrf : hasRF (.block id c) with
    | false => rw [hrf] at H; exact plainC _ g H hQ
    | true =>
      rw [hrf] at H
      refine wpIn_block (ih g H fun e env' a' w' ms' g' hk hs => ?_)
      cases e with
      | normal => exact hQ .normal _ _ _ _ g' hk hs
      | exit i =>
        simp only [Ex.to, Exit.inBlock]
        by_cases hi : i = id
        · subst hi
          rw [if_pos rfl]
          simp only [Nat.beq_refl, cond_true] at hk
          exact hQ .normal _ _ _ _ g' hk hs
        · rw [if_neg hi]
          simp only [beq_false hi, cond_false] at hk
          exact hQ (.exit i) _ _ _ _ g' hk hs
      | ret => exact hQ .ret _ _ _ _ g' hk hs
      | goto l => exact hQ (.goto l) _ _ _ _ g' hk hs
  | rangeFunc gop ps asg bd iha ihb =>
    intro env a w ms QH Q g H hQ
    obtain ⟨gv, hgv, H⟩ := wV_elim (env := env) (x := gop) H
    refine wpIn_rangeFunc fun fn hfn => ?_
    have hev := g.eval _ _ hgv
    let ρ : Loop := { state := .ready, pending := none, fn, tmps := a.tmps, params := ps, assign := asg, body := bd, defers := w.heap.size }
    let W1 : World := (w.alloc (.deferred (some []))).alloc (loopRec ρ .ready .normal)
    have hW1 : W1.heap = (w.heap.push (.deferred (some []))).push (loopRec ρ .ready .normal) := rfl
    have hsz : (w.heap.push (.deferred (some []))).size = w.heap.size + 1 := by simp
    have H := H (loopRec ρ) _ rfl _ rfl (allV_mk fun xs hl h' R hr => ⟨fun w' hw' => by
      subst hw'
      exact roundE_sound hm g rfl rfl rfl rfl hl hr⟩)
    obtain ⟨f, first, cap, rfl, H⟩ := asFn_elim H
    rw [hsz] at H
    refine ⟨w.heap.size + 1, [markD w.heap.size], W1, { target := .fn (.func f) cap, args := first ++ #[.func (.yield (w.heap.size + 1)) #[] #[]] }, W1, f, first ++ #[.func (.yield (w.heap.size + 1)) #[] #[]] ++ cap, W1, ?_, ?_, fun _ _ => trivial, ?_, fun h => (by cases h), ?_⟩
    · exact run_enterLoop_outer fn a.tmps ps asg bd
    · simp only [resolve, hev]
      simp [go_sem, Deferred.ofValue]
    · simp only [invoke]
      exact H.enter _ _
    · refine (callsIn_wide).2 ((H.run W1 rfl).mono fun e w3 ⟨v, he, hor, hs⟩ => ?_)
      subst he
      obtain ⟨e, he, hr, hk⟩ := orL_elim hor
      have hg3 := getObj_run (P := P) hr (fun c t f h => by cases h)
      have h5 := setObj_run (P := P) (o' := loopRec ρ .exhausted e) hr (fun c t f h => by cases h)
      have hend : (Instr.endLoop (w.heap.size + 1)).run P w3 = .ok (exCode e) { w3 with heap := w3.heap.setIfInBounds (w.heap.size + 1) (loopRec ρ .exhausted e) } := by
        have hb : ((bif exNorm e then LoopState.ready else LoopState.done) == LoopState.busy) = false := by cases exNorm e <;> rfl
        simp only [Instr.endLoop, Instr.getLoop, Sem.run_bind, hg3, Result.andThen_ok, loopRec, Sem.run_pure, hb] at h5 ⊢
        simp only [Bool.false_eq_true, if_false, Sem.run_pure, Sem.run_bind, Result.andThen_ok]
        rw [h5]
        rfl
      have sm0 : Same w W1 := by
        have s1 := same_push w (.deferred (some [])) trivial
        have s2 := same_push { w with heap := w.heap.push (.deferred (some [])) } (loopRec ρ .ready .normal) trivial
        exact s1.trans s2
      have sm3 := same_set w3 (o' := loopRec ρ .exhausted e) hr (fun c t f h => by cases h) (fun c t f h => by cases h)
      have gd : Good n ((w.heap.size :: ms).map markD) env { a with defers := [markD w.heap.size] ++ a.defers } := ⟨g.agree, g.size, by simp [g.defers]⟩
      have fin := hQ e env _ { w3 with heap := w3.heap.setIfInBounds (w.heap.size + 1) (loopRec ρ .exhausted e) } _ gd (hk _ rfl) ((sm0.trans hs).trans sm3)
      refine ⟨_, _, hend, ?_⟩
      cases e with
      | normal => exact fin
      | ret => exact wpIn_ret fin
      | exit id => exact wpIn_exit fin
      | goto t => exact wpIn_goto fin
  | _ => 
    intro env a w ms QH Q g H hQ
    first
      | exact plainC _ g H hQ
      | (rename_i ih; simp only [vcM] at H; split at H; exact H.elim; exact plainC _ g H hQ)
      | (simp only [vcM] at H; revert H; cases hrf : hasRF _ <;> intro H <;> first | exact plainC _ g H hQ | exact H.elim)

theorem shutE_sound {fn : Func} {tmps : Array Value} {R : Ending → World → Prop} {m : Nat} {w0 : World} {k : Heap → Prop} (hk : ∀ w, k w.heap → Same w0 w → LeavesIn Fence.wide m P fn tmps R [] .returning w) :
    ∀ {ms : List Nat} {w : World}, shutE ms w.heap k → Same w0 w → LeavesInM Fence.wide m P fn tmps R (ms.map markD) .returning w
  | [], w, H, hs => hk w H hs
  | r :: ms, w, H, hs => by
    obtain ⟨hr, H⟩ := H
    have hg := getObj_run (P := P) hr (fun c t f h => by cases h)
    have h5 := setObj_run (P := P) (o' := .deferred none) hr (fun c t f h => by cases h)
    have ht : (Instr.takeDeferred r).run P w = .ok [] { w with heap := w.heap.setIfInBounds r (.deferred none) } := by
      simp only [Instr.takeDeferred, Sem.run_bind, hg, Result.andThen_ok, h5, Sem.run_pure]
    have sm := same_set w (o' := .deferred none) hr (fun c t f h => by cases h) (fun c t f h => by cases h)
    exact ⟨by simp, .inl ⟨r, _, rfl, ht, shutE_sound hk (w := { w with heap := w.heap.setIfInBounds r (.deferred none) }) (H _ rfl) (hs.trans sm)⟩⟩

theorem HC.of_vcM {f : FuncId} {fn : Func} {args : List Value} {h : Heap} {R : Value → Heap → Prop} (hf : P.funcs[f]? = some fn)
    (he : ∀ (as : Array Value) (w : World), (callFunc f as).run P w = .ok (.enter f as) w) (hm : P.follows .mixedOrders = true) {qs : List Nat} (H : vcFM P qs fn args h R) : HC P f args.toArray h R := by
  refine ⟨he, fun w hw => ?_⟩
  subst hw
  unfold vcFM at H
  split at H
  · exact H.elim
  rename_i c hb
  cases hle : Nat.ble args.length fn.ntmps with
  | false => rw [hle] at H; exact H.elim
  | true =>
    rw [hle] at H
    have hle := Nat.le_of_ble_eq_true hle
    refine (callsIn_wide (n := 0)).1 (callsIn_of_wp_marks hf hb trivial ?_)
    have g : Good fn.ntmps (([] : List Nat).map markD) (argEnv 0 args) { tmps := args.toArray ++ Array.replicate (fn.ntmps - args.toArray.size) undef, defers := [] } := by
      refine ⟨fun t v hv => ?_, by simp; omega, rfl⟩
      obtain ⟨_, h2⟩ := getE_argEnv hv
      rw [Nat.sub_zero] at h2
      have hlt : t < args.length := (List.getElem?_eq_some_iff.1 h2).1
      rw [Array.getElem?_append_left (by simpa using hlt)]
      simpa using h2
    refine vcM_sound hm c g H fun e env' a' w' ms' g' hk hs => ?_
    have fin : shutE ms' w'.heap (fun h'' => vcRes P env' h'' fn.results.toList (fun vs => R (retV vs) h'')) → LeavesInM Fence.wide 0 P fn a'.tmps (fun e w'' => ∃ v, e = .returned v ∧ R v w''.heap ∧ Same w w'') a'.defers .returning w' := fun hk => by
      rw [g'.defers]
      refine shutE_sound (w0 := w) (fun w2 hk2 hs2 => ?_) hk hs
      have g2 : Good fn.ntmps a'.defers env' a' := ⟨g'.agree, g'.size, rfl⟩
      obtain ⟨vs, hr, hR⟩ := vcRes_sound (w := w2) g2 hk2
      exact ⟨retV vs, results_run hr, _, rfl, hR, hs2⟩
    cases e with
    | normal => exact fin hk
    | ret => exact fin hk
    | exit id => exact hk.elim
    | goto l => exact hk.elim

theorem HC.of_eqM {F : Prop} {f : FuncId} {fn : Func} {args : List Value} {h : Heap} {R : Value → Heap → Prop} (hf : P.funcs[f]? = some fn)
    (hn : (fn.name == "runtime.NumGoroutine") = false) (hb : fn.body.isNone = false) (hm : P.follows .mixedOrders = true) {qs : List Nat} (e : F = vcFM P qs fn args h R) (H : F) : HC P f args.toArray h R :=
  HC.of_vcM hf (enter_of hf hn hb) hm (qs := qs) (e ▸ H)
end
end Go.Hv

/- Heaps: what is read where, what a write leaves alone. -/
namespace Go.Hv

theorem oE_some {α : Type} {x : α} {k0 : Prop} {k : α → Prop} : optE (some x) k0 k = k x := rfl
theorem oE_none {α : Type} {k0 : Prop} {k : α → Prop} : optE (none : Option α) k0 k = k0 := rfl

theorem add_add (b o n : Nat) : Addr.add ⟨b, o, none⟩ n = ⟨b, o + n, none⟩ := by unfold Addr.add; split <;> simp_all

/-! ### Reading -/
theorem cellH_of {h : Heap} {b o : Nat} {cs : Array Value} {T : TypeId} {q : Nat × Nat} (hb : h[b]? = some (.cells cs T q)) : cellH h ⟨b, o, none⟩ = cs[o]? := by
  simp [cellH, hb]

theorem StOK_of {h : Heap} {b o n : Nat} {cs : Array Value} {T : TypeId} (hb : h[b]? = some (.cells cs T (0, 0))) (hn : o + n ≤ cs.size) : StOK h ⟨b, o, none⟩ n :=
  ⟨⟨cs, T, hb, hn, rfl⟩⟩

/-! ### Writing -/
theorem size_putH (h : Heap) (p : Addr) (v : Value) : (putH h p v).size = h.size := by simp [putH]

theorem get_putH_ne {h : Heap} {p : Addr} {v : Value} {k : Nat} (hk : k ≠ p.block) : (putH h p v)[k]? = h[k]? := by
  unfold putH
  rw [Array.getElem?_modify]
  rw [if_neg (fun e => hk e.symm)]

theorem get_putH_eq {h : Heap} {b o : Nat} {cs : Array Value} {T : TypeId} {q : Nat × Nat} {v : Value} (hb : h[b]? = some (.cells cs T q)) :
    (putH h ⟨b, o, none⟩ v)[b]? = some (.cells (cs.setIfInBounds o v) T q) := by
  unfold putH
  rw [Array.getElem?_modify]
  simp [hb]

theorem size_putsH : ∀ (h : Heap) (p : Addr) (vs : List Value) (i : Nat), (putsH h p vs i).size = h.size
  | h, p, [], i => rfl
  | h, p, v :: r, i => by simp only [putsH]; rw [size_putsH, size_putH]

theorem add_block (p : Addr) (i : Nat) : (p.add i).block = p.block := by unfold Addr.add; split <;> rfl

theorem get_putsH_ne : ∀ {h : Heap} {p : Addr} {vs : List Value} {i k : Nat}, k ≠ p.block → (putsH h p vs i)[k]? = h[k]?
  | h, p, [], i, k, hk => rfl
  | h, p, v :: r, i, k, hk => by simp only [putsH]; rw [get_putsH_ne hk, get_putH_ne (by rw [add_block]; exact hk)]

/-- cells written one behind the other -/
def setsA (cs : Array Value) (o : Nat) : List Value → Nat → Array Value
  | [], _ => cs
  | v :: r, i => setsA (cs.setIfInBounds (o + i) v) o r (i + 1)

theorem get_putsH_eq : ∀ {h : Heap} {b o : Nat} {cs : Array Value} {T : TypeId} {q : Nat × Nat} {vs : List Value} {i : Nat}, h[b]? = some (.cells cs T q) →
    (putsH h ⟨b, o, none⟩ vs i)[b]? = some (.cells (setsA cs o vs i) T q)
  | h, b, o, cs, T, q, [], i, hb => hb
  | h, b, o, cs, T, q, v :: r, i, hb => by
    simp only [putsH, setsA, add_add]
    exact get_putsH_eq (get_putH_eq hb)

theorem size_setsA : ∀ (cs : Array Value) (o : Nat) (vs : List Value) (i : Nat), (setsA cs o vs i).size = cs.size
  | cs, o, [], i => rfl
  | cs, o, v :: r, i => by simp only [setsA]; rw [size_setsA]; simp

theorem get_setsA : ∀ {cs : Array Value} {o : Nat} {vs : List Value} {i k : Nat}, o + i + vs.length ≤ cs.size →
    (setsA cs o vs i)[k]? = if o + i ≤ k ∧ k < o + i + vs.length then vs[k - (o + i)]? else cs[k]?
  | cs, o, [], i, k, h => by simp [setsA]; omega
  | cs, o, v :: r, i, k, h => by
    simp only [List.length_cons] at h
    simp only [setsA]
    rw [get_setsA (by simp; omega)]
    simp only [List.length_cons]
    by_cases h1 : o + (i + 1) ≤ k ∧ k < o + (i + 1) + r.length
    · rw [if_pos h1, if_pos (by omega)]
      rw [show k - (o + i) = (k - (o + (i + 1))) + 1 by omega, List.getElem?_cons_succ]
    · rw [if_neg h1]
      by_cases h2 : k = o + i
      · subst h2
        rw [if_pos (by omega)]
        rw [Array.getElem?_setIfInBounds_self_of_lt (by omega)]
        simp
      · rw [if_neg (by omega), Array.getElem?_setIfInBounds_ne (by omega)]

/-! ### A new block -/
theorem get_push_old {h : Heap} {x : Obj} {k : Nat} (hk : k < h.size) : (h.push x)[k]? = h[k]? := by
  rw [Array.getElem?_push]; rw [if_neg (by omega)]

theorem get_push_new {h : Heap} {x : Obj} : (h.push x)[h.size]? = some x := by simp

theorem putH_push {h : Heap} {cs : Array Value} {T : TypeId} {q : Nat × Nat} {o : Nat} {v : Value} :
    putH (h.push (.cells cs T q)) ⟨h.size, o, none⟩ v = h.push (.cells (cs.setIfInBounds o v) T q) := by
  apply Array.ext_getElem?
  intro k
  by_cases hk : k = h.size
  · subst hk
    rw [get_putH_eq get_push_new, get_push_new]
  · rw [get_putH_ne (by exact hk)]
    rw [Array.getElem?_push, Array.getElem?_push, if_neg hk, if_neg hk]

theorem putsH_push : ∀ {h : Heap} {cs : Array Value} {T : TypeId} {q : Nat × Nat} {o : Nat} {vs : List Value} {i : Nat},
    putsH (h.push (.cells cs T q)) ⟨h.size, o, none⟩ vs i = h.push (.cells (setsA cs o vs i) T q)
  | h, cs, T, q, o, [], i => rfl
  | h, cs, T, q, o, v :: r, i => by
    simp only [putsH, setsA, add_add]
    rw [putH_push, putsH_push]

theorem cellH_push {h : Heap} {cs : Array Value} {T : TypeId} {q : Nat × Nat} {o : Nat} : cellH (h.push (.cells cs T q)) ⟨h.size, o, none⟩ = cs[o]? := cellH_of get_push_new

theorem StOK_push {h : Heap} {cs : Array Value} {T : TypeId} {o n : Nat} (hn : o + n ≤ cs.size) : StOK (h.push (.cells cs T (0, 0))) ⟨h.size, o, none⟩ n := StOK_of get_push_new hn

/-! ### What is left alone -/
/-- nothing but the blocks of F, and new ones -/
structure Fr (F : List Nat) (h h' : Heap) : Prop where
  size : h.size ≤ h'.size
  same : ∀ k, k < h.size → k ∉ F → h'[k]? = h[k]?

theorem Fr.refl (F : List Nat) (h : Heap) : Fr F h h := ⟨Nat.le_refl _, fun _ _ _ => rfl⟩
theorem Fr.trans {F G : List Nat} {a b c : Heap} (x : Fr F a b) (y : Fr G b c) (hg : ∀ k ∈ G, k ∈ F ∨ a.size ≤ k) : Fr F a c :=
  ⟨Nat.le_trans x.size y.size, fun k hk hf => by
    rw [y.same k (Nat.lt_of_lt_of_le hk x.size) (fun hm => (hg k hm).elim hf (fun h => by omega)), x.same k hk hf]⟩
theorem Fr.trans' {F : List Nat} {a b c : Heap} (x : Fr F a b) (y : Fr F b c) : Fr F a c := x.trans y fun _ h => .inl h
theorem Fr.mono {F G : List Nat} {a b : Heap} (x : Fr F a b) (hg : ∀ k ∈ F, k ∈ G ∨ a.size ≤ k) : Fr G a b :=
  ⟨x.size, fun k hk hf => x.same k hk fun hm => (hg k hm).elim hf (fun h => by omega)⟩
theorem Fr.push (F : List Nat) (h : Heap) (x : Obj) : Fr F h (h.push x) := ⟨by simp, fun k hk _ => get_push_old hk⟩
theorem Fr.put {F : List Nat} {h : Heap} {p : Addr} {v : Value} (hp : p.block ∈ F ∨ h.size ≤ p.block) : Fr F h (putH h p v) :=
  ⟨by rw [size_putH]; exact Nat.le_refl _, fun k hk hf => get_putH_ne fun e => by subst e; exact hp.elim hf (fun h => by omega)⟩
theorem Fr.puts {F : List Nat} {h : Heap} {p : Addr} {vs : List Value} {i : Nat} (hp : p.block ∈ F ∨ h.size ≤ p.block) : Fr F h (putsH h p vs i) :=
  ⟨by rw [size_putsH]; exact Nat.le_refl _, fun k hk hf => get_putsH_ne fun e => by subst e; exact hp.elim hf (fun h => by omega)⟩
theorem Fr.set {F : List Nat} {h : Heap} {b : Nat} {x : Obj} (hp : b ∈ F ∨ h.size ≤ b) : Fr F h (h.setIfInBounds b x) :=
  ⟨by simp, fun k hk hf => Array.getElem?_setIfInBounds_ne fun e => by subst e; exact hp.elim hf (fun h => by omega)⟩

theorem lt_of_get {h : Heap} {k : Nat} {x : Obj} (hk : h[k]? = some x) : k < h.size := (Array.getElem?_eq_some_iff.1 hk).1
theorem Fr.get {F : List Nat} {h h' : Heap} (x : Fr F h h') {k : Nat} {o : Obj} (hk : h[k]? = some o) (hf : k ∉ F) : h'[k]? = some o := by
  rw [x.same k (lt_of_get hk) hf]; exact hk

/-! ### A slice of numbers -/
structure SlI (h : Heap) (s : Sl) (k : IntKind) (l : List Int) : Prop where
  len : s.n = l.length
  nil : s.a = none → l = []
  get : ∀ p, s.a = some p → p.spot = none ∧ ∃ cs T q, h[p.block]? = some (.cells cs T q) ∧ p.off + l.length ≤ cs.size ∧ ∀ i, i < l.length → cs[p.off + i]? = (l[i]?).map (Value.int k)

/-- the blocks of a slice -/
def Sl.blk (s : Sl) : List Nat := match s.a with | some p => [p.block] | none => []

theorem SlI.lt {h : Heap} {s : Sl} {k : IntKind} {l : List Int} (H : SlI h s k l) : ∀ b ∈ s.blk, b < h.size := by
  intro b hb
  unfold Sl.blk at hb
  cases hs : s.a with
  | none => rw [hs] at hb; simp at hb
  | some p =>
    rw [hs] at hb
    obtain ⟨_, cs, T, q, h1, _⟩ := H.get p hs
    simp at hb
    subst hb
    exact lt_of_get h1

theorem SlI.fr {F : List Nat} {h h' : Heap} {s : Sl} {k : IntKind} {l : List Int} (H : SlI h s k l) (x : Fr F h h') (hF : ∀ b ∈ s.blk, b ∉ F) : SlI h' s k l :=
  ⟨H.len, H.nil, fun p hp => by
    obtain ⟨h0, cs, T, q, h1, h2, h3⟩ := H.get p hp
    exact ⟨h0, cs, T, q, x.get h1 (hF _ (by simp [Sl.blk, hp])), h2, h3⟩⟩

theorem SlI.cell {h : Heap} {s : Sl} {k : IntKind} {l : List Int} (H : SlI h s k l) {p : Addr} (hp : s.a = some p) {i : Nat} {z : Int} (hi : l[i]? = some z) :
    cellH h (p.add i) = some (.int k z) := by
  obtain ⟨h0, cs, T, q, h1, h2, h3⟩ := H.get p hp
  have hlt : i < l.length := (List.getElem?_eq_some_iff.1 hi).1
  have := h3 i hlt
  rw [hi] at this
  obtain ⟨b, o, sp⟩ := p
  simp only at h0
  subst h0
  rw [add_add, cellH_of h1]
  exact this

theorem SlI.addr {h : Heap} {s : Sl} {k : IntKind} {l : List Int} (H : SlI h s k l) {i : Nat} (hi : i < l.length) : ∃ p, s.a = some p := by
  cases hs : s.a with
  | none => have := H.nil hs; subst this; simp at hi
  | some p => exact ⟨p, rfl⟩

theorem SlI.cells {h : Heap} {s : Sl} {k : IntKind} {l : List Int} (H : SlI h s k l) : cellsOpt h s.a s.n = Option.some (l.map (Value.int k)) := by
  cases hs : s.a with
  | none =>
    have := H.nil hs
    subst this
    rfl
  | some p =>
    obtain ⟨h0, cs, T, q, h1, h2, h3⟩ := H.get p hs
    simp only [cellsOpt, cellsH, h1, h0, H.len, h2, if_true]
    simp only [Option.isSome_none, Bool.false_eq_true, if_false, Option.some.injEq]
    apply List.ext_getElem?
    intro i
    rw [List.getElem?_take, List.getElem?_drop, List.getElem?_map]
    split
    · rename_i hi
      have := h3 i hi
      rw [← this]
      simp
    · rename_i hi
      rw [List.getElem?_eq_none (by omega)]
      rfl
end Go.Hv

/- Numbers: words, references, small numbers. Plain Lean; no program in sight. -/
namespace Go.Hv

theorem wrap_i64 {z : Int} (h0 : -9223372036854775808 ≤ z) (h1 : z ≤ 9223372036854775807) : IntKind.i64.wrap z = z := by
  simp [IntKind.wrap, IntKind.bits, IntKind.signed]
  split <;> omega

theorem wrap_u8 (z : Int) : IntKind.u8.wrap z = z % 256 := by
  simp [IntKind.wrap, IntKind.bits, IntKind.signed]

theorem andI_mask (x : Int) (n : Nat) (hn : n ≤ 62) : andI .i64 x ((2 ^ n - 1 : Nat) : Int) = x % ((2 ^ n : Nat) : Int) := by
  unfold andI
  have h62 : 2 ^ n ≤ 2 ^ 62 := Nat.pow_le_pow_right (by omega) hn
  have hpos : 0 < 2 ^ n := Nat.pos_of_ne_zero (by simp)
  rw [BitVec.toNat_and, BitVec.toNat_ofInt, BitVec.toNat_ofInt]
  have e1 : (((2 ^ n - 1 : Nat) : Int) % ((2 ^ IntKind.i64.bits : Nat) : Int)).toNat = 2 ^ n - 1 := by
    rw [Int.emod_eq_of_lt (by omega) (by simp only [IntKind.bits]; omega)]
    simp
  rw [e1, Nat.and_two_pow_sub_one_eq_mod]
  have e2 : (((x % ((2 ^ IntKind.i64.bits : Nat) : Int)).toNat % 2 ^ n : Nat) : Int) = x % ((2 ^ n : Nat) : Int) := by
    rw [Int.natCast_emod, Int.toNat_of_nonneg (Int.emod_nonneg _ (by simp [IntKind.bits]))]
    apply Int.emod_emod_of_dvd
    exact Int.natCast_dvd_natCast.2 (Nat.pow_dvd_pow 2 (by simp only [IntKind.bits]; omega))
  rw [e2]
  have h3 : 0 ≤ x % ((2 ^ n : Nat) : Int) := Int.emod_nonneg _ (by omega)
  have h4 : x % ((2 ^ n : Nat) : Int) < ((2 ^ n : Nat) : Int) := Int.emod_lt_of_pos _ (by omega)
  exact wrap_i64 (by omega) (by omega)

theorem andI_1 (x : Int) : andI .i64 x 1 = x % 2 := andI_mask x 1 (by omega)
theorem andI_3 (x : Int) : andI .i64 x 3 = x % 4 := andI_mask x 2 (by omega)
theorem andI_255 (x : Int) : andI .i64 x 255 = x % 256 := andI_mask x 8 (by omega)

/-! ### References -/
/-- a small number's reference -/
def numB (o : Int) : Bool := o % 2 == 1 && (decide (-1073741824 ≤ o / 2) && decide (o / 2 ≤ 1073741823))
def numV (o : Int) : Int := if numB o then o / 2 else 0
/-- an object's reference -/
def namB (o : Int) : Bool := o % 2 == 0 && (decide (0 < o) && decide (o < 2147483648))
def namV (o : Int) : Int := if namB o then o / 2 else 0
def refB (o : Int) : Bool := numB o || namB o
def oopV (id : Int) : Int := if id < 1 ∨ 1073741824 ≤ id then 0 else 2 * id
def smallOK (n : Int) : Bool := decide (-1073741824 ≤ n) && decide (n ≤ 1073741823)
def smallV (n : Int) : Int := if smallOK n then 2 * n + 1 else 0
def smallE (n : Int) : Int := if smallOK n then 0 else 2
end Go.Hv
