/- A part of a proof: the text that states the row tells what is proved. No condition is laid on anything. -/
import Derived.Test.YtgcncpedpjjjeaaAbs23
set_option linter.all false
set_option linter.constructorNameAsVariable false
set_option linter.defProp false
set_option linter.unusedVariables false
set_option linter.unusedSimpArgs false
namespace Go.Proofs.Abs
open Go Go.RowKit

/-! ### What a run comes to: with fuel enough -/
def Evn (p : Nat → Prop) : Prop := ∃ N, ∀ n, N ≤ n → p n
theorem Evn.and {p q : Nat → Prop} (h : Evn p) (k : Evn q) : Evn fun n => p n ∧ q n := by
  obtain ⟨N, h⟩ := h
  obtain ⟨M, k⟩ := k
  exact ⟨N + M, fun n hn => ⟨h n (by omega), k n (by omega)⟩⟩
theorem Evn.mono {p q : Nat → Prop} (h : Evn p) (k : ∀ n, p n → q n) : Evn q := by
  obtain ⟨N, h⟩ := h
  exact ⟨N, fun n hn => k n (h n hn)⟩
theorem Evn.of {p : Nat → Prop} (h : ∀ n, p n) : Evn p := ⟨0, fun n _ => h n⟩
theorem Evn.succ {p : Nat → Prop} (h : Evn fun n => p (n + 1)) : Evn p := by
  obtain ⟨N, h⟩ := h
  refine ⟨N + 1, fun n hn => ?_⟩
  cases n with
  | zero => omega
  | succ n => exact h n (by omega)
theorem Evn.get {p : Nat → Prop} (h : Evn p) : ∃ n, p n := by
  obtain ⟨N, h⟩ := h
  exact ⟨N, h N (Nat.le_refl _)⟩

/-- A value that there is. What stands behind it is not looked into before it is there. -/
def ob {α : Type} (o : Option α) (K : α → Prop) : Prop := ∃ a, o = some a ∧ K a
theorem ob_some {α : Type} (a : α) (K : α → Prop) : ob (some a) K = K a := by simp [ob]
theorem ob_none {α : Type} (K : α → Prop) : ob none K = False := by simp [ob]
@[congr] theorem ob_congr {α : Type} {o o' : Option α} {K : α → Prop} (h : o = o') : ob o K = ob o' K := by rw [h]
def bb (b : Bool) (A B : Prop) : Prop := if b = true then A else B
theorem bb_true (A B : Prop) : bb true A B = A := by simp [bb]
theorem bb_false (A B : Prop) : bb false A B = B := by simp [bb]
@[congr] theorem bb_congr {b b' : Bool} {A B : Prop} (h : b = b') : bb b A B = bb b' A B := by rw [h]
def cb (v : AV) (A B : Prop) : Prop := match v with
  | .bool b => bb b A B
  | _ => False
theorem cb_bool (b : Bool) (A B : Prop) : cb (.bool b) A B = bb b A B := rfl
@[congr] theorem cb_congr {b b' : AV} {A B : Prop} (h : b = b') : cb b A B = cb b' A B := by rw [h]
/-- Behind the first of two codes. -/
def sq (x : AExit) (A B : Prop) : Prop := match x with
  | .normal => A
  | _ => B
theorem sq_normal (A B : Prop) : sq .normal A B = A := rfl
theorem sq_exit (i : Nat) (A B : Prop) : sq (.exit i) A B = B := rfl
theorem sq_ret (A B : Prop) : sq .ret A B = B := rfl
@[congr] theorem sq_congr {b b' : AExit} {A B : Prop} (h : b = b') : sq b A B = sq b' A B := by rw [h]
/-- Behind a block. -/
def bk (x : AExit) (id : Nat) (A B : Prop) : Prop := match x with
  | .exit i => if i = id then A else B
  | _ => B
theorem bk_normal (id : Nat) (A B : Prop) : bk .normal id A B = B := rfl
theorem bk_ret (id : Nat) (A B : Prop) : bk .ret id A B = B := rfl
theorem bk_here (id : Nat) (A B : Prop) : bk (.exit id) id A B = A := by simp [bk]
theorem bk_there {i id : Nat} (h : (i == id) = false) (A B : Prop) : bk (.exit i) id A B = B := by simp at h; simp [bk, h]
@[congr] theorem bk_congr {b b' : AExit} {id : Nat} {A B : Prop} (h : b = b') : bk b id A B = bk b' id A B := by rw [h]

def cwp (ft : FT) (f : Nat) (q : Id) (l : List AV) (H : Heap) (K : AV → Heap → Prop) : Prop := ∃ r H', Evn (fun n => acall ft n f q l H = some (r, H')) ∧ K r H'
@[congr] theorem cwp_congr {ft : FT} {f : Nat} {q q' : Id} {l l' : List AV} {H H' : Heap} {K : AV → Heap → Prop} (h1 : q = q') (h2 : l = l') (h3 : H = H') : cwp ft f q l H K = cwp ft f q' l' H' K := by rw [h1, h2, h3]

def fb (v : AV) (K : Nat → List AV → Prop) : Prop := match v with
  | .func f caps => f < 100000 ∧ K f caps
  | _ => False
theorem fb_func (f : Nat) (caps : List AV) (K : Nat → List AV → Prop) : fb (.func f caps) K = (f < 100000 ∧ K f caps) := rfl
@[congr] theorem fb_congr {v v' : AV} {K : Nat → List AV → Prop} (h : v = v') : fb v K = fb v' K := by rw [h]

def iwp (ft : FT) (i : AIns) (s : St) (K : AV → St → Prop) : Prop :=
  match i with
  | .call f args => ob (argsOf s.env s.heap args) fun x => cwp ft f (s.p ++ [s.k]) (x.1 ++ []) x.2 fun r H => K r { s with heap := H, k := s.k + 1 }
  | .callv x args => fb (x.ev s.env) fun f caps => ob (argsOf s.env s.heap args) fun x => cwp ft f (s.p ++ [s.k]) (x.1 ++ caps) x.2 fun r H => K r { s with heap := H, k := s.k + 1 }
  | i => ob (ains i s) fun r => K r.1 r.2

def rwp (ft : FT) : List AIn → Nat → St → (St → Prop) → Prop
  | [], k, s, Q => Q { s with k := k }
  | i :: r, k, s, Q => ob (wanted s.env i.g) fun b => bb b
      (iwp ft i.i { s with k := k } fun v s' => rwp ft r (k + 1) { s' with env := putd s'.env i.d v } Q)
      (rwp ft r (k + 1) { s with env := putd s.env i.d (.tuple []) } Q)
@[congr] theorem rwp_congr {ft : FT} {is : List AIn} {k : Nat} {s s' : St} {Q : St → Prop} (h : s = s') : rwp ft is k s Q = rwp ft is k s' Q := by rw [h]

def dnext (c : Cl) (v : AV) (s s' : St) : Option (Cl × AV × St) :=
  match c with
  | .n o => if (hget s.heap (s.p ++ [s.k])).isNone then some (.n o, v, { s with heap := hins s.heap (s.p ++ [s.k]) o }) else none
  | .c => if beqH s'.heap s.heap then some (.c, v, { s with heap := s.heap }) else some (.x, v, s')
  | c => some (c, v, s')
def dwp (ft : FT) : List AIn → Nat → St → List Rec → (St → Prop) → Prop
  | [], k, s, l, Q => bb (apart 0 l) (Q { s with k := k }) False
  | i :: r, k, s, l, Q => ob (wanted s.env i.g) fun b => bb b
      (iwp ft i.i { s with k := k } fun v s' => ob (dnext (clsOf i.i s.env) v { s with k := k } s') fun y => dwp ft r (k + 1) { y.2.2 with env := putd y.2.2.env i.d y.2.1 } (l ++ [⟨y.1, i.pre, s.p ++ [k]⟩]) Q)
      (dwp ft r (k + 1) { s with env := putd s.env i.d (.tuple []), k := k } (l ++ [⟨.l, i.pre, s.p ++ [k]⟩]) Q)
@[congr] theorem dwp_congr {ft : FT} {is : List AIn} {k : Nat} {s s' : St} {l l' : List Rec} {Q : St → Prop} (h : s = s') (h2 : l = l') : dwp ft is k s l Q = dwp ft is k s' l' Q := by rw [h, h2]

def lwp (ft : FT) (mg : Bool) (c : ACode) (s : St) (Q : AExit → St → Prop) : Prop :=
  ∃ x e H, Evn (fun n => around (aexec ft n) c (s.p ++ [s.k]) (slots s.env) mg n 0 s.env s.heap = some (x, e, H)) ∧ Q x { env := e, heap := H, p := s.p, k := s.k + 1 }
@[congr] theorem lwp_congr {ft : FT} {mg : Bool} {c : ACode} {s s' : St} {Q : AExit → St → Prop} (h : s = s') : lwp ft mg c s Q = lwp ft mg c s' Q := by rw [h]

def awp (ft : FT) : ACode → (AExit → St → Prop) → St → Prop
  | .skip, Q, s => Q .normal s
  | .reg is drop, Q, s => rwp ft is s.k s fun s' => Q .normal { s' with env := edrop s'.env drop }
  | .dreg is drop, Q, s => dwp ft is s.k s [] fun s' => Q .normal { s' with env := edrop s'.env drop }
  | .seq a b, Q, s => awp ft a (fun x s' => sq x (awp ft b Q s') (Q x s')) s
  | .cond c drop a b, Q, s => cb (c.ev s.env) (awp ft a Q { s with env := edrop s.env drop }) (awp ft b Q { s with env := edrop s.env drop })
  | .block id c, Q, s => awp ft c (fun x s' => bk x id (Q .normal { s' with env := ekeep s'.env (slots s.env) }) (Q x s')) s
  | .loop mg c, Q, s => lwp ft mg c s Q
  | .exit id, Q, s => Q (.exit id) s
  | .ret, Q, s => Q .ret s
@[congr] theorem awp_congr {ft : FT} {c : ACode} {s s' : St} {Q : AExit → St → Prop} (h : s = s') : awp ft c Q s = awp ft c Q s' := by rw [h]

section
variable {ft : FT}
theorem iwp_sound {i : AIns} {s : St} {K : AV → St → Prop} (h : iwp ft i s K) : ∃ v s', Evn (fun n => astep (acall ft n) i s = some (v, s')) ∧ K v s' := by
  have pure : ∀ i, (∀ n, astep (acall ft n) i s = ains i s) → (ob (ains i s) fun r => K r.1 r.2) → ∃ v s', Evn (fun n => astep (acall ft n) i s = some (v, s')) ∧ K v s' := by
    rintro i hi ⟨⟨v, s'⟩, e, hK⟩
    exact ⟨v, s', .of fun n => by rw [hi, e], hK⟩
  cases i
  case call f args =>
    obtain ⟨⟨l, H⟩, e, r, H', hc, hK⟩ := h
    refine ⟨r, _, hc.mono fun n hn => ?_, hK⟩
    simp only [List.append_nil] at hn
    simp only [astep, acallIns, e, List.append_nil, hn]
  case callv x args =>
    unfold iwp fb at h
    simp only at h
    split at h
    · rename_i f caps ex
      obtain ⟨hf, ⟨l, H⟩, e, r, H', hc, hK⟩ := h
      refine ⟨r, _, hc.mono fun n hn => ?_, hK⟩
      simp only [astep, ex, hf, if_true, acallIns, e, hn]
    · exact h.elim
  all_goals exact pure _ (fun n => rfl) h

theorem rwp_sound : ∀ (is : List AIn) (k : Nat) (s : St) (Q : St → Prop), rwp ft is k s Q → ∃ s', Evn (fun n => aregion (acall ft n) is k s = some s') ∧ Q s'
  | [], k, s, Q, h => ⟨_, .of fun n => rfl, h⟩
  | i :: r, k, s, Q, h => by
    obtain ⟨b, hb, h⟩ := h
    cases b with
    | true =>
      simp only [bb_true] at h
      obtain ⟨v, s1, e1, h1⟩ := iwp_sound h
      obtain ⟨s2, e2, h2⟩ := rwp_sound r _ _ _ h1
      refine ⟨s2, (e1.and e2).mono fun n hn => ?_, h2⟩
      simp only [aregion, hb, hn.1, hn.2]
    | false =>
      simp only [bb_false] at h
      obtain ⟨s2, e2, h2⟩ := rwp_sound r _ _ _ h
      refine ⟨s2, e2.mono fun n hn => ?_, h2⟩
      simp only [aregion, hb, hn]

theorem adstep_next {call : CallF} {i : AIn} {s s1 s2 : St} {v v2 : AV} {c : Cl} (hw : wanted s.env i.g = some true) (h1 : astep call i.i s = some (v, s1)) (h2 : dnext (clsOf i.i s.env) v s s1 = some (c, v2, s2)) : adstep call i s = some (c, v2, s2) := by
  unfold adstep dnext at *
  rw [hw]
  simp only
  rw [h1]
  simp only
  cases hc : clsOf i.i s.env <;> simp only [hc] at h2 ⊢ <;> exact h2

theorem dwp_sound : ∀ (is : List AIn) (k : Nat) (s : St) (l : List Rec) (Q : St → Prop), dwp ft is k s l Q → ∃ s' l', Evn (fun n => adrun (acall ft n) is k s = some (s', l')) ∧ apart 0 (l ++ l') = true ∧ Q s'
  | [], k, s, l, Q, h => by
    unfold dwp bb at h
    split at h
    · rename_i ha
      exact ⟨_, [], .of fun n => rfl, by simpa using ha, h⟩
    · exact h.elim
  | i :: r, k, s, l, Q, h => by
    obtain ⟨b, hb, h⟩ := h
    cases b with
    | true =>
      simp only [bb_true] at h
      obtain ⟨v, s1, e1, ⟨c, v2, s2⟩, hd, h1⟩ := iwp_sound h
      obtain ⟨s3, l3, e3, ha, h3⟩ := dwp_sound r _ _ _ _ h1
      refine ⟨s3, ⟨c, i.pre, s.p ++ [k]⟩ :: l3, (e1.and e3).mono fun n hn => ?_, by simpa using ha, h3⟩
      have := adstep_next (s := { s with k := k }) hb hn.1 hd
      simp only [adrun, this, hn.2]
    | false =>
      simp only [bb_false] at h
      obtain ⟨s3, l3, e3, ha, h3⟩ := dwp_sound r _ _ _ _ h
      refine ⟨s3, ⟨.l, i.pre, s.p ++ [k]⟩ :: l3, e3.mono fun n hn => ?_, by simpa using ha, h3⟩
      have e4 : adstep (acall ft n) i { s with k := k } = some (.l, .tuple [], { s with k := k }) := by simp only [adstep, hb]
      simp only [adrun, e4, hn]

theorem awp_sound : ∀ (c : ACode) (Q : AExit → St → Prop) (s : St), awp ft c Q s → ∃ x s', Evn (fun n => aexec ft n c s = some (x, s')) ∧ Q x s'
  | .skip, Q, s, h => ⟨_, _, .succ (.of fun n => by simp only [aexec]), h⟩
  | .reg is drop, Q, s, h => by
    obtain ⟨s1, e1, h1⟩ := rwp_sound is s.k s _ h
    exact ⟨_, _, .succ (e1.mono fun n hn => by simp only [aexec, hn]), h1⟩
  | .dreg is drop, Q, s, h => by
    obtain ⟨s1, l1, e1, ha, h1⟩ := dwp_sound is s.k s [] _ h
    have ha' : apart 0 l1 = true := by simpa using ha
    exact ⟨_, _, .succ (e1.mono fun n hn => by simp only [aexec, adreg, hn, ha', if_true]), h1⟩
  | .seq a b, Q, s, h => by
    obtain ⟨x, s1, e1, h1⟩ := awp_sound a _ s h
    cases x with
    | normal =>
      obtain ⟨y, s2, e2, h2⟩ := awp_sound b _ s1 h1
      exact ⟨y, s2, .succ ((e1.and e2).mono fun n hn => by simp only [aexec, hn.1, hn.2]), h2⟩
    | exit i => exact ⟨_, s1, .succ (e1.mono fun n hn => by simp only [aexec, hn]), h1⟩
    | ret => exact ⟨_, s1, .succ (e1.mono fun n hn => by simp only [aexec, hn]), h1⟩
  | .cond c drop a b, Q, s, h => by
    unfold awp cb at h
    split at h
    · rename_i t et
      cases t with
      | true =>
        simp only [bb_true] at h
        obtain ⟨x, s1, e1, h1⟩ := awp_sound a _ _ h
        exact ⟨x, s1, .succ (e1.mono fun n hn => by simp only [aexec, et, if_true, hn]), h1⟩
      | false =>
        simp only [bb_false] at h
        obtain ⟨x, s1, e1, h1⟩ := awp_sound b _ _ h
        exact ⟨x, s1, .succ (e1.mono fun n hn => by simp only [aexec, et, Bool.false_eq_true, if_false, hn]), h1⟩
    · exact h.elim
  | .block id c, Q, s, h => by
    obtain ⟨x, s1, e1, h1⟩ := awp_sound c _ s h
    cases x with
    | normal => exact ⟨_, s1, .succ (e1.mono fun n hn => by simp only [aexec, hn]), h1⟩
    | ret => exact ⟨_, s1, .succ (e1.mono fun n hn => by simp only [aexec, hn]), h1⟩
    | exit i =>
      unfold bk at h1
      simp only at h1
      by_cases hi : i = id
      · rw [if_pos hi] at h1
        exact ⟨_, _, .succ (e1.mono fun n hn => by simp only [aexec, hn, if_pos hi]), h1⟩
      · rw [if_neg hi] at h1
        exact ⟨_, s1, .succ (e1.mono fun n hn => by simp only [aexec, hn, if_neg hi]), h1⟩
  | .loop mg c, Q, s, h => by
    obtain ⟨x, e, H, e1, h1⟩ := h
    exact ⟨x, _, .succ (e1.mono fun n hn => by simp only [aexec, hn]), h1⟩
  | .exit id, Q, s, h => ⟨_, _, .succ (.of fun n => by simp only [aexec]), h⟩
  | .ret, Q, s, h => ⟨_, _, .succ (.of fun n => by simp only [aexec]), h⟩

/-- A loop by what holds ahead of each round. -/
theorem loop_rule {mg : Bool} {c : ACode} {s : St} {Q : AExit → St → Prop} (I : Nat → Env → Heap → Prop) (m : Nat) (h0 : I 0 s.env s.heap)
    (hstep : ∀ j e H, I j e H → awp ft c (fun x s' => (x = .normal ∧ j < m ∧ I (j + 1) (ekeep s'.env (slots s.env)) (endr mg s'.heap)) ∨ (x ≠ .normal ∧ Q x { env := s'.env, heap := hmerge s'.heap, p := s.p, k := s.k + 1 }))
      { env := e, heap := [] :: H, p := s.p ++ [s.k] ++ [j], k := 0 }) : lwp ft mg c s Q := by
  have key : ∀ (d j : Nat) (e : Env) (H : Heap), m - j ≤ d → I j e H → ∃ x e' H', (∃ N, ∀ n, N ≤ n → ∀ k, d + 1 ≤ k → around (aexec ft n) c (s.p ++ [s.k]) (slots s.env) mg k j e H = some (x, e', H')) ∧ Q x { env := e', heap := H', p := s.p, k := s.k + 1 } := by
    intro d
    induction d with
    | zero =>
      intro j e H hd hI
      obtain ⟨x, s1, ⟨N, hN⟩, h1⟩ := awp_sound c _ _ (hstep j e H hI)
      rcases h1 with ⟨_, hj, _⟩ | ⟨hx, hQ⟩
      · omega
      · refine ⟨x, _, _, ⟨N, fun n hn k hk => ?_⟩, hQ⟩
        cases k with
        | zero => omega
        | succ k =>
          have := hN n hn
          cases x <;> first | exact absurd rfl hx | simp only [around, this]
    | succ d ih =>
      intro j e H hd hI
      obtain ⟨x, s1, ⟨N, hN⟩, h1⟩ := awp_sound c _ _ (hstep j e H hI)
      rcases h1 with ⟨rfl, hj, hI'⟩ | ⟨hx, hQ⟩
      · obtain ⟨x, e', H', ⟨M, hM⟩, hQ⟩ := ih (j + 1) _ _ (by omega) hI'
        refine ⟨x, e', H', ⟨N + M, fun n hn k hk => ?_⟩, hQ⟩
        cases k with
        | zero => omega
        | succ k =>
          have := hN n (by omega)
          simp only [around, this]
          exact hM n (by omega) k (by omega)
      · refine ⟨x, _, _, ⟨N, fun n hn k hk => ?_⟩, hQ⟩
        cases k with
        | zero => omega
        | succ k =>
          have := hN n hn
          cases x <;> first | exact absurd rfl hx | simp only [around, this]
  obtain ⟨x, e, H, ⟨N, hN⟩, hQ⟩ := key m 0 s.env s.heap (by omega) h0
  exact ⟨x, e, H, ⟨N + m + 1, fun n hn => hN n (by omega) n (by omega)⟩, hQ⟩

/-- What a call comes to behind its body. -/
def bodyRes (fn : AFn) (x : AExit) (s : St) : Option (AV × Heap) :=
  match x with
  | .exit _ => none
  | _ => match resOf s.env s.heap fn.res with
    | some l =>
      if fn.keep = 0 then
        match fz s.heap (one l) with
        | some (v, H') => some (v, hpop H')
        | none => none
      else if fn.keep = 1 then
        match one l with
        | .own id n => match hget s.heap id with
          | some (.row wr flat e sz rows) => if rows.length = n then
              match hget (hpop s.heap) id with
              | some _ => some (.own id n, hpop s.heap)
              | none => some (.own id n, hadd (hpop s.heap) id (.row wr flat e sz rows))
            else none
          | _ => none
        | _ => none
      else some (one l, hmerge s.heap)
    | none => none

theorem abody_eq {exec : ACode → St → Option (AExit × St)} {fn : AFn} {q : Id} {args : List AV} {H : Heap} {x : AExit} {s : St} (hl : args.length = fn.np) (h : exec fn.body { env := params 0 args, heap := [] :: H, p := q, k := 0 } = some (x, s)) : abody exec fn q args H = bodyRes fn x s := by
  unfold abody bodyRes
  rw [if_pos hl, h]
  cases x <;> rfl

/-- A function's run from its code. -/
theorem run_code {f : Nat} {fn : AFn} {q : Id} {args : List AV} {H : Heap} {K : AV → Heap → Prop} (hf : ft f = some (.code fn)) (hl : args.length = fn.np)
    (h : awp ft fn.body (fun x s => ob (bodyRes fn x s) fun r => K r.1 r.2) { env := params 0 args, heap := [] :: H, p := q, k := 0 }) : cwp ft f q args H K := by
  obtain ⟨x, s, e, ⟨r, H'⟩, h1, h2⟩ := awp_sound _ _ _ h
  refine ⟨r, H', .succ (e.mono fun n hn => ?_), h2⟩
  simp only [acall, hf]
  rw [abody_eq hl hn, h1]
theorem run_fork {f : Nat} {fn : AFn} {q : Id} {args : List AV} {H : Heap} {K : AV → Heap → Prop} (hf : ft f = some (.fork fn)) (hl : args.length = fn.np) (hne : ∀ sz r, args ≠ .list sz [] :: r)
    (h : awp ft fn.body (fun x s => ob (bodyRes fn x s) fun r => K r.1 r.2) { env := params 0 args, heap := [] :: H, p := q, k := 0 }) : cwp ft f q args H K := by
  obtain ⟨x, s, e, ⟨r, H'⟩, h1, h2⟩ := awp_sound _ _ _ h
  refine ⟨r, H', .succ (e.mono fun n hn => ?_), h2⟩
  simp only [acall, hf]
  rw [abody_eq hl hn, h1]
theorem run_ora {f : Nat} {spec : Id → List AV → Heap → Option (AV × Heap)} {q : Id} {args : List AV} {H H' : Heap} {r : AV} {K : AV → Heap → Prop} (hf : ft f = some (.ora spec)) (h : spec q args H = some (r, H')) (hK : K r H') : cwp ft f q args H K :=
  ⟨r, H', .succ (.of fun n => by simp only [acall, hf, h]), hK⟩
/-- What is told of the call. -/
theorem cwp_run {f : Nat} {q : Id} {args : List AV} {H H' : Heap} {r : AV} (h : cwp ft f q args H fun v H2 => v = r ∧ H2 = H') : ∃ n, acall ft n f q args H = some (r, H') := by
  obtain ⟨v, H2, e, rfl, rfl⟩ := h
  exact e.get
end
end Go.Proofs.Abs
