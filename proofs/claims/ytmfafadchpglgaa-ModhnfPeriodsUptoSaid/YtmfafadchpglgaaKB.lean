import Derived.Test.YtmfafadchpglgaaKA
import Derived.Sort.LoopGhostIn
import Derived.RangeFuncRecord
import Derived.RangeFuncLeaves

/- The calculus, part 12: regions, code. No program's text. -/
namespace Go.Proofs.Ytmfafadchpglgaa
open Go.RowKit

/-! ## Simplified code -/

/-- A finite map, written out. -/
def E {α : Type} : List (Nat × α) → Nat → Option α
  | [], _ => none
  | (k, v) :: r, i => if i = k then some v else E r i

/-- What a map holds at these places. -/
def keepL {α : Type} (f : Nat → Option α) : List Nat → List (Nat × α)
  | [] => []
  | k :: ks => match f k with
    | some v => (k, v) :: keepL f ks
    | none => keepL f ks

def St.keep (s : St) (ks : List Nat) : St := ⟨E (keepL s.t ks), E (keepL s.p ks), E (keepL s.x ks), s.h⟩

theorem E_keep {α : Type} {f : Nat → Option α} : ∀ {ks : List Nat} {i : Nat} {v : α}, E (keepL f ks) i = some v → f i = some v
  | [], i, v, h => by cases h
  | k :: ks, i, v, h => by
    simp only [keepL] at h
    split at h
    · rename_i u hu
      simp only [E] at h
      split at h
      · rename_i e; cases h; rw [e]; exact hu
      · exact E_keep h
    · exact E_keep h

inductive Cd where
  | skip
  | ops (its : List (Nat × Tr)) (keep : List Nat)
  | seq (a b : Cd)
  | cond (c : Opd) (a b : Cd)
  | block (id : Nat) (a : Cd)
  | loop (a : Cd)
  | exit (id : Nat)
  | ret
  | dead
  | scope (a : Cd)
  | rf (g : Opd) (ps : List Nat) (RM : List (Nat × Nat)) (a b : Cd)

/-- No range over a function. -/
def Cd.norf : Cd → Bool
  | .seq a b | .cond _ a b => a.norf && b.norf
  | .block _ a | .loop a | .scope a => a.norf
  | .rf .. => false
  | _ => true

/-- State s0 says no more than state s. -/
structure St.weak (s0 s : St) : Prop where
  t : ∀ i v, s0.t i = some v → s.t i = some v
  p : ∀ i v, s0.p i = some v → s.p i = some v
  x : ∀ i v, s0.x i = some v → s.x i = some v
  h : s0.h.le s.h

def thenQ (f : St → Prop) (Q : Exit → St → Prop) : Exit → St → Prop
  | .normal, s => f s
  | e, s => Q e s

def inBlockQ (id : Nat) (Q : Exit → St → Prop) : Exit → St → Prop
  | .exit id', s => if id' = id then Q .normal s else Q (.exit id') s
  | e, s => Q e s

/-- A loop: what holds at each round's head: the state S x with I x, and a number that every round lowers. -/
def LoopI (body : St → (Exit → St → Prop) → Prop) (s : St) (Q : Exit → St → Prop) : Prop :=
  ∃ (α : Type) (S : α → St) (I : α → Prop) (μ : α → Nat), (∃ x, I x ∧ (S x).weak s) ∧
    ∀ x, I x → body (S x) (thenQ (fun s' => ∃ x', I x' ∧ (S x').weak s' ∧ μ x' < μ x) Q)

def noGotoQ (Q : Exit → St → Prop) : Exit → St → Prop
  | .goto _, _ => False
  | e, s => Q e s
def normQ (K : St → Prop) : Exit → St → Prop
  | .normal, s => K s
  | _, _ => False

/-- An iterator: it hands the items 0 to n - 1, one after the other, to the function that it is given. hm: what it has seen from the start. -/
structure IterOk (P : Program) (fv : Value) (hm : Hp) (n : Nat) (Item : Nat → Hp → Hp → List Value → Prop) : Prop where
  fn : ∃ (gf : Nat) (caps : Array Value) (fn : Func) (c : Code), fv = .func (.func gf) #[] caps ∧ P.funcs[gf]? = some fn ∧ fn.body = some c ∧ (fn.name == "runtime.NumGoroutine") = false
  run : ∀ (E : Env), E.toProgram = P → ∀ (l : Nat) (J : Nat → Hp → Prop) (h : Hp), (∀ i h, J i h → hm.le h) → J 0 h →
    (∀ i h h1 args, i < n → J i h → h.le h1 → Item i h h1 args → Tri E (.func (.yield l) #[] #[]) args h1 fun v h2 => v = .bool true ∧ J (i + 1) h2) →
    Tri E fv [.func (.yield l) #[] #[]] h fun _ h' => J n h'

def updL (f : Nat → Option Value) : List Nat → List Value → Nat → Option Value
  | p :: ps, v :: vs => updL (upd f p (some v)) ps vs
  | _, _ => f

/-- A round's first state: the function's boxes may be read; their numbers say so. -/
def St.round (s : St) (ps : List Nat) (args : List Value) (h : Hp) : St :=
  ⟨updL s.t ps args, fun e => if e ∈ ps then none else (s.p e).map fun q => (q.1 + 1000000, q.2), fun k => if k < 1000000 then none else s.x (k - 1000000), h⟩

def Cd.wp (P : Env) : Cd → St → (Exit → St → Prop) → Prop
  | .skip, s, Q => Q .normal s
  | .ops its ks, s, Q => flat P (its.map (·.2)) s fun s' => Q .normal (s'.keep ks)
  | .seq a b, s, Q => a.wp P s (thenQ (fun s' => b.wp P s' Q) Q)
  | .cond c a b, s, Q => ∃ t, s.ev c = some (.bool t) ∧ (t = true → a.wp P s Q) ∧ (t = false → b.wp P s Q)
  | .block id a, s, Q => a.wp P s (inBlockQ id Q)
  | .loop a, s, Q => LoopI (a.wp P) s Q
  | .exit id, s, Q => Q (.exit id) s
  | .ret, s, Q => Q .ret s
  | .dead, _, _ => False
  | .scope a, s, Q => a.wp P s (noGotoQ Q)
  | .rf g ps _ a b, s, Q => ∃ (fv : Value) (hm : Hp) (n : Nat) (Item : Nat → Hp → Hp → List Value → Prop) (J : Nat → Hp → Prop), s.ev g = some fv ∧ IterOk P.toProgram fv hm n Item ∧ J 0 s.h ∧ (∀ i h, J i h → hm.le h) ∧
      (∀ i h h1 args, i < n → J i h → h.le h1 → Item i h h1 args → args.length = ps.length ∧ a.wp P (s.round ps args h1) (normQ fun s1 => b.wp P s1 (normQ fun s2 => J (i + 1) s2.h))) ∧
      (∀ h, J n h → Q .normal { s with h := h })

/-! ## The check: a region's operations, in an order -/

def It.norm : It → It
  | .call _ fv as => .call false fv as
  | it => it

/-- Is this the operation number i? -/
def chkOp (P : Program) (RM : List (Nat × Nat)) (N : Nat) (ops : Array Oper) (q : Nat × Tr) : Bool :=
  match ops[q.1]? with
  | none => false
  | some o =>
    trIt P RM o == some q.2.it.norm && o.dst == q.2.d && (match o.dst with | some d => decide (d < N) | none => true) &&
    (match o.guard, q.2.g with
     | none, none => true
     | some (j, w), some (sl, w') => (((ops[j]?).bind (·.dst)) == some sl) && w == w'
     | _, _ => false)

def boundDeps (o : Oper) : List Nat := (o.after.toList.filter fun e => Region.binds .any e).map (·.on)

/-- Hangs y on x, over at most n steps? -/
def reach (ops : Array Oper) (x : Nat) : Nat → Nat → Bool
  | 0, _ => false
  | n + 1, y => match ops[y]? with | some o => (boundDeps o).contains x || (boundDeps o).any (reach ops x n) | none => false

/-- May this one come behind all that stand ahead of it in the list, or hangs it on them? -/
def chkPairs (ops : Array Oper) : List (Nat × Tr) → Bool
  | [] => true
  | x :: r => (r.all fun y => x.2.free y.2 || reach ops x.1 4 y.1) && chkPairs ops r

def nodupB : List Nat → Bool
  | [] => true
  | x :: r => !r.contains x && nodupB r

def chkRegion (P : Program) (RM : List (Nat × Nat)) (N : Nat) (ops : Array Oper) (draw : Bool) (its : List (Nat × Tr)) : Bool :=
  its.all (chkOp P RM N ops) &&
  (if draw then
    its.length == ops.size && ((List.range ops.size).all fun i => (its.map (·.1)).contains i) && nodupB (its.map (·.1)) && (its.all fun q => match ops[q.1]? with | some o => (boundDeps o).all fun d => decide (d < q.1) | none => false) && chkPairs ops its
   else its.map (·.1) == List.range ops.size)

def chk (P : Program) (RM : List (Nat × Nat)) (N : Nat) : Code → Cd → Bool
  | _, .dead => true
  | .label _, .skip => true
  | .scope a, .scope a' => chk P RM N a a'
  | .rangeFunc g ps a b, .rf g' ps' RM' a' b' => trO g == some g' && ps.toList == ps' && ps'.all (fun p => decide (p < N)) && a'.norf && b'.norf && chk P RM' N a a' && chk P RM' N b b'
  | .skip, .skip => true
  | .region _ ops draw, .ops its _ => chkRegion P RM N ops draw its
  | .seq a b, .seq a' b' => chk P RM N a a' && chk P RM N b b'
  | .cond c a b, .cond c' a' b' => trO c == some c' && chk P RM N a a' && chk P RM N b b'
  | .block i a, .block j a' => i == j && chk P RM N a a'
  | .loop a, .loop a' => chk P RM N a a'
  | .exit i, .exit j => i == j
  | .ret, .ret => true
  | _, _ => false

/-! ## Soundness -/

section
variable {P : Env} {RM : List (Nat × Nat)} {ρ : Option Nat} {H : Hp} {W : World} [Nonempty (P.ok H W)] {N : Nat}

theorem norm_step {it : It} {d : Option Nat} {s : St} {K : St → Prop} (h : it.step P d s K) : it.norm.step P d s K := by
  cases it with
  | call m fv as =>
    obtain ⟨vs, hv, hs⟩ := step_noptr rfl h
    have : (It.call false fv as).inp s = some ⟨vs, 0, []⟩ := by
      simp only [It.inp]
      rw [show (It.call false fv as).vals s = some vs from hv]
      rfl
    simp only [It.norm, It.step, this]
    cases vs with
    | nil => exact (hs : False).elim
    | cons f as' => exact Tri.mono hs (fun v h' ⟨_, b⟩ => ⟨(fun e => by cases e), b⟩)
  | _ => exact h

/-- One operation of a region. -/
theorem one_sound {ops : Array Oper} {q : Nat × Tr} (hc : chkOp P RM N ops q = true) {bl : Nat → Nat} {s : St} {a : Act} {w : World} (r : Rel bl H W N s a w) {K : St → Prop} (hs : q.2.step P s K) (Q : Exit → Act → World → Prop) :
    wpOpIn (Wd ρ) 0 P ops Q q.1 (Nx H W N K) a w := by
  unfold chkOp at hc
  unfold wpOpIn
  split at hc
  · cases hc
  · rename_i o ho
    simp only [Bool.and_eq_true, beq_iff_eq] at hc
    obtain ⟨⟨⟨h1, h2⟩, h3⟩, h4⟩ := hc
    have hd : ∀ x, o.dst = some x → x < N := fun x hx => by rw [hx] at h3; simpa using h3
    have hit : q.2.it.step P q.2.d s K → o.wpIn (Wd ρ) 0 P a w (Nx H W N K) Q := fun h => op_sound h1 r hd (by rw [h2]; exact norm_step h)
    have hskip : K ((Ef.val q.2.d undef).ap s) → (∀ f, o.about P w a.eval = some f → (Wd ρ).fn f) ∧ Nx H W N K (a.put o.dst undef) w := fun h => ⟨fun _ _ => trivial, by rw [← h2] at h; exact ⟨_, bl, h, r.val hd undef⟩⟩
    simp only [ho]
    split at h4
    · rename_i hg1 hg2
      rw [Tr.step_none hg2] at hs
      rw [if_pos (by simp [Region.wanted, hg1])]
      exact hit hs
    · rename_i j w1 sl w2 hg1 hg2
      simp only [Bool.and_eq_true, beq_iff_eq] at h4
      obtain ⟨h5, rfl⟩ := h4
      rw [Tr.step_some hg2] at hs
      cases ht : s.t sl with
      | none => rw [ht] at hs; exact (hs : False).elim
      | some v =>
        have hy : yielded ops a.tmps j = (match v with | .bool b => some b | _ => none) := by
          unfold yielded
          rw [h5]
          simp only [Option.bind_some, r.tm sl v ht]
          cases v <;> rfl
        rw [ht] at hs
        cases v with
        | bool b =>
          by_cases hb : b = w1
          · rw [if_pos (by simp [Region.wanted, hg1, hy, hb])]
            exact hit (hs.1 hb)
          · rw [if_neg (by simp [Region.wanted, hg1, hy, hb])]
            exact hskip (hs.2 hb)
        | tuple us =>
          rw [if_neg (by simp [Region.wanted, hg1, hy])]
          exact hskip hs
        | _ => exact (hs : False).elim
    · cases h4

/-- The text's order. -/
theorem text_sound {ops : Array Oper} {Q : Exit → Act → World → Prop} : ∀ {its : List (Nat × Tr)}, (∀ q ∈ its, chkOp P RM N ops q = true) → ∀ {bl : Nat → Nat} {s : St} {a : Act} {w : World} {K : St → Prop}, Rel bl H W N s a w →
    flat P (its.map (·.2)) s K → (∀ a' w', Nx H W N K a' w' → Q .normal a' w') → wpOpsIn (Wd ρ) 0 P ops Q (its.map (·.1)) a w
  | [], _, bl, s, a, w, K, r, hf, hq => hq a w ⟨s, bl, hf, r⟩
  | q :: its, hc, bl, s, a, w, K, r, hf, hq => by
    rw [List.map_cons, wpOpsIn_cons]
    have hf1 : q.2.step P s (fun s' => flat P (its.map (·.2)) s' K) := hf
    refine wpOpIn_mono ?_ (one_sound (hc q (by simp)) r hf1 Q)
    rintro a' w' ⟨s', bl', hf', r'⟩
    exact text_sound (fun q hq => hc q (by simp [hq])) r' hf' hq

theorem ready_spec {ops : Array Oper} {listed : Array Bool} {i : Nat} : i ∈ Region.ready .any ops listed ↔ i < ops.size ∧ listed.getD i true = false ∧ ∃ o, ops[i]? = some o ∧ ∀ d ∈ boundDeps o, listed.getD d false = true := by
  unfold Region.ready
  simp only [List.mem_filter, List.mem_range, Bool.and_eq_true, Bool.not_eq_true']
  constructor
  · rintro ⟨h1, h2, h3⟩
    refine ⟨h1, h2, ?_⟩
    cases ho : ops[i]? with
    | none => rw [ho] at h3; cases h3
    | some o =>
      rw [ho] at h3
      refine ⟨o, rfl, fun d hd => ?_⟩
      simp only [boundDeps, List.mem_map, List.mem_filter] at hd
      obtain ⟨e, ⟨he1, he2⟩, rfl⟩ := hd
      simp only [Option.map_some, Option.getD_some, Array.all_eq_true'] at h3
      have := h3 e (by simpa using he1)
      simpa [he2] using this
  · rintro ⟨h1, h2, o, ho, h3⟩
    refine ⟨h1, h2, ?_⟩
    rw [ho]
    simp only [Option.map_some, Option.getD_some, Array.all_eq_true']
    intro e he
    by_cases hb : Region.binds .any e = true
    · have := h3 e.on (by simp only [boundDeps, List.mem_map, List.mem_filter]; exact ⟨e, ⟨by simpa using he, hb⟩, rfl⟩)
      rw [this]; simp
    · simp [hb]

theorem reach_out {ops : Array Oper} {x : Nat} {S : Nat → Prop} (hcl : ∀ i o, ops[i]? = some o → ¬ S i → ∀ d ∈ boundDeps o, ¬ S d) : ∀ {n y : Nat}, reach ops x n y = true → (∀ o, ops[y]? = some o → ∀ d ∈ boundDeps o, ¬ S d) → ¬ S x
  | 0, _, h, _ => by cases h
  | n + 1, y, h, hy => by
    simp only [reach] at h
    split at h
    · rename_i o ho
      rw [Bool.or_eq_true] at h
      rcases h with h | h
      · exact hy o ho x (by simpa using h)
      · obtain ⟨d, hd, h'⟩ := List.any_eq_true.1 h
        exact reach_out hcl h' (fun o' ho' => hcl d o' ho' (hy o ho d hd))
    · cases h

theorem pairs_mem {ops : Array Oper} : ∀ {pre suf : List (Nat × Tr)} {y : Nat × Tr}, chkPairs ops (pre ++ y :: suf) = true → ∀ x ∈ pre, x.2.free y.2 = true ∨ reach ops x.1 4 y.1 = true
  | [], _, _, _, x, hx => by cases hx
  | z :: pre, suf, y, h, x, hx => by
    simp only [List.cons_append, chkPairs, Bool.and_eq_true] at h
    cases hx with
    | head =>
      have := List.all_eq_true.1 h.1 y (by simp)
      rw [Bool.or_eq_true] at this
      exact this
    | tail _ hx' => exact pairs_mem h.2 x hx'

theorem pairs_drop {ops : Array Oper} : ∀ {pre suf : List (Nat × Tr)} {y : Nat × Tr}, chkPairs ops (pre ++ y :: suf) = true → chkPairs ops (pre ++ suf) = true
  | [], suf, y, h => by simp only [List.nil_append, chkPairs, Bool.and_eq_true] at h; exact h.2
  | z :: pre, suf, y, h => by
    simp only [List.cons_append, chkPairs, Bool.and_eq_true] at h ⊢
    refine ⟨List.all_eq_true.2 fun q hq => List.all_eq_true.1 h.1 q ?_, pairs_drop h.2⟩
    simp only [List.mem_append, List.mem_cons] at hq ⊢
    rcases hq with hq | hq
    · exact Or.inl hq
    · exact Or.inr (Or.inr hq)

/-- Any order that the edges allow. -/
theorem any_sound {ops : Array Oper} {Q : Exit → Act → World → Prop} (hlow : ∀ i o, ops[i]? = some o → ∀ d ∈ boundDeps o, d < i) :
    ∀ (fuel : Nat) {its : List (Nat × Tr)} {listed : Array Bool}, its.length = fuel → (∀ q ∈ its, chkOp P RM N ops q = true) → (its.map (·.1)).Nodup → chkPairs ops its = true →
      listed.size = ops.size → (∀ i, i < ops.size → (listed.getD i true = false ↔ i ∈ its.map (·.1))) → (∀ i o, ops[i]? = some o → ¬ i ∈ its.map (·.1) → ∀ d ∈ boundDeps o, ¬ d ∈ its.map (·.1)) → ∀ {bl : Nat → Nat} {s : St} {a : Act} {w : World} {K : St → Prop}, Rel bl H W N s a w →
      flat P (its.map (·.2)) s K → (∀ a' w', Nx H W N K a' w' → Q .normal a' w') → wpAnyIn (Wd ρ) 0 P .any ops Q fuel listed a w := by
  intro fuel
  induction fuel with
  | zero =>
    intro its listed hl hc hnd hp hsz hli hcl bl s a w K r hf hq
    have : its = [] := List.length_eq_zero_iff.1 hl
    subst this
    refine ⟨?_, hq a w ⟨s, bl, hf, r⟩⟩
    cases hr : Region.ready .any ops listed with
    | nil => rfl
    | cons i l =>
      obtain ⟨h1, h2, _⟩ := ready_spec.1 (show i ∈ Region.ready .any ops listed by rw [hr]; simp)
      have := (hli i h1).1 h2
      cases this
  | succ fuel ih =>
    intro its listed hl hc hnd hp hsz hli hcl bl s a w K r hf hq
    have hlt : ∀ i, i ∈ its.map (·.1) → i < ops.size := fun i hi => by
      obtain ⟨q, hq', rfl⟩ := List.mem_map.1 hi
      have := hc q hq'
      unfold chkOp at this
      split at this
      · cases this
      · rename_i o ho; exact (Array.getElem?_eq_some_iff.1 ho).1
    refine ⟨fun hr => ?_, fun i hi => ?_⟩
    · -- nothing may come: then nothing is left
      exfalso
      have hne : ∃ m, m ∈ its.map (·.1) := by
        cases its with
        | nil => cases hl
        | cons q l => exact ⟨q.1, by simp⟩
      obtain ⟨m, hm, hmin⟩ := exists_least hne
      have hmlt := hlt m hm
      obtain ⟨o, ho⟩ : ∃ o, ops[m]? = some o := ⟨ops[m], Array.getElem?_eq_getElem hmlt⟩
      have : m ∈ Region.ready .any ops listed := ready_spec.2 ⟨hmlt, (hli m hmlt).2 hm, o, ho, fun d hd => by
        have hdm := hlow m o ho d hd
        have hnot : d ∉ its.map (·.1) := fun h => by have := hmin d h; omega
        have h1 : ¬ listed.getD d true = false := fun h => hnot ((hli d (by omega)).1 h)
        have hds : d < listed.size := by omega
        simp [Array.getD, hds] at h1 ⊢
        exact h1⟩
      rw [hr] at this
      cases this
    · obtain ⟨h1, h2, o, ho, h3⟩ := ready_spec.1 hi
      have him := (hli i h1).1 h2
      obtain ⟨q, hq', hqi⟩ := List.mem_map.1 him
      obtain ⟨pre, suf, hits⟩ := List.append_of_mem hq'
      subst hits
      subst hqi
      have hdeps : ∀ o', ops[q.1]? = some o' → ∀ d ∈ boundDeps o', ¬ d ∈ (pre ++ q :: suf).map (·.1) := fun o' ho' d hd hdin => by
        rw [ho] at ho'
        cases ho'
        have h4 := h3 d hd
        have hdlt := hlt d hdin
        have h5 := (hli d hdlt).2 hdin
        have hds : d < listed.size := by omega
        simp [Array.getD, hds] at h4 h5
        rw [h4] at h5
        cases h5
      have hfree : ∀ x ∈ pre.map (·.2), Tr.free x q.2 = true := fun x hx => by
        obtain ⟨z, hz, rfl⟩ := List.mem_map.1 hx
        rcases pairs_mem hp z hz with h | h
        · exact h
        · have hzin : z.1 ∈ (pre ++ q :: suf).map (·.1) := List.mem_map.2 ⟨z, by simp [hz], rfl⟩
          exact absurd hzin (reach_out hcl h hdeps)
      rw [List.map_append, List.map_cons] at hf
      have hf' := flat_first (P := P) hfree hf
      refine wpOpIn_mono ?_ (one_sound (hc q (by simp)) r (K := fun s' => flat P (pre.map (·.2) ++ suf.map (·.2)) s' K) hf' Q)
      rintro a' w' ⟨s', bl', hf'', r'⟩
      rw [← List.map_append] at hf''
      have hnd' : ((pre ++ suf).map (·.1)).Nodup ∧ q.1 ∉ (pre ++ suf).map (·.1) := by
        rw [List.map_append, List.map_cons] at hnd
        rw [List.map_append]
        have hperm : (pre.map (·.1) ++ q.1 :: suf.map (·.1)).Perm (q.1 :: (pre.map (·.1) ++ suf.map (·.1))) := List.perm_middle
        have := hperm.nodup_iff.1 hnd
        exact ⟨(List.nodup_cons.1 this).2, (List.nodup_cons.1 this).1⟩
      refine ih (by simp at hl ⊢; omega) (fun z hz => hc z (by simp only [List.mem_append, List.mem_cons] at hz ⊢; rcases hz with h | h; exact Or.inl h; exact Or.inr (Or.inr h))) hnd'.1 (pairs_drop hp) (by simp [hsz]) ?_ ?_ r' hf'' hq
      case refine_2 =>
        intro i o' ho' hi' d hd hdin
        have hd2 : d ∈ (pre ++ q :: suf).map (·.1) := by
          simp only [List.map_append, List.map_cons, List.mem_append, List.mem_cons] at hdin ⊢
          rcases hdin with h | h
          · exact Or.inl h
          · exact Or.inr (Or.inr h)
        by_cases hiq : i = q.1
        · exact hdeps o' (hiq ▸ ho') d hd hd2
        · refine hcl i o' ho' (fun hin => hi' ?_) d hd hd2
          simp only [List.map_append, List.map_cons, List.mem_append, List.mem_cons] at hin ⊢
          rcases hin with h | h | h
          · exact Or.inl h
          · exact absurd h hiq
          · exact Or.inr h
      intro j hj
      have hqs : q.1 < listed.size := by omega
      have hjs : j < listed.size := by omega
      by_cases hjq : j = q.1
      · constructor
        · intro h
          rw [hjq] at h
          simp [Array.getD, hqs] at h
        · intro h
          exact absurd (hjq ▸ h) hnd'.2
      · have hget : (listed.setIfInBounds q.1 true).getD j true = listed.getD j true := by
          simp [Array.getD, hjs, Array.getElem_setIfInBounds, Ne.symm hjq]
        rw [hget, hli j hj]
        simp only [List.map_append, List.map_cons, List.mem_append, List.mem_cons]
        constructor
        · rintro (h | h | h)
          · exact Or.inl h
          · exact absurd h hjq
          · exact Or.inr h
        · rintro (h | h)
          · exact Or.inl h
          · exact Or.inr (Or.inr h)

theorem nodupB_spec : ∀ {l : List Nat}, nodupB l = true → l.Nodup
  | [], _ => List.nodup_nil
  | x :: l, h => by
    simp only [nodupB, Bool.and_eq_true, Bool.not_eq_true'] at h
    exact List.nodup_cons.2 ⟨by simpa using h.1, nodupB_spec h.2⟩

/-- **A REGION.** -/
theorem region_sound (hm : P.follows .mixedOrders = true) {id : Nat} {ops : Array Oper} {draw : Bool} {its : List (Nat × Tr)} (hc : chkRegion P RM N ops draw its = true) {bl : Nat → Nat} {s : St} {a : Act} {w : World} {K : St → Prop} (r : Rel bl H W N s a w)
    (hf : flat P (its.map (·.2)) s K) {Q : Exit → Act → World → Prop} (hq : ∀ a' w', Nx H W N K a' w' → Q .normal a' w') : (Code.region id ops draw).wpIn (Wd ρ) 0 P Q a w := by
  unfold chkRegion at hc
  rw [Bool.and_eq_true] at hc
  obtain ⟨h1, h2⟩ := hc
  have hops : ∀ q ∈ its, chkOp P RM N ops q = true := fun q hq => List.all_eq_true.1 h1 q hq
  cases draw with
  | false =>
    simp only [Bool.false_eq_true, if_false, beq_iff_eq] at h2
    refine wpIn_region ?_
    rw [← h2]
    exact text_sound hops r hf hq
  | true =>
    simp only [if_true, Bool.and_eq_true, beq_iff_eq] at h2
    obtain ⟨⟨⟨⟨h3, h3'⟩, h4⟩, h5⟩, h6⟩ := h2
    have hnd := nodupB_spec h4
    have hlt : ∀ i ∈ its.map (·.1), i < ops.size := fun i hi => by
      obtain ⟨q, hq', rfl⟩ := List.mem_map.1 hi
      have := hops q hq'
      unfold chkOp at this
      split at this
      · cases this
      · rename_i o ho; exact (Array.getElem?_eq_some_iff.1 ho).1
    have hall : ∀ i, i < ops.size → i ∈ its.map (·.1) := fun i hi => by
      have := List.all_eq_true.1 h3' i (List.mem_range.2 hi)
      simpa using this
    refine wpIn_region_any hm ?_
    refine any_sound ?_ ops.size h3 hops hnd h6 (by simp) ?_ (fun i o ho hi => absurd (hall i (Array.getElem?_eq_some_iff.1 ho).1) hi) r.drew hf hq
    · intro i o ho d hd
      have hi : i < ops.size := (Array.getElem?_eq_some_iff.1 ho).1
      obtain ⟨q, hq', hqi⟩ := List.mem_map.1 (hall i hi)
      have := List.all_eq_true.1 h5 q hq'
      rw [hqi, ho] at this
      simp only at this
      have := List.all_eq_true.1 this d hd
      simpa using this
    · intro i hi
      simp [Array.getD, hi]
      simpa using hall i hi

theorem Rel.keep {bl : Nat → Nat} {s : St} {a : Act} {w : World} (r : Rel bl H W N s a w) (ks : List Nat) : Rel bl H W N (s.keep ks) a w :=
  ⟨r.sz, fun i v h => r.tm i v (E_keep h), fun i k off h => r.pt i k off (E_keep h), fun k cs h => r.bx k cs (E_keep h), fun k k' c c' h h' e => r.inj k k' c c' (E_keep h) (E_keep h') e, r.fr, r.df⟩

theorem Rel.weak {bl : Nat → Nat} {s0 s : St} {a : Act} {w : World} (r : Rel bl H W N s a w) (h : s0.weak s) : Rel bl H W N s0 a w where
  sz := r.sz
  tm := fun i v e => r.tm i v (h.t i v e)
  pt := fun i k off e => r.pt i k off (h.p i _ e)
  bx := fun k cs e => by
    obtain ⟨h1, h2, h3⟩ := r.bx k cs (h.x k cs e)
    refine ⟨h1, ?_, h3⟩
    cases e' : s0.h (bl k) with
    | none => rfl
    | some b => rw [h.h _ _ e'] at h2; cases h2
  inj := fun k k' c c' e e' eq => r.inj k k' c c' (h.x k c e) (h.x k' c' e') eq
  fr := r.fr.forget h.h
  df := r.df

def Post (H : Hp) (W : World) (N : Nat) (Q : Exit → St → Prop) : Exit → Act → World → Prop := fun e a' w' => ∃ s' bl', Q e s' ∧ Rel bl' H W N s' a' w'

end

/-! ## Scopes -/

section
variable {F : Fence} {n : Nat} {Q : Program}
theorem stepR_scope {b : Frame} {a : Act} {k : List Item} {cs : List Frame} {w : World} {c : Code} : step Q (lone (b.atR a (.code (.scope c) :: k)) cs w) = .next (lone (b.atR a (.code c :: .inScope c :: k)) cs w) :=
  step_lone_go (by simp [stepG, stepG.exec, Frame.atR])
theorem stepR_inScope {b : Frame} {a : Act} {k : List Item} {cs : List Frame} {w : World} {c : Code} : step Q (lone (b.atR a (.inScope c :: k)) cs w) = .next (lone (b.atR a k) cs w) :=
  step_lone_go (by simp [stepG, stepG.exec, Frame.atR])

def NoGo (R : Exit → Act → World → Prop) : Exit → Act → World → Prop
  | .goto _, _, _ => False
  | e, a, w => R e a w

theorem wpIn_scope {c : Code} {R : Exit → Act → World → Prop} {a : Act} {w : World} (h : c.wpIn F n Q (NoGo R) a w) : (Code.scope c).wpIn F n Q R a w := by
  intro b k cs hro hb hr
  have h0 : (lone (b.atR a (.code (.scope c) :: k)) cs w).fenced Q F := fenced_calm hb hr rfl
  obtain ⟨e, a₁, w₁, hq, harr⟩ := h b (.inScope c :: k) cs hro hb hr
  cases e with
  | normal => exact ⟨.normal, a₁, w₁, hq, .head h0 stepR_scope (StepsIn.trans harr (.one (fenced_calm hb hr rfl) stepR_inScope))⟩
  | exit id =>
    have hx : exitTo id (.inScope c :: k) = exitTo id k := by simp [exitTo]
    exact ⟨.exit id, a₁, w₁, hq, fun k' hk => .head h0 stepR_scope (harr.1 k' (by rw [hx]; exact hk)),
      fun hr' hk => let ⟨k₁, h1, h2⟩ := harr.2 hr' (by rw [hx]; exact hk); ⟨k₁, h1, .head h0 stepR_scope h2⟩⟩
  | goto l => exact hq.elim
  | ret => exact ⟨_, a₁, w₁, hq, .of_steps (.one h0 stepR_scope) harr⟩
  | panic ch => exact ⟨_, a₁, w₁, hq, .of_steps (.one h0 stepR_scope) harr⟩
  | outgrown => exact ⟨_, a₁, w₁, hq, .of_steps (.one h0 stepR_scope) harr⟩
end

/-! ## A range over a function -/

section
variable {P : Env} {N : Nat}

theorem Fr.ghost {h : Hp} {w w' : World} (hs : h.sub w) (ho : w'.os = w.os) (ht : w'.tape = w.tape) (hu : w'.output = w.output) (hz : w.heap.size ≤ w'.heap.size) (hb : ∀ k, k < w.heap.size → w'.heap[k]? = w.heap[k]?) : Fr h w h w' :=
  ⟨ho, ht, hu, hz, fun k hk _ => hb k hk, fun k b e n => (by rw [e] at n; cases n), fun k b e => by
    rw [hb k (Hp.lt_of_sub hs e)]; exact hs k b e, fun k cs T fz e => ⟨cs, by rw [hb k (Array.getElem?_eq_some_iff.1 e).1]; exact e⟩⟩

theorem unseen {h : Hp} {w : World} (hs : h.sub w) {k : Nat} {o : Obj} (ho : w.heap[k]? = some o) (hc : ∀ cs T fz, o ≠ .cells cs T fz) : h k = none := by
  cases e : h k with
  | none => rfl
  | some b =>
    obtain ⟨T, fz, hg, _⟩ := Hp.row hs e
    rw [ho] at hg; cases hg; exact absurd rfl (hc _ _ _)

/-- The record of a loop, and the block beside it, and the function's boxes, lie as they lay. -/
def loopEnv (P : Env) (l D : Nat) (rec : Loop) (bl : Nat → Nat) (x : Nat → Option (List Value)) : Env where
  toProgram := P.toProgram
  ok h w := h l = none ∧ h D = none ∧ w.heap[l]? = some (.loop rec) ∧ w.heap[D]? = some (.deferred (some [])) ∧ ∀ k cs, x k = some cs → h (bl k) = none ∧ ∃ T, w.heap[bl k]? = some (.cells cs.toArray T (0, 0))
  keep := by
    rintro H W h w ⟨h1, h2, h3, h4, h5⟩ f
    have one : ∀ k o, H k = none → W.heap[k]? = some o → h k = none ∧ w.heap[k]? = some o := fun k o hk ho => by
      have hlt : k < W.heap.size := (Array.getElem?_eq_some_iff.1 ho).1
      refine ⟨?_, by rw [f.block k hlt hk]; exact ho⟩
      cases e : h k with
      | none => rfl
      | some b => have := f.fresh k b e hk; omega
    exact ⟨(one l _ h1 h3).1, (one D _ h2 h4).1, (one l _ h1 h3).2, (one D _ h2 h4).2, fun k cs hk => by
      obtain ⟨q1, T, q2⟩ := h5 k cs hk
      exact ⟨(one _ _ q1 q2).1, T, (one _ _ q1 q2).2⟩⟩

theorem putObj_os (w : World) (r : Nat) (o : Obj) : (w.putObj r o).os = w.os := rfl

theorem foldl_tmps : ∀ (ps : List Nat) (args : List Value) (f : Nat → Option Value) (t : Array Value), (∀ p ∈ ps, p < t.size) → (∀ i v, f i = some v → t[i]? = some v) →
    (((ps.zip args).foldl (fun t (q : Nat × Value) => t.setIfInBounds q.1 q.2) t).size = t.size ∧ ∀ i v, updL f ps args i = some v → ((ps.zip args).foldl (fun t (q : Nat × Value) => t.setIfInBounds q.1 q.2) t)[i]? = some v)
  | [], _, f, t, _, h => ⟨rfl, h⟩
  | _ :: _, [], f, t, _, h => ⟨rfl, h⟩
  | p :: ps, v :: args, f, t, hp, h => by
    have hpt : p < t.size := hp p (by simp)
    obtain ⟨h1, h2⟩ := foldl_tmps ps args (upd f p (some v)) (t.setIfInBounds p v) (fun q hq => by simp; exact hp q (by simp [hq])) (fun i u hi => by
      rw [get_set hpt]
      unfold upd at hi
      split at hi
      · rw [if_pos ‹_›]; exact hi
      · rw [if_neg ‹_›]; exact h i u hi)
    simp only [List.zip_cons_cons, List.foldl_cons]
    exact ⟨by rw [h1]; simp, h2⟩

theorem foldl_other : ∀ (ps : List Nat) (args : List Value) (t : Array Value) (i : Nat), i ∉ ps → ((ps.zip args).foldl (fun t (q : Nat × Value) => t.setIfInBounds q.1 q.2) t)[i]? = t[i]?
  | [], _, _, _, _ => rfl
  | _ :: _, [], _, _, _ => rfl
  | p :: ps, v :: args, t, i, hi => by
    simp only [List.zip_cons_cons, List.foldl_cons]
    rw [foldl_other ps args _ i (fun h => hi (by simp [h])), Array.getElem?_setIfInBounds_ne (fun e => hi (by simp [e]))]

theorem ofValue_yield {Q : Program} {l : Nat} {args : Array Value} {w : World} : (Deferred.ofValue (.func (.yield l) #[] #[]) args >>= fun d => invoke d.target d.args).run Q w = (Instr.yield l args).run Q w := by
  simp [Deferred.ofValue, invoke]

/-- What code comes to, whatever it began with. -/
def SoundAt (P : Env) (N : Nat) (c : Code) (d : Cd) : Prop :=
  ∀ {ρ : Option Nat} {H : Hp} {W : World}, P.ok H W → ∀ {s : St} {Q : Exit → St → Prop}, d.wp P s Q → ∀ {bl : Nat → Nat} {a : Act} {w : World}, Rel bl H W N s a w → c.wpIn (Wd ρ) 0 P.toProgram (Post H W N Q) a w

/-- One round. -/
theorem round_sound (hP : ∀ h w, P.ok h w) {asg body : Code} {asg' body' : Cd} (ha : SoundAt P N asg asg') (hb : SoundAt P N body body') {l D : Nat} {rec : Loop} (hst : rec.state = .ready) (hpend : rec.pending = none) {ps : List Nat} (hps : rec.params.toList = ps)
    (hpN : ∀ p ∈ ps, p < N) (hras : rec.assign = asg) (hrbo : rec.body = body) (hsz : rec.tmps.size = N) {s : St} (htm : ∀ i v, s.t i = some v → rec.tmps[i]? = some v) {bl : Nat → Nat} (hpt : ∀ i k off, s.p i = some (k, off) → rec.tmps[i]? = some (.pointer (some ⟨bl k, off, none⟩)))
    (hinj : ∀ k k' cs cs', s.x k = some cs → s.x k' = some cs' → bl k = bl k' → k = k') {args : List Value} (hal : args.length = ps.length) {h1 : Hp} {K : Hp → Prop}
    (hwp : asg'.wp P (s.round ps args h1) (normQ fun s1 => body'.wp P s1 (normQ fun s2 => K s2.h))) : Tri (loopEnv P l D rec bl s.x) (.func (.yield l) #[] #[]) args h1 fun v h2 => v = .bool true ∧ K h2 := by
  rintro w hs ⟨k1, k2, k3, k4, k5⟩
  have hlt : l < w.heap.size := (Array.getElem?_eq_some_iff.1 k3).1
  have hy := run_yield (P := P.toProgram) (args := args.toArray) k3 (by rw [← Array.length_toList (xs := rec.params), hps]; simp [hal])
  show CallV P.toProgram _ _ _ _
  unfold CallV
  rw [ofValue_yield, hy]
  show RoundIn Fence.wide 0 P.toProgram l rec.fn _ rec.assign rec.body w _
  rw [hras, hrbo]
  refine roundIn_of_wpIn (F := Wd none) trivial ?_
  have hfold := foldl_tmps ps args s.t rec.tmps (fun p hp => by rw [hsz]; exact hpN p hp) htm
  have hf : (rec.params.zip args.toArray).foldl (fun tmps (q : Nat × Value) => tmps.setIfInBounds q.1 q.2) rec.tmps = (ps.zip args).foldl (fun t (q : Nat × Value) => t.setIfInBounds q.1 q.2) rec.tmps := by
    rw [← Array.foldl_toList, Array.toList_zip, hps]
  have r0 : Rel (fun k => bl (k - 1000000)) h1 w N (s.round ps args h1) { tmps := (rec.params.zip args.toArray).foldl (fun tmps (q : Nat × Value) => tmps.setIfInBounds q.1 q.2) rec.tmps, defers := [] } w := by
    have hget : ∀ i v, updL s.t ps args i = some v → ((rec.params.zip args.toArray).foldl (fun tmps (q : Nat × Value) => tmps.setIfInBounds q.1 q.2) rec.tmps)[i]? = some v := by rw [hf]; exact hfold.2
    have hoth : ∀ i, i ∉ ps → ((rec.params.zip args.toArray).foldl (fun tmps (q : Nat × Value) => tmps.setIfInBounds q.1 q.2) rec.tmps)[i]? = rec.tmps[i]? := fun i hi => by rw [hf]; exact foldl_other ps args rec.tmps i hi
    refine ⟨?_, fun i v hi => hget i v hi, fun i k off hi => ?_, fun k cs hk => ?_, fun k k' c c' hk hk' he => ?_, Fr.refl hs, [], rfl, List.nodup_nil, (fun y hy => (by cases hy))⟩
    · show Array.size _ = N
      rw [hf, hfold.1, hsz]
    · simp only [St.round] at hi
      split at hi
      · cases hi
      · rename_i hni
        cases hp : s.p i with
        | none => rw [hp] at hi; cases hi
        | some q =>
          obtain ⟨k', o'⟩ := q
          rw [hp] at hi
          cases hi
          have := hpt i _ _ hp
          show _ = some (Value.pointer (some ⟨bl (k' + 1000000 - 1000000), o', none⟩))
          rw [Nat.add_sub_cancel, ← this]
          exact hoth i hni
    · simp only [St.round] at hk
      split at hk
      · cases hk
      · rename_i hk1
        obtain ⟨q1, T, q2⟩ := k5 _ cs hk
        exact ⟨⟨T, q2⟩, q1, fun h => absurd h hk1⟩
    · simp only [St.round] at hk hk'
      split at hk
      · cases hk
      · split at hk'
        · cases hk'
        · have := hinj _ _ _ _ hk hk' he
          omega
  refine wpIn_mono (ha (ρ := some l) (hP h1 w) hwp r0) ?_
  rintro e a1 w1 ⟨s1, bl1, hq1, r1⟩
  cases e <;> first | exact (hq1 : False).elim | skip
  have hq1' : body'.wp P s1 (normQ fun s2 => K s2.h) := hq1
  have g1 := (loopEnv P l D rec bl s.x).keep (H := h1) (W := w) ⟨k1, k2, k3, k4, k5⟩ r1.fr
  refine ⟨_, run_beginRound g1.2.2.1 hst, ?_⟩
  generalize hbz : (Obj.loop { rec with state := .busy }) = busy
  have hput : ∀ (v : World) (o : Obj) k, k ≠ l → (v.putObj l o).heap[k]? = v.heap[k]? := fun v o k hk => World.putObj_heap_other hk
  have r2 : Rel bl1 h1 (w.putObj l busy) N s1 a1 (w1.putObj l busy) := by
    refine ⟨r1.sz, r1.tm, r1.pt, fun k cs hk => ?_, r1.inj, ⟨r1.fr.os, r1.fr.tape, r1.fr.output, by simpa using r1.fr.size, fun k hk hn => ?_, fun k b hk hn => by simpa using r1.fr.fresh k b hk hn, fun k b hk => ?_, fun k c T' fz' hk => ?_⟩, ?_⟩
    · obtain ⟨⟨T, hT⟩, q1, q2⟩ := r1.bx k cs hk
      refine ⟨⟨T, ?_⟩, q1, by simpa using q2⟩
      rw [hput _ _ _ (fun e => by rw [e, g1.2.2.1] at hT; cases hT)]; exact hT
    · by_cases hkl : k = l
      · subst hkl
        rw [World.putObj_heap_same hlt, World.putObj_heap_same (Array.getElem?_eq_some_iff.1 g1.2.2.1).1]
      · rw [hput _ _ _ hkl, hput _ _ _ hkl]; exact r1.fr.block k (by simpa using hk) hn
    · rw [hput _ _ _ (fun e => by rw [e, g1.1] at hk; cases hk)]; exact r1.fr.sub k b hk
    · have hkl : k ≠ l := fun e => by
        rw [e, World.putObj_heap_same hlt, ← hbz] at hk; cases hk
      rw [hput _ _ _ hkl] at hk
      rw [hput _ _ _ hkl]
      exact r1.fr.kind k c T' fz' hk
    · obtain ⟨ms, q1, q2, q3⟩ := r1.df
      refine ⟨ms, q1, q2, fun r hr => ⟨by simpa using (q3 r hr).1, ?_⟩⟩
      rw [hput _ _ _ (fun e => by have := (q3 r hr).2; rw [e, g1.2.2.1] at this; cases this)]; exact (q3 r hr).2
  refine wpIn_mono (hb (ρ := some l) (hP h1 _) hq1' r2) ?_
  rintro e a2 w3 ⟨s2, bl2, hq2, r3⟩
  cases e <;> first | exact (hq2 : False).elim | skip
  have hK : K s2.h := hq2
  have g3 : s2.h l = none ∧ w3.heap[l]? = some busy := by
    have hl2 : (w.putObj l busy).heap[l]? = some busy := World.putObj_heap_same hlt
    have hl3 : l < (w.putObj l busy).heap.size := by simpa using hlt
    refine ⟨?_, by rw [r3.fr.block l hl3 k1]; exact hl2⟩
    cases e : s2.h l with
    | none => rfl
    | some b => have := r3.fr.fresh l b e k1; omega
  have hl3 : w3.heap[l]? = some (.loop { rec with state := .busy }) := by rw [hbz]; exact g3.2
  have hrec : ({ { rec with state := LoopState.busy } with state := if (none : Option Code).isNone then .ready else .done, pending := none } : Loop) = rec := by
    cases rec; simp at hst hpend ⊢; exact ⟨hst.symm, hpend.symm⟩
  refine ⟨_, _, run_endRound none hl3, _, rfl, s2.h, ⟨rfl, hK⟩, ?_⟩
  rw [hrec]
  refine ⟨r3.fr.os, r3.fr.tape, r3.fr.output, by simpa using r3.fr.size, fun k hk hn => ?_, fun k b hk hn => by simpa using r3.fr.fresh k b hk hn, fun k b hk => ?_, fun k c T' fz' hk => ?_⟩
  · by_cases hkl : k = l
    · subst hkl
      rw [World.putObj_heap_same (Array.getElem?_eq_some_iff.1 hl3).1, k3]
    · rw [hput _ _ _ hkl, r3.fr.block k (by simpa using hk) hn, hput _ _ _ hkl]
  · rw [hput _ _ _ (fun e => by rw [e, g3.1] at hk; cases hk)]; exact r3.fr.sub k b hk
  · have hkl : k ≠ l := fun e => by
      rw [e, k3] at hk; cases hk
    rw [hput _ _ _ hkl]
    exact r3.fr.kind k c T' fz' (by rw [hput _ _ _ hkl]; exact hk)

/-- The statement. -/
theorem rf_sound (hP : ∀ h w, P.ok h w) {asg body : Code} {asg' body' : Cd} (ha : SoundAt P N asg asg') (hb : SoundAt P N body body') {g : Operand} {g' : Opd} (hg : trO g = some g') {ps : Array Tmp} (hpN : ∀ p ∈ ps.toList, p < N)
    {H : Hp} {W : World} {s : St} {Q : Exit → St → Prop} {RM' : List (Nat × Nat)} (hwp : (Cd.rf g' ps.toList RM' asg' body').wp P s Q) {bl : Nat → Nat} {a : Act} {w : World} (r : Rel bl H W N s a w) : (Code.rangeFunc g ps asg body).wpIn (Wd none) 0 P.toProgram (Post H W N Q) a w := by
  obtain ⟨fv, hm, n, Item, J, hev, hit, j0, jm, jr, je⟩ := hwp
  obtain ⟨gf, caps, fn0, c0, rfl, hfn, hbody, hname⟩ := hit.fn
  have hge := ev_tr r hg hev
  refine wpIn_rangeFunc ?_
  intro fn _
  obtain ⟨rec, hrec⟩ : ∃ rec : Loop, rec = { state := .ready, pending := none, fn, tmps := a.tmps, params := ps, assign := asg, body, defers := w.heap.size } := ⟨_, rfl⟩
  obtain ⟨w1, hw1⟩ : ∃ w1, (w.alloc (.deferred (some []))).alloc (.loop rec) = w1 := ⟨_, rfl⟩
  have hsz1 : w1.heap.size = w.heap.size + 2 := by rw [← hw1]; simp
  have hL1 : w1.heap[w.heap.size + 1]? = some (.loop rec) := by
    rw [← hw1]; have := World.alloc_heap_new (w.alloc (.deferred (some []))) (.loop rec); rwa [World.size_alloc] at this
  have hoth : ∀ k, k < w.heap.size → w1.heap[k]? = w.heap[k]? := fun k hk => by
    rw [← hw1]
    show ((w.heap.push _).push _)[k]? = _
    rw [Array.getElem?_push, if_neg (by simp; omega), Array.getElem?_push, if_neg (by omega)]
  have hD1 : w1.heap[w.heap.size]? = some (.deferred (some [])) := by
    rw [← hw1]
    show ((w.heap.push _).push _)[w.heap.size]? = _
    rw [Array.getElem?_push, if_neg (by simp), Array.getElem?_push, if_pos rfl]
  have hfr1 : Fr s.h w s.h w1 := Fr.ghost r.sub (by rw [← hw1]; rfl) (by rw [← hw1]; rfl) (by rw [← hw1]; rfl) (by omega) hoth
  have hok1 : (loopEnv P (w.heap.size + 1) w.heap.size rec bl s.x).ok s.h w1 :=
    ⟨unseen hfr1.sub hL1 (fun _ _ _ e => by cases e), unseen hfr1.sub hD1 (fun _ _ _ e => by cases e), hL1, hD1, fun k cs hk => by
      obtain ⟨⟨T, hT⟩, q1, _⟩ := r.bx k cs hk
      exact ⟨q1, T, by rw [hoth _ (Array.getElem?_eq_some_iff.1 hT).1]; exact hT⟩⟩
  have htri := hit.run (loopEnv P (w.heap.size + 1) w.heap.size rec bl s.x) rfl (w.heap.size + 1) J s.h jm j0 (fun i h h1 args hi hj hle hI => by
    obtain ⟨q1, q2⟩ := jr i h h1 args hi hj hle hI
    exact round_sound hP ha hb (by rw [hrec]) (by rw [hrec]) (ps := ps.toList) (by rw [hrec]) hpN (by rw [hrec]) (by rw [hrec]) (by rw [hrec]; exact r.sz) (s := s) (by rw [hrec]; exact r.tm) (by rw [hrec]; exact r.pt) r.inj q1 q2) w1 hfr1.sub hok1
  have hcall : (Deferred.ofValue (.func (.func gf) #[] caps) [Value.func (.yield (w.heap.size + 1)) #[] #[]].toArray >>= fun d => invoke d.target d.args).run P.toProgram w1 =
      .ok (.enter gf (#[Value.func (.yield (w.heap.size + 1)) #[] #[]] ++ caps)) w1 := by
    have hname' : ¬ fn0.name = "runtime.NumGoroutine" := by simpa using hname
    simp [Deferred.ofValue, invoke, callFunc, hfn, hname', hbody]
  have htri' : CallV P.toProgram (.func (.func gf) #[] caps) [Value.func (.yield (w.heap.size + 1)) #[] #[]] w1 fun _ w' => ∃ h', J n h' ∧ Fr s.h w1 h' w' := htri
  unfold CallV at htri'
  rw [hcall] at htri'
  refine ⟨w.heap.size + 1, [mark1 w.heap.size], w1, { target := .fn (.func gf) caps, args := #[.func (.yield (w.heap.size + 1)) #[] #[]] }, w1, gf, #[Value.func (.yield (w.heap.size + 1)) #[] #[]] ++ caps, w1, ?_, ?_, (fun _ _ => trivial), ?_, (fun hd => by cases hd), ?_⟩
  · rw [← hw1, hrec]; exact run_enterLoop_outer _ _ _ _ _
  · simp only [resolve, hge]
    simp [go_sem]
  · have hname' : ¬ fn0.name = "runtime.NumGoroutine" := by simpa using hname
    simp [invoke, callFunc, hfn, hname', hbody]
  · refine CallsIn.mono (F := Wd none) htri' ?_
    rintro e w2 ⟨v, rfl, h', hJ, hf⟩
    obtain ⟨o1, o2, o3, o4, o5⟩ := (loopEnv P (w.heap.size + 1) w.heap.size rec bl s.x).keep hok1 hf
    have hpn : rec.pending = none := by rw [hrec]
    obtain ⟨ob, hob⟩ : ∃ ob, ob = Obj.loop { rec with state := .exhausted } := ⟨_, rfl⟩
    have hend := run_endLoop (P := P.toProgram) o3 (by rw [hrec]; simp)
    rw [← hob, hpn] at hend
    refine ⟨none, _, hend, ?_⟩
    have hput : ∀ (o : Obj) k, k ≠ w.heap.size + 1 → (w2.putObj (w.heap.size + 1) o).heap[k]? = w2.heap[k]? := fun o k hk => World.putObj_heap_other hk
    have old : ∀ k, k < w.heap.size → s.h k = none → (w2.putObj (w.heap.size + 1) ob).heap[k]? = w.heap[k]? := fun k hk hn => by
      rw [hput _ _ (by omega), hf.block k (by omega) hn, hoth k hk]
    have hfin : Fr s.h w h' (w2.putObj (w.heap.size + 1) ob) :=
      ⟨hf.os.trans hfr1.os, hf.tape.trans hfr1.tape, hf.output.trans hfr1.output, by have := hf.size; simp; omega, old, fun k b hk hn => by have := hf.fresh k b hk hn; omega, fun k b hk => by
        rw [hput _ _ (fun e => by rw [e, o1] at hk; cases hk)]; exact hf.sub k b hk, fun k cs T fz e => by
        have hlt := (Array.getElem?_eq_some_iff.1 e).1
        rw [hput _ _ (by omega)]
        exact hf.kind k cs T fz (by rw [hoth k hlt]; exact e)⟩
    refine ⟨{ s with h := h' }, bl, je h' hJ, r.sz, r.tm, r.pt, fun k cs hk => ?_, r.inj, r.fr.trans hfin, ?_⟩
    · obtain ⟨⟨T, hT⟩, q1, q2⟩ := r.bx k cs hk
      have hlt : bl k < w.heap.size := (Array.getElem?_eq_some_iff.1 hT).1
      refine ⟨⟨T, by rw [old _ hlt q1]; exact hT⟩, ?_, q2⟩
      cases e : h' (bl k) with
      | none => exact e
      | some b => have := hf.fresh _ b e q1; omega
    · obtain ⟨ms, q1, q2, q3⟩ := r.df
      have hlts : ∀ x ∈ ms, x < w.heap.size := fun x hx => (Array.getElem?_eq_some_iff.1 (q3 x hx).2).1
      refine ⟨w.heap.size :: ms, by simp [q1, mark1], List.nodup_cons.2 ⟨fun hin => by have := hlts _ hin; omega, q2⟩, fun x hx => ?_⟩
      rcases List.mem_cons.1 hx with rfl | hx
      · exact ⟨r.fr.size, by rw [hput _ _ (by omega)]; exact o4⟩
      · exact ⟨(q3 x hx).1, by rw [old x (hlts x hx) (unseen r.sub (q3 x hx).2 (fun _ _ _ e => by cases e))]; exact (q3 x hx).2⟩

/-- **CODE.** -/
theorem code_sound (hm : P.follows .mixedOrders = true) : ∀ (c : Code) (d : Cd) {RM : List (Nat × Nat)}, chk P RM N c d = true → (d.norf = true ∨ ∀ h w, P.ok h w) → ∀ {ρ : Option Nat} (_ : d.norf = true ∨ ρ = none) {H : Hp} {W : World}, P.ok H W → ∀ {s : St} {Q : Exit → St → Prop}, d.wp P s Q → ∀ {bl : Nat → Nat} {a : Act} {w : World}, Rel bl H W N s a w → c.wpIn (Wd ρ) 0 P.toProgram (Post H W N Q) a w := by
  intro c
  have nf2 : ∀ {x y : Cd} {p : Prop}, ((x.norf && y.norf) = true ∨ p) → (x.norf = true ∨ p) ∧ (y.norf = true ∨ p) := fun h => by
    rcases h with h | h
    · rw [Bool.and_eq_true] at h; exact ⟨Or.inl h.1, Or.inl h.2⟩
    · exact ⟨Or.inr h, Or.inr h⟩
  induction c with
  | skip =>
    intro d RM hc hP ρ hρ H W hok s Q hd bl a w r
    cases d <;> first | exact (hd : False).elim | (simp [chk] at hc; done) | skip
    exact wpIn_skip ⟨s, bl, hd, r⟩
  | label l =>
    intro d RM hc hP ρ hρ H W hok s Q hd bl a w r
    cases d <;> first | exact (hd : False).elim | (simp [chk] at hc; done) | skip
    exact wpIn_label ⟨s, bl, hd, r⟩
  | region id ops draw =>
    intro d RM hc hP ρ hρ H W hok s Q hd bl a w r
    cases d <;> first | exact (hd : False).elim | (simp [chk] at hc; done) | skip
    rename_i its ks
    simp only [chk] at hc
    haveI : Nonempty (P.ok H W) := ⟨hok⟩
    exact region_sound hm hc r hd (fun a' w' ⟨s', bl', hk, r'⟩ => ⟨_, bl', hk, r'.keep ks⟩)
  | seq x y ihx ihy =>
    intro d RM hc hP ρ hρ H W hok s Q hd bl a w r
    cases d <;> first | exact (hd : False).elim | (simp [chk] at hc; done) | skip
    rename_i x' y'
    simp only [chk, Bool.and_eq_true] at hc
    refine wpIn_seq (wpIn_mono (ihx x' hc.1 (nf2 hP).1 (nf2 hρ).1 hok hd r) ?_)
    rintro e a' w' ⟨s', bl', hq, r'⟩
    cases e with
    | normal => exact ihy y' hc.2 (nf2 hP).2 (nf2 hρ).2 hok hq r'
    | _ => exact ⟨s', bl', hq, r'⟩
  | cond c x y ihx ihy =>
    intro d RM hc hP ρ hρ H W hok s Q hd bl a w r
    cases d <;> first | exact (hd : False).elim | (simp [chk] at hc; done) | skip
    rename_i c' x' y'
    simp only [chk, Bool.and_eq_true, beq_iff_eq] at hc
    obtain ⟨⟨h1, h2⟩, h3⟩ := hc
    obtain ⟨t, ht, h4, h5⟩ := hd
    exact wpIn_cond_split (ev_tr r h1 ht) (fun e => ihx x' h2 (nf2 hP).1 (nf2 hρ).1 hok (h4 e) r) (fun e => ihy y' h3 (nf2 hP).2 (nf2 hρ).2 hok (h5 e) r)
  | block id x ih =>
    intro d RM hc hP ρ hρ H W hok s Q hd bl a w r
    cases d <;> first | exact (hd : False).elim | (simp [chk] at hc; done) | skip
    rename_i id' x'
    simp only [chk, Bool.and_eq_true, beq_iff_eq] at hc
    obtain ⟨rfl, h2⟩ := hc
    refine wpIn_block (wpIn_mono (ih x' h2 hP hρ hok hd r) ?_)
    rintro e a' w' ⟨s', bl', hq, r'⟩
    cases e with
    | exit i =>
      simp only [inBlockQ] at hq
      simp only [Exit.inBlock]
      split
      · rw [if_pos ‹_›] at hq; exact ⟨s', bl', hq, r'⟩
      · rw [if_neg ‹_›] at hq; exact ⟨s', bl', hq, r'⟩
    | _ => exact ⟨s', bl', hq, r'⟩
  | scope x ih =>
    intro d RM hc hP ρ hρ H W hok s Q hd bl a w r
    cases d <;> first | exact (hd : False).elim | (simp [chk] at hc; done) | skip
    rename_i x'
    simp only [chk] at hc
    refine wpIn_scope (wpIn_mono (ih x' hc hP hρ hok hd r) ?_)
    rintro e a' w' ⟨s', bl', hq, r'⟩
    cases e with
    | goto i => exact (hq : False).elim
    | _ => exact ⟨s', bl', hq, r'⟩
  | loop x ih =>
    intro d RM hc hP ρ hρ H W hok s Q hd bl a w r
    cases d <;> first | exact (hd : False).elim | (simp [chk] at hc; done) | skip
    rename_i x'
    simp only [chk] at hc
    obtain ⟨α, S, I, μ, ⟨x0, hI0, hw0⟩, hround⟩ := hd
    refine wpIn_loop_ghost (fun n a w => ∃ x bl, μ x = n ∧ I x ∧ Rel bl H W N (S x) a w) (μ x0) ⟨x0, bl, rfl, hI0, r.weak hw0⟩ ?_
    rintro n a w ⟨x1, bl1, rfl, hI, r1⟩
    refine wpIn_mono (ih x' hc hP hρ hok (hround x1 hI) r1) ?_
    rintro e a' w' ⟨s', bl', hq, r'⟩
    cases e with
    | normal =>
      obtain ⟨x2, hI2, hw2, hlt⟩ := hq
      exact ⟨μ x2, hlt, x2, bl', rfl, hI2, r'.weak hw2⟩
    | _ => exact ⟨s', bl', hq, r'⟩
  | rangeFunc g ps x y ihx ihy =>
    intro d RM hc hP ρ hρ H W hok s Q hd bl a w r
    cases d <;> first | exact (hd : False).elim | (simp [chk] at hc; done) | skip
    rename_i g' ps' RM' x' y'
    simp only [chk, Bool.and_eq_true, beq_iff_eq] at hc
    obtain ⟨⟨⟨⟨⟨⟨h1, rfl⟩, h2⟩, h3⟩, h4⟩, h5⟩, h6⟩ := hc
    have hP' : ∀ h w, P.ok h w := by rcases hP with h | h; cases h; exact h
    have hρ' : ρ = none := by rcases hρ with h | h; cases h; exact h
    subst hρ'
    exact rf_sound hP' (fun {ρ} {H} {W} hok => ihx x' h5 (Or.inl h3) (Or.inl h3) hok) (fun {ρ} {H} {W} hok => ihy y' h6 (Or.inl h4) (Or.inl h4) hok) h1 (fun p hp => by simpa using List.all_eq_true.1 h2 p hp) hd r
  | exit id =>
    intro d RM hc hP ρ hρ H W hok s Q hd bl a w r
    cases d <;> first | exact (hd : False).elim | (simp [chk] at hc; done) | skip
    simp only [chk, beq_iff_eq] at hc
    subst hc
    exact wpIn_exit ⟨s, bl, hd, r⟩
  | ret =>
    intro d RM hc hP ρ hρ H W hok s Q hd bl a w r
    cases d <;> first | exact (hd : False).elim | (simp [chk] at hc; done) | skip
    exact wpIn_ret ⟨s, bl, hd, r⟩
  | _ =>
    intro d RM hc hP ρ hρ H W hok s Q hd
    cases d <;> first | exact (hd : False).elim | (simp [chk] at hc; done)

end
end Go.Proofs.Ytmfafadchpglgaa

/- The calculus, part 13: a function's contract out of its body. No program's text. -/
namespace Go.Proofs.Ytmfafadchpglgaa
open Go.RowKit

inductive RV where
  | tmp (t : Nat)
  | cell (a : Nat) (sz : Option Nat)
  | cellp (a : Nat) (sz : Option Nat)
  deriving DecidableEq

def RV.val (s : St) : RV → Option Value
  | .tmp t => s.t t
  | .cell a sz =>
    match s.p a with
    | some (k, off) => (s.x k).bind fun cs => cld cs off sz
    | none => none
  | .cellp a sz => (match s.t a with | some (.pointer (some ad)) => hld s.h ad sz | _ => none)

def RV.vals (s : St) : List RV → Option (List Value)
  | [] => some []
  | r :: rs =>
    match r.val s, RV.vals s rs with
    | some v, some vs => some (v :: vs)
    | _, _ => none

def oneOrTuple : List Value → Value
  | [v] => v
  | vs => .tuple vs.toArray

/-- What a function's body must come to. -/
def fnQ (rvs : List RV) (R : Value → Hp → Prop) : Exit → St → Prop := fun e s =>
  match e with
  | .ret | .normal => (match RV.vals s rvs with | some vs => R (oneOrTuple vs) s.h | none => False)
  | _ => False

def chkRes (P : Program) : List ResultVar → List RV → Bool
  | [], [] => true
  | .tmp t :: rs, .tmp t' :: rs' => t == t' && chkRes P rs rs'
  | .cell a T :: rs, .cell a' sz :: rs' => a == a' && (ldT P T == some sz) && chkRes P rs rs'
  | .cell a T :: rs, .cellp a' sz :: rs' => a == a' && (ldT P T == some sz) && chkRes P rs rs'
  | _, _ => false

/-- The arguments in their slots. -/
def argsE : List Value → Nat → List (Nat × Value)
  | [], _ => []
  | v :: r, i => (i, v) :: argsE r (i + 1)

def St.start (args : List Value) (h : Hp) : St := ⟨E (argsE args 0), E [], E [], h⟩

theorem argsE_get : ∀ {l : List Value} {k i : Nat} {v : Value}, E (argsE l k) i = some v → k ≤ i ∧ l[i - k]? = some v
  | [], k, i, v, h => by cases h
  | u :: l, k, i, v, h => by
    simp only [argsE, E] at h
    split at h
    · rename_i e; subst e; cases h; exact ⟨Nat.le_refl _, by simp⟩
    · obtain ⟨h1, h2⟩ := argsE_get h
      refine ⟨by omega, ?_⟩
      have : i - k = (i - (k + 1)) + 1 := by omega
      rw [this]
      simpa using h2

section
variable {P : Env} {bl : Nat → Nat} {H : Hp} {W : World} {N : Nat} {s : St} {a : Act} {w : World}

def resSem (tmps : Array Value) (x : ResultVar) : Sem Value :=
  match x with
  | .tmp t => pure (tmps.getD t undef)
  | .cell p t => do loadVar t (← asAddr (tmps.getD p undef))

theorem results_eq (fn : Func) (tmps : Array Value) : results fn tmps = (do let vs ← fn.results.mapM (resSem tmps); pure (if h : vs.size = 1 then vs[0] else .tuple vs)) := rfl

theorem rv_run (r : Rel bl H W N s a w) {x : ResultVar} {y : RV} (hc : chkRes P [x] [y] = true) {v : Value} (hv : y.val s = some v) :
    (resSem a.tmps x).run P w = .ok v w := by
  unfold resSem
  cases x with
  | tmp t =>
    cases y with
    | tmp t' =>
      simp only [chkRes, Bool.and_true, beq_iff_eq] at hc
      subst hc
      have := r.tm t v hv
      simp [this]
    | cell p sz => cases hc
    | cellp p sz => cases hc
  | cell p T =>
    cases y with
    | tmp t' => cases hc
    | cell p' sz =>
      simp only [chkRes, Bool.and_true, Bool.and_eq_true, beq_iff_eq] at hc
      obtain ⟨rfl, ht⟩ := hc
      simp only [RV.val] at hv
      split at hv
      · rename_i k off hp
        have e1 := r.pt p k off hp
        cases hx : s.x k with
        | none => rw [hx] at hv; cases hv
        | some cs =>
          rw [hx] at hv
          simp only [Option.bind_some] at hv
          obtain ⟨⟨T', hT⟩, _, _⟩ := r.bx k cs hx
          simp [e1, asAddr, run_ld_row ht hT hv]
      · cases hv
    | cellp p' sz =>
      simp only [chkRes, Bool.and_true, Bool.and_eq_true, beq_iff_eq] at hc
      obtain ⟨rfl, ht⟩ := hc
      simp only [RV.val] at hv
      split at hv
      · rename_i ad hp
        have e1 := r.tm p _ hp
        simp [e1, asAddr, run_ld ht r.sub hv]
      · cases hv

theorem rvs_run (r : Rel bl H W N s a w) : ∀ {xs : List ResultVar} {ys : List RV}, chkRes P xs ys = true → ∀ {vs : List Value}, RV.vals s ys = some vs →
    (xs.mapM (resSem a.tmps)).run P w = .ok vs w
  | [], [], _, vs, h => by cases h; simp
  | [], _ :: _, hc, _, _ => by cases hc
  | .tmp _ :: _, [], hc, _, _ => by cases hc
  | .cell _ _ :: _, [], hc, _, _ => by cases hc
  | x :: xs, y :: ys, hc, vs, h => by
    have hc2 : chkRes P [x] [y] = true ∧ chkRes P xs ys = true := by
      cases x <;> cases y <;> simp_all [chkRes]
    simp only [RV.vals] at h
    split at h
    · rename_i v vs' h1 h2
      cases h
      have e1 := rv_run (P := P) r hc2.1 h1
      have e2 := rvs_run r hc2.2 h2
      simp only [List.mapM_cons, Sem.run_bind]
      rw [e1]
      simp only [Result.andThen_ok, Sem.run_bind]
      rw [e2]
      rfl
    · cases h

theorem results_run (r : Rel bl H W N s a w) {fn : Func} {rvs : List RV} (hc : chkRes P fn.results.toList rvs = true) {vs : List Value} (h : RV.vals s rvs = some vs) : (results fn a.tmps).run P w = .ok (oneOrTuple vs) w := by
  have e := rvs_run (P := P) r hc h
  rw [results_eq, Sem.run_bind, Array.mapM_eq_mapM_toList, Sem.run_map]
  rw [e]
  simp only [Result.andThen_ok, Sem.run_pure, List.size_toArray]
  congr 1
  match vs with
  | [] => rfl
  | [v] => rfl
  | u :: v :: vs => simp [oneOrTuple]

theorem run_take {x : Nat} (hx : w.heap[x]? = some (.deferred (some []))) : (Instr.takeDeferred x).run P w = .ok [] { w with heap := w.heap.setIfInBounds x (.deferred none) } := by
  simp [Instr.takeDeferred, getObj, setObj, Sem.run, hx]

theorem Rel.unmark (r : Rel bl H W N s a w) {x : Nat} {ms : List Nat} (hnd : (x :: ms).Nodup) (hms : ∀ y ∈ x :: ms, W.heap.size ≤ y ∧ w.heap[y]? = some (.deferred (some []))) :
    Rel bl H W N s { a with defers := ms.map mark1 } { w with heap := w.heap.setIfInBounds x (.deferred none) } := by
  have hx := (hms x (by simp)).2
  have hoth : ∀ j, j ≠ x → (w.heap.setIfInBounds x (.deferred none))[j]? = w.heap[j]? := fun j hj => by
    rw [Array.getElem?_setIfInBounds]; simp [Ne.symm hj]
  refine ⟨r.sz, r.tm, r.pt, fun k cs hk => ?_, r.inj, ?_, ms, rfl, (List.nodup_cons.1 hnd).2, fun y hy => ?_⟩
  · obtain ⟨⟨T, hT⟩, h2, h3⟩ := r.bx k cs hk
    refine ⟨⟨T, ?_⟩, h2, h3⟩
    rw [← hT]
    exact hoth _ (fun e => by rw [e, hx] at hT; cases hT)
  · refine ⟨r.fr.os, r.fr.tape, r.fr.output, by simpa using r.fr.size, fun j hj hn => ?_, r.fr.fresh, fun j b hj => ?_, fun j c T' fz' hj => ?_⟩
    · have := hoth j (by have := (hms x (by simp)).1; omega)
      rw [← r.fr.block j hj hn]
      exact this
    · have hne : j ≠ x := fun e => by
        obtain ⟨T, fz, hg, _⟩ := Hp.row r.sub hj
        rw [e, hx] at hg; cases hg
      have := hoth j hne
      obtain ⟨o, ho, hf⟩ := r.sub j b hj
      exact ⟨o, this.trans ho, hf⟩
    · have hlt := (Array.getElem?_eq_some_iff.1 hj).1
      have := hoth j (by have := (hms x (by simp)).1; omega)
      obtain ⟨c', e⟩ := r.fr.kind j c T' fz' hj
      exact ⟨c', this.trans e⟩
  · have hne : y ≠ x := fun e => (List.nodup_cons.1 hnd).1 (e ▸ hy)
    obtain ⟨h1, h2⟩ := hms y (by simp [hy])
    exact ⟨h1, (hoth y hne).trans h2⟩

theorem leaves {fn : Func} {rvs : List RV} (hc : chkRes P fn.results.toList rvs = true) {vs : List Value} (hv : RV.vals s rvs = some vs) {R : Ending → World → Prop} (hR : ∀ a w, Rel bl H W N s a w → R (.returned (oneOrTuple vs)) w) :
    ∀ {ms : List Nat} {a : Act} {w : World}, Rel bl H W N s a w → a.defers = ms.map mark1 → ms.Nodup → (∀ y ∈ ms, W.heap.size ≤ y ∧ w.heap[y]? = some (.deferred (some []))) →
      LeavesInM Fence.wide 0 P fn a.tmps R a.defers .returning w := by
  intro ms
  induction ms with
  | nil =>
    intro a w r hd _ _
    rw [hd]
    exact ⟨_, results_run r hc hv, hR a w r⟩
  | cons x ms ih =>
    intro a w r hd hnd hms
    rw [hd]
    refine ⟨by simp, Or.inl ⟨x, _, rfl, run_take (hms x (by simp)).2, ?_⟩⟩
    have r' := r.unmark hnd hms
    have h := ih r' rfl (List.nodup_cons.1 hnd).2 (fun y hy => ?_)
    · exact h
    · have hne : y ≠ x := fun e => (List.nodup_cons.1 hnd).1 (e ▸ hy)
      obtain ⟨h1, h2⟩ := hms y (by simp [hy])
      refine ⟨h1, ?_⟩
      rw [← h2]
      show (w.heap.setIfInBounds x _)[y]? = _
      rw [Array.getElem?_setIfInBounds]; simp [Ne.symm hne]

/-- **A FUNCTION's CONTRACT OUT OF ITS BODY.** -/
theorem tri_of_body (hm : P.follows .mixedOrders = true) {f : Nat} {fn : Func} {c : Code} {d : Cd} {RM : List (Nat × Nat)} {rvs : List RV} (hf : P.funcs[f]? = some fn) (hb : fn.body = some c) (hname : (fn.name == "runtime.NumGoroutine") = false)
    (hchk : chk P RM fn.ntmps c d = true) (hres : chkRes P fn.results.toList rvs = true) {args caps : List Value} (hn : args.length + caps.length ≤ fn.ntmps) {h : Hp} {R : Value → Hp → Prop}
    (hrf : d.norf = true ∨ ∀ h w, P.ok h w) (hwp : d.wp P (St.start (args ++ caps) h) (fnQ rvs R)) : Tri P (.func (.func f) #[] caps.toArray) args h R := by
  intro w hs hok
  have hbody : fn.body.isNone = false := by rw [hb]; rfl
  have hcall : (Deferred.ofValue (.func (.func f) #[] caps.toArray) args.toArray >>= fun d => invoke d.target d.args).run P w = .ok (.enter f (args ++ caps).toArray) w := by
    have hname' : ¬ fn.name = "runtime.NumGoroutine" := by simpa using hname
    simp [Deferred.ofValue, invoke, callFunc, hf, hname', hb]
  unfold CallV
  rw [hcall]
  refine callsIn_of_wp_marks hf hb trivial ?_
  have r0 : Rel (fun _ => 0) h w fn.ntmps (St.start (args ++ caps) h) { tmps := (args ++ caps).toArray ++ Array.replicate (fn.ntmps - (args ++ caps).toArray.size) undef, defers := [] } w := by
    refine ⟨by simp; omega, fun i v hi => ?_, (fun i k off hi => (by cases hi)), (fun k cs hk => (by cases hk)), (fun k k' c c' hk => (by cases hk)), Fr.refl hs, [], rfl, List.nodup_nil, (fun y hy => (by cases hy))⟩
    obtain ⟨_, h2⟩ := argsE_get hi
    simp only [Nat.sub_zero] at h2
    have hlt : i < (args ++ caps).length := (List.getElem?_eq_some_iff.1 h2).1
    rw [Array.getElem?_append_left (by simpa using hlt)]
    simpa using h2
  refine wpIn_mono (code_sound hm c d hchk hrf (ρ := none) (Or.inr rfl) hok hwp r0) ?_
  rintro e a' w' ⟨s', bl', hq, r'⟩
  have hret : ∀ vs, RV.vals s' rvs = some vs → R (oneOrTuple vs) s'.h → LeavesInM Fence.wide 0 P fn a'.tmps (fun e w'' => ∃ v, e = .returned v ∧ ∃ h', R v h' ∧ Fr h w h' w'') a'.defers .returning w' := fun vs hv hR => by
    obtain ⟨ms, h1, h2, h3⟩ := r'.df
    exact leaves hres hv (fun a w r => ⟨_, rfl, s'.h, hR, r.fr⟩) r' h1 h2 h3
  cases e with
  | ret =>
    simp only [fnQ] at hq
    split at hq
    · rename_i vs hv; exact hret vs hv hq
    · exact hq.elim
  | normal =>
    simp only [fnQ] at hq
    split at hq
    · rename_i vs hv; exact hret vs hv hq
    · exact hq.elim
  | _ => exact (hq : False).elim

/-- The whole check of a function, for the kernel. -/
def chkFn (P : Program) (fn : Func) (RM : List (Nat × Nat)) (d : Cd) (rvs : List RV) : Bool :=
  match fn.body with
  | some c => chk P RM fn.ntmps c d && chkRes P fn.results.toList rvs && !(fn.name == "runtime.NumGoroutine")
  | none => false

theorem tri_of_chk (hm : P.follows .mixedOrders = true) {f : Nat} {fn : Func} (hf : P.funcs[f]? = some fn) {d : Cd} {RM : List (Nat × Nat)} {rvs : List RV} (hc : chkFn P fn RM d rvs = true)
    {N : Nat} (hN : fn.ntmps = N) {args caps : List Value} {h : Hp} {R : Value → Hp → Prop} (hn : args.length + caps.length ≤ N) (hrf : d.norf = true ∨ ∀ h w, P.ok h w) (hwp : d.wp P (St.start (args ++ caps) h) (fnQ rvs R)) : Tri P (.func (.func f) #[] caps.toArray) args h R := by
  subst hN
  unfold chkFn at hc
  split at hc
  · rename_i c hb
    simp only [Bool.and_eq_true, Bool.not_eq_true'] at hc
    exact tri_of_body hm hf hb hc.2 hc.1.1 hc.1.2 hn hrf hwp
  · cases hc

end
end Go.Proofs.Ytmfafadchpglgaa

/- The calculus, part 14: less said of a state. No program's text. -/
namespace Go.Proofs.Ytmfafadchpglgaa
open Go.RowKit

/-- s0 says no more than s, of the same memory. -/
structure St.weakT (s0 s : St) : Prop where
  t : ∀ i v, s0.t i = some v → s.t i = some v
  p : ∀ i v, s0.p i = some v → s.p i = some v
  x : ∀ i v, s0.x i = some v → s.x i = some v
  h : s.h = s0.h

theorem St.weakT.refl (s : St) : s.weakT s := ⟨fun _ _ h => h, fun _ _ h => h, fun _ _ h => h, rfl⟩
theorem St.weak.transT {s0 s1 s2 : St} (a : s0.weak s1) (b : s1.weakT s2) : s0.weak s2 :=
  ⟨fun i v e => b.t i v (a.t i v e), fun i v e => b.p i v (a.p i v e), fun i v e => b.x i v (a.x i v e), by rw [b.h]; exact a.h⟩
theorem St.weakT.weak {s0 s : St} (a : s0.weakT s) : s0.weak s := ⟨a.t, a.p, a.x, by rw [a.h]; exact Hp.le_refl _⟩

theorem ev_weak {s0 s : St} (w : s0.weakT s) {o : Opd} {v : Value} (h : s0.ev o = some v) : s.ev o = some v := by
  cases o with
  | t n => exact w.t n v h
  | _ => exact h
theorem evs_weak {s0 s : St} (w : s0.weakT s) : ∀ {l : List Opd} {vs : List Value}, s0.evs l = some vs → s.evs l = some vs
  | [], vs, h => h
  | o :: r, vs, h => by
    simp only [St.evs] at h ⊢
    split at h
    · rename_i v vs' h1 h2
      cases h
      rw [ev_weak w h1, evs_weak w h2]
    · cases h
theorem vals_weak {it : It} {s0 s : St} (w : s0.weakT s) {vs : List Value} (h : it.vals s0 = some vs) : it.vals s = some vs := by
  cases it with
  | pick c a b =>
    simp only [It.vals] at h ⊢
    split at h
    · rename_i hc; rw [ev_weak w hc]; exact evs_weak w h
    · rename_i hc; rw [ev_weak w hc]; exact evs_weak w h
    · cases h
  | _ => exact evs_weak w h
theorem inp_weak {it : It} {s0 s : St} (w : s0.weakT s) {i : Inp} (h : it.inp s0 = some i) : it.inp s = some i := by
  simp only [It.inp] at h ⊢
  cases hv : it.vals s0 with
  | none => rw [hv] at h; cases h
  | some vs =>
    rw [hv] at h
    rw [vals_weak w hv]
    simp only at h ⊢
    cases hp : it.ptr with
    | none => rw [hp] at h; exact h
    | some q =>
      obtain ⟨e, k⟩ := q
      rw [hp] at h
      simp only at h ⊢
      split at h
      · rename_i h1 h2
        rw [w.p _ _ h1, w.x _ _ h2]
        exact h
      · cases h

theorem ap_weak {e : Ef} {s0 s : St} (w : s0.weakT s) : (e.ap s0).weakT (e.ap s) := by
  have hu : ∀ {α : Type} {f g : Nat → Option α} (d : Nat) (u : Option α), (∀ i v, f i = some v → g i = some v) → ∀ i v, upd f d u i = some v → upd g d u i = some v := by
    intro α f g d u hfg i v h
    unfold upd at *
    split <;> simp_all
  cases e with
  | val d v =>
    cases d with
    | none => exact w
    | some d => exact ⟨hu d _ w.t, hu d _ w.p, w.x, w.h⟩
  | ptr d k o =>
    cases d with
    | none => exact w
    | some d => exact ⟨hu d _ w.t, hu d _ w.p, w.x, w.h⟩
  | bx k c => exact ⟨w.t, w.p, hu k _ w.x, w.h⟩
  | new d c =>
    refine ⟨hu d _ w.t, fun i v h => ?_, hu d _ w.x, w.h⟩
    simp only [Ef.ap] at h ⊢
    split
    · rw [if_pos ‹_›] at h; exact h
    · rw [if_neg ‹_›] at h
      split at h
      · rename_i k o hp
        rw [w.p _ _ hp]
        exact h
      · cases h
theorem h_weak {s0 s : St} (w : s0.weakT s) (h' : Hp) : ({ s0 with h := h' } : St).weakT { s with h := h' } := ⟨w.t, w.p, w.x, rfl⟩

variable {P : Env}

theorem It.step_weak {it : It} {d : Option Nat} {s0 s : St} (w : s0.weakT s) {K K' : St → Prop} (hk : ∀ s0 s, s0.weakT s → K s0 → K' s) (hh : it.step P d s0 K) : it.step P d s K' := by
  unfold It.step at *
  split at hh
  · exact hh.elim
  · rename_i i hi
    rw [inp_weak w hi, w.h]
    exact It.sem_mono (fun e h' _ _ _ _ hx => hk _ _ (ap_weak (h_weak w h')) hx) hh

theorem Tr.step_weak {x : Tr} {s0 s : St} (w : s0.weakT s) {K K' : St → Prop} (hk : ∀ s0 s, s0.weakT s → K s0 → K' s) (hh : x.step P s0 K) : x.step P s K' := by
  cases hg : x.g with
  | none => rw [Tr.step_none hg] at hh ⊢; exact It.step_weak w hk hh
  | some q =>
    obtain ⟨sl, b⟩ := q
    rw [Tr.step_some hg] at hh ⊢
    cases ht : s0.t sl with
    | none => rw [ht] at hh; exact hh.elim
    | some v =>
      rw [ht] at hh
      rw [w.t _ _ ht]
      cases v with
      | bool c => exact ⟨fun e => It.step_weak w hk (hh.1 e), fun e => hk _ _ (ap_weak w) (hh.2 e)⟩
      | tuple _ => exact hk _ _ (ap_weak w) hh
      | _ => exact (hh : False).elim

theorem flat_weak : ∀ {l : List Tr} {s0 s : St} (_ : s0.weakT s) {K K' : St → Prop}, (∀ s0 s, s0.weakT s → K s0 → K' s) → flat P l s0 K → flat P l s K'
  | [], _, _, w, _, _, hk, hh => hk _ _ w hh
  | _ :: _, _, _, w, _, _, hk, hh => Tr.step_weak w (fun _ _ w' h' => flat_weak w' hk h') hh

theorem E_keepL {α : Type} {f : Nat → Option α} : ∀ {ks : List Nat} {i : Nat}, E (keepL f ks) i = if i ∈ ks then f i else none
  | [], i => by simp [keepL, E]
  | k :: ks, i => by
    simp only [keepL]
    split
    · rename_i v hv
      simp only [E]
      by_cases h : i = k
      · subst h; simp [hv]
      · simp [h, E_keepL (ks := ks)]
    · rename_i hv
      rw [E_keepL (ks := ks)]
      by_cases h : i = k
      · subst h; simp [hv]
      · simp [h]

theorem keep_weak {s0 s : St} (w : s0.weakT s) (ks : List Nat) : (s0.keep ks).weakT (s.keep ks) := by
  have hu : ∀ {α : Type} {f g : Nat → Option α}, (∀ i v, f i = some v → g i = some v) → ∀ i v, E (keepL f ks) i = some v → E (keepL g ks) i = some v := by
    intro α f g hfg i v h
    rw [E_keepL] at h ⊢
    split <;> simp_all
  exact ⟨hu w.t, hu w.p, hu w.x, w.h⟩

theorem thenQ_weak {f f' : St → Prop} {Q Q' : Exit → St → Prop} (hf : ∀ s0 s, s0.weakT s → f s0 → f' s) (hq : ∀ e s0 s, s0.weakT s → Q e s0 → Q' e s) : ∀ e s0 s, s0.weakT s → thenQ f Q e s0 → thenQ f' Q' e s := by
  intro e s0 s w h
  cases e <;> first | exact hf _ _ w h | exact hq _ _ _ w h

theorem inBlockQ_weak {id : Nat} {Q Q' : Exit → St → Prop} (hq : ∀ e s0 s, s0.weakT s → Q e s0 → Q' e s) : ∀ e s0 s, s0.weakT s → inBlockQ id Q e s0 → inBlockQ id Q' e s := by
  intro e s0 s w h
  cases e <;> simp only [inBlockQ] at h ⊢
  case exit i =>
    split
    · rw [if_pos ‹_›] at h; exact hq _ _ _ w h
    · rw [if_neg ‹_›] at h; exact hq _ _ _ w h
  all_goals exact hq _ _ _ w h

theorem noGotoQ_weak {Q Q' : Exit → St → Prop} (hq : ∀ e s0 s, s0.weakT s → Q e s0 → Q' e s) : ∀ e s0 s, s0.weakT s → noGotoQ Q e s0 → noGotoQ Q' e s := by
  intro e s0 s w h
  cases e <;> first | exact h | exact hq _ _ _ w h
theorem normQ_weak {K K' : St → Prop} (hk : ∀ s0 s, s0.weakT s → K s0 → K' s) : ∀ e s0 s, s0.weakT s → normQ K e s0 → normQ K' e s := by
  intro e s0 s w h
  cases e <;> first | exact hk _ _ w h | exact h
theorem updL_mono : ∀ (ps : List Nat) (args : List Value) {f g : Nat → Option Value}, (∀ i v, f i = some v → g i = some v) → ∀ i v, updL f ps args i = some v → updL g ps args i = some v
  | [], _, _, _, h => h
  | _ :: _, [], _, _, h => h
  | p :: ps, a :: args, _, _, h => updL_mono ps args (fun i v hi => by unfold upd at *; split <;> simp_all)
theorem round_weak {s0 s : St} (w : s0.weakT s) (ps : List Nat) (args : List Value) (h : Hp) : (s0.round ps args h).weakT (s.round ps args h) :=
  ⟨updL_mono ps args w.t, fun i v e => by
    simp only [St.round] at e ⊢
    split at e
    · cases e
    · rw [if_neg ‹_›]
      cases hp : s0.p i with
      | none => rw [hp] at e; cases e
      | some q => rw [hp] at e; rw [w.p _ _ hp]; exact e, fun i v e => by
    simp only [St.round] at e ⊢
    split at e
    · cases e
    · rw [if_neg ‹_›]; exact w.x _ _ e, rfl⟩

theorem Cd.wp_weak : ∀ (c : Cd) {s0 s : St} (_ : s0.weakT s) {Q Q' : Exit → St → Prop}, (∀ e s0 s, s0.weakT s → Q e s0 → Q' e s) → c.wp P s0 Q → c.wp P s Q' := by
  intro c
  induction c with
  | skip => exact fun w _ _ hq hh => hq _ _ _ w hh
  | ops its ks => exact fun w _ _ hq hh => flat_weak w (fun _ _ w' h' => hq _ _ _ (keep_weak w' ks) h') hh
  | seq a b iha ihb => exact fun w _ _ hq hh => iha w (thenQ_weak (fun _ _ w' h' => ihb w' hq h') hq) hh
  | cond c a b iha ihb => exact fun w _ _ hq ⟨t, h1, h2, h3⟩ => ⟨t, ev_weak w h1, fun e => iha w hq (h2 e), fun e => ihb w hq (h3 e)⟩
  | block id a ih => exact fun w _ _ hq hh => ih w (inBlockQ_weak hq) hh
  | loop a ih =>
    rintro s0 s w Q Q' hq ⟨α, S, I, μ, ⟨x0, h1, h2⟩, h3⟩
    refine ⟨α, S, I, μ, ⟨x0, h1, h2.transT w⟩, fun x hx => ih (St.weakT.refl _) (thenQ_weak ?_ hq) (h3 x hx)⟩
    rintro s0 s w' ⟨x', a, b, c⟩
    exact ⟨x', a, b.transT w', c⟩
  | exit id => exact fun w _ _ hq hh => hq _ _ _ w hh
  | ret => exact fun w _ _ hq hh => hq _ _ _ w hh
  | dead => exact fun _ _ _ _ hh => hh
  | scope a ih => exact fun w _ _ hq hh => ih w (noGotoQ_weak hq) hh
  | rf g ps RM a b iha ihb =>
    rintro s0 s w Q Q' hq ⟨fv, hm, n, Item, J, h1, h2, h3, h4, h5, h6⟩
    refine ⟨fv, hm, n, Item, J, ev_weak w h1, h2, by rw [w.h]; exact h3, h4, fun i h h' args hi hj hl hit => ?_, fun h hj => hq _ _ _ (h_weak w h) (h6 h hj)⟩
    obtain ⟨x, y⟩ := h5 i h h' args hi hj hl hit
    exact ⟨x, iha (round_weak w ps args h') (normQ_weak fun s0 s w' hh => ihb w' (normQ_weak fun s0 s w'' hk => by rw [w''.h]; exact hk) hh) y⟩

theorem rval_weak {s0 s : St} (w : s0.weakT s) {r : RV} {v : Value} (h : r.val s0 = some v) : r.val s = some v := by
  cases r with
  | tmp t => exact w.t t v h
  | cell a sz =>
    simp only [RV.val] at h ⊢
    split at h
    · rename_i k off hp
      rw [w.p _ _ hp]
      simp only
      cases hx : s0.x k with
      | none => rw [hx] at h; cases h
      | some cs => rw [hx] at h; rw [w.x _ _ hx]; exact h
    · cases h
  | cellp a sz =>
    simp only [RV.val] at h ⊢
    split at h
    · rename_i ad hp
      rw [w.t _ _ hp, w.h]
      exact h
    · cases h
theorem rvals_weak {s0 s : St} (w : s0.weakT s) : ∀ {rs : List RV} {vs : List Value}, RV.vals s0 rs = some vs → RV.vals s rs = some vs
  | [], _, h => h
  | r :: rs, vs, h => by
    simp only [RV.vals] at h ⊢
    split at h
    · rename_i v vs' h1 h2
      rw [rval_weak w h1, rvals_weak w h2]
      exact h
    · cases h
theorem fnQ_weak {rvs : List RV} {R : Value → Hp → Prop} : ∀ e s0 s, s0.weakT s → fnQ rvs R e s0 → fnQ rvs R e s := by
  intro e s0 s w h
  have key : (match RV.vals s0 rvs with | some vs => R (oneOrTuple vs) s0.h | none => False) → (match RV.vals s rvs with | some vs => R (oneOrTuple vs) s.h | none => False) := by
    intro h
    split at h
    · rename_i vs hv; rw [rvals_weak w hv, w.h]; exact h
    · exact h.elim
  cases e <;> first | exact key h | exact h

end Go.Proofs.Ytmfafadchpglgaa

/- The calculus, part 15: what is to be shown of a function, in plain formulas. No program's text. -/
namespace Go.Proofs.Ytmfafadchpglgaa
open Go.RowKit

/-! ## Shapes -/

/-- The first cell of a block. -/
abbrev blkA (b : Nat) : Addr := ⟨b, 0, none⟩

structure Sl where
  a : Option Addr
  n : Nat
  c : Nat
def Sl.v (s : Sl) : Value := .slice s.a s.n s.c
structure Z where
  neg : Bool
  mag : Sl
def Z.v (z : Z) : Value := .agg #[.bool z.neg, .slice z.mag.a z.mag.n z.mag.c]
structure M where
  rows : Int
  cols : Int
  el : Sl
def M.v (m : M) : Value := .agg #[.int .i64 m.rows, .int .i64 m.cols, .slice m.el.a m.el.n m.el.c]

inductive Lf where
  | int (k : IntKind)
  | bool
  | slice
  | addr
  | fn
  | val
  | z
  | m
  deriving DecidableEq

inductive Sh where
  | one (l : Lf)
  | agg (ls : List Lf)
  | tup (ss : List (Option (List Lf) × Lf))

def exL : List Lf → (List Value → Prop) → Prop
  | [], K => K []
  | .int k :: r, K => ∃ x : Int, exL r fun vs => K (.int k x :: vs)
  | .bool :: r, K => ∃ x : Bool, exL r fun vs => K (.bool x :: vs)
  | .slice :: r, K => ∃ s : Sl, exL r fun vs => K (.slice s.a s.n s.c :: vs)
  | .z :: r, K => ∃ z : Z, exL r fun vs => K (.bool z.neg :: .slice z.mag.a z.mag.n z.mag.c :: vs)
  | .m :: r, K => ∃ m : M, exL r fun vs => K (.int .i64 m.rows :: .int .i64 m.cols :: .slice m.el.a m.el.n m.el.c :: vs)
  | .addr :: r, K => ∃ a : Addr, exL r fun vs => K (.pointer (some a) :: vs)
  | .fn :: r, K => ∃ (f : Nat) (a b : Array Value), exL r fun vs => K (.func (.func f) a b :: vs)
  | .val :: r, K => ∃ v : Value, exL r fun vs => K (v :: vs)

def exT : List (Option (List Lf) × Lf) → (List Value → Prop) → Prop
  | [], K => K []
  | (none, l) :: r, K => exL [l] fun vs => exT r fun us => K (vs ++ us)
  | (some ls, _) :: r, K => exL ls fun vs => exT r fun us => K (.agg vs.toArray :: us)

def exS : Sh → (Value → Prop) → Prop
  | .one (.int k), K => ∃ x : Int, K (.int k x)
  | .one .bool, K => ∃ x : Bool, K (.bool x)
  | .one .slice, K => ∃ s : Sl, K (.slice s.a s.n s.c)
  | .one .z, _ => False
  | .one .m, _ => False
  | .one .addr, K => ∃ a : Addr, K (.pointer (some a))
  | .one .fn, K => ∃ (f : Nat) (a b : Array Value), K (.func (.func f) a b)
  | .one .val, K => ∃ v, K v
  | .agg ls, K => exL ls fun vs => K (.agg vs.toArray)
  | .tup ss, K => exT ss fun vs => K (.tuple vs.toArray)

theorem exL_some : ∀ {ls : List Lf} {K : List Value → Prop}, exL ls K → ∃ vs, K vs
  | [], _, h => ⟨_, h⟩
  | .int _ :: _, _, ⟨_, h⟩ => let ⟨_, h⟩ := exL_some h; ⟨_, h⟩
  | .bool :: _, _, ⟨_, h⟩ => let ⟨_, h⟩ := exL_some h; ⟨_, h⟩
  | .slice :: _, _, ⟨_, h⟩ => let ⟨_, h⟩ := exL_some h; ⟨_, h⟩
  | .z :: _, _, ⟨_, h⟩ => let ⟨_, h⟩ := exL_some h; ⟨_, h⟩
  | .m :: _, _, ⟨_, h⟩ => let ⟨_, h⟩ := exL_some h; ⟨_, h⟩
  | .addr :: _, _, ⟨_, h⟩ => let ⟨_, h⟩ := exL_some h; ⟨_, h⟩
  | .fn :: _, _, ⟨_, _, _, h⟩ => let ⟨_, h⟩ := exL_some h; ⟨_, h⟩
  | .val :: _, _, ⟨_, h⟩ => let ⟨_, h⟩ := exL_some h; ⟨_, h⟩
theorem exT_some : ∀ {ss : List (Option (List Lf) × Lf)} {K : List Value → Prop}, exT ss K → ∃ vs, K vs
  | [], _, h => ⟨_, h⟩
  | (none, _) :: _, _, h => let ⟨_, h⟩ := exL_some h; let ⟨_, h⟩ := exT_some h; ⟨_, h⟩
  | (some _, _) :: _, _, h => let ⟨_, h⟩ := exL_some h; let ⟨_, h⟩ := exT_some h; ⟨_, h⟩
theorem exS_some {sh : Sh} {K : Value → Prop} (h : exS sh K) : ∃ v, K v := by
  cases sh with
  | one l =>
    cases l <;> simp only [exS] at h
    case fn => obtain ⟨_, _, _, h⟩ := h; exact ⟨_, h⟩
    all_goals (obtain ⟨_, h⟩ := h; exact ⟨_, h⟩)
  | agg ls => obtain ⟨_, h⟩ := exL_some h; exact ⟨_, h⟩
  | tup ss => obtain ⟨_, h⟩ := exT_some h; exact ⟨_, h⟩

/-! ## Predicates over what is live -/

def PredL : List Lf → Type
  | [] => Hp → Prop
  | .int _ :: r => Int → PredL r
  | .bool :: r => Bool → PredL r
  | .slice :: r => Sl → PredL r
  | .z :: r => Z → PredL r
  | .m :: r => M → PredL r
  | .addr :: r => Addr → PredL r
  | .fn :: r => Nat → Array Value → Array Value → PredL r
  | .val :: r => Value → PredL r
def MeasL : List Lf → Type
  | [] => Hp → Nat
  | .int _ :: r => Int → MeasL r
  | .bool :: r => Bool → MeasL r
  | .slice :: r => Sl → MeasL r
  | .z :: r => Z → MeasL r
  | .m :: r => M → MeasL r
  | .addr :: r => Addr → MeasL r
  | .fn :: r => Nat → Array Value → Array Value → MeasL r
  | .val :: r => Value → MeasL r

def appJ : (ls : List Lf) → PredL ls → List Value → Hp → Prop
  | [], J, [], h => J h
  | .int k :: r, J, .int k' x :: vs, h => if k = k' then appJ r (J x) vs h else False
  | .bool :: r, J, .bool x :: vs, h => appJ r (J x) vs h
  | .slice :: r, J, .slice a n c :: vs, h => appJ r (J ⟨a, n, c⟩) vs h
  | .z :: r, J, .bool b :: .slice a n c :: vs, h => appJ r (J ⟨b, ⟨a, n, c⟩⟩) vs h
  | .m :: r, J, .int .i64 x :: .int .i64 y :: .slice a n c :: vs, h => appJ r (J ⟨x, y, ⟨a, n, c⟩⟩) vs h
  | .addr :: r, J, .pointer (some a) :: vs, h => appJ r (J a) vs h
  | .fn :: r, J, .func (.func f) a b :: vs, h => appJ r (J f a b) vs h
  | .val :: r, J, v :: vs, h => appJ r (J v) vs h
  | _, _, _, _ => False
def appM : (ls : List Lf) → MeasL ls → List Value → Hp → Nat
  | [], J, [], h => J h
  | .int _ :: r, J, .int _ x :: vs, h => appM r (J x) vs h
  | .bool :: r, J, .bool x :: vs, h => appM r (J x) vs h
  | .slice :: r, J, .slice a n c :: vs, h => appM r (J ⟨a, n, c⟩) vs h
  | .z :: r, J, .bool b :: .slice a n c :: vs, h => appM r (J ⟨b, ⟨a, n, c⟩⟩) vs h
  | .m :: r, J, .int .i64 x :: .int .i64 y :: .slice a n c :: vs, h => appM r (J ⟨x, y, ⟨a, n, c⟩⟩) vs h
  | .addr :: r, J, .pointer (some a) :: vs, h => appM r (J a) vs h
  | .fn :: r, J, .func (.func f) a b :: vs, h => appM r (J f a b) vs h
  | .val :: r, J, v :: vs, h => appM r (J v) vs h
  | _, _, _, _ => 0

/-- J holds wherever K does. -/
def allJ : (ls : List Lf) → PredL ls → (List Value → Hp → Prop) → Prop
  | [], J, K => ∀ h, K [] h → J h
  | .int k :: r, J, K => ∀ x : Int, allJ r (J x) fun vs h => K (.int k x :: vs) h
  | .bool :: r, J, K => ∀ x : Bool, allJ r (J x) fun vs h => K (.bool x :: vs) h
  | .slice :: r, J, K => ∀ s : Sl, allJ r (J s) fun vs h => K (.slice s.a s.n s.c :: vs) h
  | .z :: r, J, K => ∀ z : Z, allJ r (J z) fun vs h => K (.bool z.neg :: .slice z.mag.a z.mag.n z.mag.c :: vs) h
  | .m :: r, J, K => ∀ m : M, allJ r (J m) fun vs h => K (.int .i64 m.rows :: .int .i64 m.cols :: .slice m.el.a m.el.n m.el.c :: vs) h
  | .addr :: r, J, K => ∀ a : Addr, allJ r (J a) fun vs h => K (.pointer (some a) :: vs) h
  | .fn :: r, J, K => ∀ (f : Nat) (a b : Array Value), allJ r (J f a b) fun vs h => K (.func (.func f) a b :: vs) h
  | .val :: r, J, K => ∀ v : Value, allJ r (J v) fun vs h => K (v :: vs) h
/-- K holds wherever I does. -/
def allI : (ls : List Lf) → PredL ls → MeasL ls → (List Value → Hp → Nat → Prop) → Prop
  | [], I, μ, K => ∀ h, I h → K [] h (μ h)
  | .int k :: r, I, μ, K => ∀ x : Int, allI r (I x) (μ x) fun vs h m => K (.int k x :: vs) h m
  | .bool :: r, I, μ, K => ∀ x : Bool, allI r (I x) (μ x) fun vs h m => K (.bool x :: vs) h m
  | .slice :: r, I, μ, K => ∀ s : Sl, allI r (I s) (μ s) fun vs h m => K (.slice s.a s.n s.c :: vs) h m
  | .z :: r, I, μ, K => ∀ z : Z, allI r (I z) (μ z) fun vs h m => K (.bool z.neg :: .slice z.mag.a z.mag.n z.mag.c :: vs) h m
  | .m :: r, I, μ, K => ∀ m : M, allI r (I m) (μ m) fun vs h k => K (.int .i64 m.rows :: .int .i64 m.cols :: .slice m.el.a m.el.n m.el.c :: vs) h k
  | .addr :: r, I, μ, K => ∀ a : Addr, allI r (I a) (μ a) fun vs h m => K (.pointer (some a) :: vs) h m
  | .fn :: r, I, μ, K => ∀ (f : Nat) (a b : Array Value), allI r (I f a b) (μ f a b) fun vs h m => K (.func (.func f) a b :: vs) h m
  | .val :: r, I, μ, K => ∀ v : Value, allI r (I v) (μ v) fun vs h m => K (v :: vs) h m

def mkJ : (ls : List Lf) → (List Value → Hp → Prop) → PredL ls
  | [], K => fun h => K [] h
  | .int k :: r, K => fun x => mkJ r fun vs h => K (.int k x :: vs) h
  | .bool :: r, K => fun x => mkJ r fun vs h => K (.bool x :: vs) h
  | .slice :: r, K => fun s => mkJ r fun vs h => K (.slice s.a s.n s.c :: vs) h
  | .z :: r, K => fun z => mkJ r fun vs h => K (.bool z.neg :: .slice z.mag.a z.mag.n z.mag.c :: vs) h
  | .m :: r, K => fun m => mkJ r fun vs h => K (.int .i64 m.rows :: .int .i64 m.cols :: .slice m.el.a m.el.n m.el.c :: vs) h
  | .addr :: r, K => fun a => mkJ r fun vs h => K (.pointer (some a) :: vs) h
  | .fn :: r, K => fun f a b => mkJ r fun vs h => K (.func (.func f) a b :: vs) h
  | .val :: r, K => fun v => mkJ r fun vs h => K (v :: vs) h

theorem allJ_mk : ∀ {ls : List Lf} {K : List Value → Hp → Prop}, allJ ls (mkJ ls K) K
  | [], _ => fun _ h => h
  | .int _ :: _, _ => fun _ => allJ_mk
  | .bool :: _, _ => fun _ => allJ_mk
  | .slice :: _, _ => fun _ => allJ_mk
  | .z :: _, _ => fun _ => allJ_mk
  | .m :: _, _ => fun _ => allJ_mk
  | .addr :: _, _ => fun _ => allJ_mk
  | .fn :: _, _ => fun _ _ _ => allJ_mk
  | .val :: _, _ => fun _ => allJ_mk

theorem app_mk : ∀ {ls : List Lf} {K : List Value → Hp → Prop} {vs : List Value} {h : Hp}, appJ ls (mkJ ls K) vs h → K vs h
  | [], _, [], _, hh => hh
  | [], _, _ :: _, _, hh => (hh : False).elim
  | l :: _, _, [], _, hh => by cases l <;> exact (hh : False).elim
  | .int k :: r, K, v :: vs, h, hh => by
    cases v <;> try exact (hh : False).elim
    rename_i k' x
    have h2 : (if k = k' then appJ r (mkJ r fun us h => K (.int k x :: us) h) vs h else False) := hh
    split at h2
    · rename_i e; subst e; exact app_mk (K := fun us h => K (.int k x :: us) h) h2
    · exact h2.elim
  | .bool :: r, K, v :: vs, h, hh => by
    cases v <;> try exact (hh : False).elim
    exact app_mk (K := fun us h => K (_ :: us) h) hh
  | .slice :: r, K, v :: vs, h, hh => by
    cases v <;> try exact (hh : False).elim
    exact app_mk (K := fun us h => K (_ :: us) h) hh
  | .addr :: r, K, v :: vs, h, hh => by
    cases v <;> try exact (hh : False).elim
    rename_i q
    cases q with
    | none => exact (hh : False).elim
    | some a => exact app_mk (K := fun us h => K (_ :: us) h) hh
  | .z :: r, K, v :: vs, h, hh => by
    cases v <;> try exact (hh : False).elim
    cases vs with
    | nil => exact (hh : False).elim
    | cons u us =>
      cases u <;> try exact (hh : False).elim
      exact app_mk (K := fun us h => K (_ :: _ :: us) h) hh
  | .m :: r, K, v :: vs, h, hh => by
    rcases v with _ | ⟨k, _⟩ | _ | _ | _ | _ | _ | _ | _ | _ | _ | _ | _ | _ | _ <;> try exact (hh : False).elim
    cases k <;> try exact (hh : False).elim
    rcases vs with _ | ⟨v, vs⟩
    · exact (hh : False).elim
    rcases v with _ | ⟨k, _⟩ | _ | _ | _ | _ | _ | _ | _ | _ | _ | _ | _ | _ | _ <;> try exact (hh : False).elim
    cases k <;> try exact (hh : False).elim
    rcases vs with _ | ⟨v, vs⟩
    · exact (hh : False).elim
    cases v <;> try exact (hh : False).elim
    exact app_mk (K := fun us h => K (_ :: _ :: _ :: us) h) hh
  | .fn :: r, K, v :: vs, h, hh => by
    cases v <;> try exact (hh : False).elim
    rename_i q _ _
    cases q <;> try exact (hh : False).elim
    exact app_mk (K := fun us h => K (_ :: us) h) hh
  | .val :: r, K, v :: vs, h, hh => app_mk (K := fun us h => K (v :: us) h) hh

theorem app_all : ∀ {ls : List Lf} {I : PredL ls} {μ : MeasL ls} {K : List Value → Hp → Nat → Prop}, allI ls I μ K → ∀ {vs : List Value} {h : Hp}, appJ ls I vs h → K vs h (appM ls μ vs h)
  | [], _, _, _, ha, [], _, hh => ha _ hh
  | [], _, _, _, _, _ :: _, _, hh => (hh : False).elim
  | l :: _, _, _, _, _, [], _, hh => by cases l <;> exact (hh : False).elim
  | .int k :: r, I, μ, K, ha, v :: vs, h, hh => by
    cases v <;> try exact (hh : False).elim
    rename_i k' x
    have h2 : (if k = k' then appJ r (I x) vs h else False) := hh
    split at h2
    · rename_i e; subst e; exact app_all (ha x) h2
    · exact h2.elim
  | .bool :: r, I, μ, K, ha, v :: vs, h, hh => by
    cases v <;> try exact (hh : False).elim
    exact app_all (ha _) hh
  | .slice :: r, I, μ, K, ha, v :: vs, h, hh => by
    cases v <;> try exact (hh : False).elim
    exact app_all (ha ⟨_, _, _⟩) hh
  | .z :: r, I, μ, K, ha, v :: vs, h, hh => by
    cases v <;> try exact (hh : False).elim
    cases vs with
    | nil => exact (hh : False).elim
    | cons u us =>
      cases u <;> try exact (hh : False).elim
      exact app_all (ha ⟨_, ⟨_, _, _⟩⟩) hh
  | .m :: r, I, μ, K, ha, v :: vs, h, hh => by
    rcases v with _ | ⟨k, _⟩ | _ | _ | _ | _ | _ | _ | _ | _ | _ | _ | _ | _ | _ <;> try exact (hh : False).elim
    cases k <;> try exact (hh : False).elim
    rcases vs with _ | ⟨v, vs⟩
    · exact (hh : False).elim
    rcases v with _ | ⟨k, _⟩ | _ | _ | _ | _ | _ | _ | _ | _ | _ | _ | _ | _ | _ <;> try exact (hh : False).elim
    cases k <;> try exact (hh : False).elim
    rcases vs with _ | ⟨v, vs⟩
    · exact (hh : False).elim
    cases v <;> try exact (hh : False).elim
    exact app_all (ha ⟨_, _, ⟨_, _, _⟩⟩) hh
  | .addr :: r, I, μ, K, ha, v :: vs, h, hh => by
    cases v <;> try exact (hh : False).elim
    rename_i q
    cases q with
    | none => exact (hh : False).elim
    | some a => exact app_all (ha _) hh
  | .fn :: r, I, μ, K, ha, v :: vs, h, hh => by
    cases v <;> try exact (hh : False).elim
    rename_i q _ _
    cases q <;> try exact (hh : False).elim
    exact app_all (ha _ _ _) hh
  | .val :: r, I, μ, K, ha, v :: vs, h, hh => app_all (ha v) hh

/-! ## What is live -/

def wL : List Lf → Nat
  | [] => 0
  | .z :: r => wL r + 2
  | .m :: r => wL r + 3
  | _ :: r => wL r + 1

inductive Pl where
  | t (i : Nat) (l : Lf)
  | ta (i : Nat) (ls : List Lf)
  | p (i k o : Nat)
  | x (k : Nat) (ls : List Lf)

def lvs : List Pl → List Lf
  | [] => []
  | .t _ l :: r => l :: lvs r
  | .ta _ ls :: r => ls ++ lvs r
  | .p .. :: r => lvs r
  | .x _ ls :: r => ls ++ lvs r

def tl : List Pl → List Value → List (Nat × Value)
  | .t i _ :: r, v :: vs => (i, v) :: tl r vs
  | .ta i ls :: r, vs => (i, .agg (vs.take (wL ls)).toArray) :: tl r (vs.drop (wL ls))
  | .p .. :: r, vs => tl r vs
  | .x _ ls :: r, vs => tl r (vs.drop (wL ls))
  | _, _ => []
def pl : List Pl → List (Nat × (Nat × Nat))
  | [] => []
  | .p i k o :: r => (i, (k, o)) :: pl r
  | _ :: r => pl r
def xl : List Pl → List Value → List (Nat × List Value)
  | .t _ _ :: r, _ :: vs => xl r vs
  | .ta _ ls :: r, vs => xl r (vs.drop (wL ls))
  | .p .. :: r, vs => xl r vs
  | .x k ls :: r, vs => (k, vs.take (wL ls)) :: xl r (vs.drop (wL ls))
  | _, _ => []

/-- What a piece of code leaves alone: slots; boxes whose cells it does not write; boxes that it does not lay anew. -/
structure Fm where
  s : List Nat
  x : List Nat
  b : List Nat

structure Agr (F : Fm) (s s' : St) : Prop where
  t : ∀ k ∈ F.s, ∀ v, s.t k = some v → s'.t k = some v
  p : ∀ k ∈ F.s, ∀ b o, b ∈ F.b → s.p k = some (b, o) → s'.p k = some (b, o)
  x : ∀ k ∈ F.x, ∀ v, s.x k = some v → s'.x k = some v

theorem Agr.refl (F : Fm) (s : St) : Agr F s s := ⟨fun _ _ _ h => h, fun _ _ _ _ _ h => h, fun _ _ _ h => h⟩
theorem Agr.trans {F : Fm} {a b c : St} (h : Agr F a b) (k : Agr F b c) : Agr F a c :=
  ⟨fun i hi v e => k.t i hi v (h.t i hi v e), fun i hi b o hb e => k.p i hi b o hb (h.p i hi b o hb e), fun i hi v e => k.x i hi v (h.x i hi v e)⟩
def Fm.sub (F G : Fm) : Bool := F.s.all G.s.contains && F.x.all G.x.contains && F.b.all G.b.contains
theorem Agr.sub {F G : Fm} (hs : F.sub G = true) {a b : St} (h : Agr G a b) : Agr F a b := by
  simp only [Fm.sub, Bool.and_eq_true, List.all_eq_true, List.contains_iff_mem] at hs
  exact ⟨fun i hi => h.t i (hs.1.1 i hi), fun i hi b o hb => h.p i (hs.1.1 i hi) b o (hs.2 b hb), fun i hi => h.x i (hs.1.2 i hi)⟩

def keepP (f : Nat → Option (Nat × Nat)) (bs : List Nat) : List Nat → List (Nat × (Nat × Nat))
  | [] => []
  | k :: ks => match f k with
    | some (b, o) => if bs.contains b then (k, (b, o)) :: keepP f bs ks else keepP f bs ks
    | none => keepP f bs ks

theorem keepP_get {f : Nat → Option (Nat × Nat)} {bs : List Nat} : ∀ {ks : List Nat} {i : Nat} {q : Nat × Nat}, E (keepP f bs ks) i = some q → i ∈ ks ∧ q.1 ∈ bs ∧ f i = some q
  | [], i, q, h => by cases h
  | k :: ks, i, q, h => by
    simp only [keepP] at h
    split at h
    · rename_i b o hk
      split at h
      · rename_i hb
        simp only [E] at h
        split at h
        · rename_i e; cases h; subst e; exact ⟨by simp, by simpa using hb, hk⟩
        · obtain ⟨a, b, c⟩ := keepP_get h; exact ⟨by simp [a], b, c⟩
      · obtain ⟨a, b, c⟩ := keepP_get h; exact ⟨by simp [a], b, c⟩
    · obtain ⟨a, b, c⟩ := keepP_get h; exact ⟨by simp [a], b, c⟩
theorem keepP_put {f : Nat → Option (Nat × Nat)} {bs : List Nat} : ∀ {ks : List Nat} {i : Nat} {q : Nat × Nat}, i ∈ ks → q.1 ∈ bs → f i = some q → E (keepP f bs ks) i = some q
  | [], i, q, h, _, _ => by cases h
  | k :: ks, i, q, h, hb, hf => by
    simp only [keepP]
    by_cases e : i = k
    · subst e
      rw [hf]
      obtain ⟨b, o⟩ := q
      simp only
      rw [if_pos (by simpa using hb)]
      simp [E]
    · have hi : i ∈ ks := by simpa [e] using h
      split
      · split
        · simp only [E, if_neg e]; exact keepP_put hi hb hf
        · exact keepP_put hi hb hf
      · exact keepP_put hi hb hf

theorem E_app {α : Type} {l m : List (Nat × α)} {i : Nat} {v : α} (h : E (l ++ m) i = some v) : E l i = some v ∨ E m i = some v := by
  induction l with
  | nil => exact Or.inr h
  | cons q l ih =>
    obtain ⟨k, u⟩ := q
    simp only [List.cons_append, E] at h ⊢
    split
    · rw [if_pos ‹_›] at h; exact Or.inl h
    · rw [if_neg ‹_›] at h; exact ih h
theorem E_appl {α : Type} {l m : List (Nat × α)} {i : Nat} {v : α} (h : E l i = some v) : E (l ++ m) i = some v := by
  induction l with
  | nil => cases h
  | cons q l ih =>
    obtain ⟨k, u⟩ := q
    simp only [List.cons_append, E] at h ⊢
    split
    · rw [if_pos ‹_›] at h; exact h
    · rw [if_neg ‹_›] at h; exact ih h

/-- The state: what s holds of F, and A. -/
def stF (s : St) (F : Fm) (A : List Pl) (vs : List Value) (h : Hp) : St := ⟨E (keepL s.t F.s ++ tl A vs), E (keepP s.p F.b F.s ++ pl A), E (keepL s.x F.x ++ xl A vs), h⟩

theorem stF_agr (s : St) (F : Fm) (A : List Pl) (vs : List Value) (h : Hp) : Agr F s (stF s F A vs h) :=
  ⟨fun k hk v e => E_appl (by rw [E_keepL, if_pos hk]; exact e), fun k hk b o hb e => E_appl (keepP_put hk hb e), fun k hk v e => E_appl (by rw [E_keepL, if_pos hk]; exact e)⟩

def valsA : List Pl → St → Option (List Value)
  | [], _ => some []
  | .t i _ :: r, s =>
    match s.t i, valsA r s with
    | some v, some vs => some (v :: vs)
    | _, _ => none
  | .ta i ls :: r, s =>
    match s.t i, valsA r s with
    | some (.agg cs), some vs => if cs.size = wL ls then some (cs.toList ++ vs) else none
    | _, _ => none
  | .p i k o :: r, s =>
    match s.p i, valsA r s with
    | some (k', o'), some vs => if k' = k ∧ o' = o then some vs else none
    | _, _ => none
  | .x k ls :: r, s =>
    match s.x k, valsA r s with
    | some cs, some vs => if cs.length = wL ls then some (cs ++ vs) else none
    | _, _ => none

theorem valsA_spec : ∀ {A : List Pl} {s : St} {vs : List Value}, valsA A s = some vs →
    (∀ i v, E (tl A vs) i = some v → s.t i = some v) ∧ (∀ i v, E (pl A) i = some v → s.p i = some v) ∧ (∀ i v, E (xl A vs) i = some v → s.x i = some v) := by
  intro A
  induction A with
  | nil => intro s vs h; simp only [valsA] at h; cases h; exact ⟨fun _ _ h => (by cases h), fun _ _ h => (by cases h), fun _ _ h => (by cases h)⟩
  | cons q r ih =>
    intro s vs h
    cases q with
    | t i l =>
      simp only [valsA] at h
      split at h
      · rename_i v vs' h1 h2
        cases h
        obtain ⟨a, b, c⟩ := ih h2
        refine ⟨fun j u hj => ?_, b, c⟩
        simp only [tl, E] at hj
        split at hj
        · rename_i e; cases hj; rw [e]; exact h1
        · exact a j u hj
      · cases h
    | ta i ls =>
      simp only [valsA] at h
      split at h
      · rename_i cs vs' h1 h2
        split at h
        · rename_i hl
          cases h
          obtain ⟨a, b, c⟩ := ih h2
          have e1 : (cs.toList ++ vs').take (wL ls) = cs.toList := by rw [← hl]; simp
          have e2 : (cs.toList ++ vs').drop (wL ls) = vs' := by rw [← hl]; simp
          refine ⟨fun j u hj => ?_, b, fun j u hj => ?_⟩
          · simp only [tl, E, e1, e2] at hj
            split at hj
            · rename_i e; cases hj; rw [e, h1]
            · exact a j u hj
          · simp only [xl, e2] at hj; exact c j u hj
        · cases h
      · cases h
    | p i k o =>
      simp only [valsA] at h
      split at h
      · rename_i k' o' vs' h1 h2
        split at h
        · rename_i hl
          cases h
          obtain ⟨rfl, rfl⟩ := hl
          obtain ⟨a, b, c⟩ := ih h2
          refine ⟨a, fun j u hj => ?_, c⟩
          simp only [pl, E] at hj
          split at hj
          · rename_i e; cases hj; rw [e]; exact h1
          · exact b j u hj
        · cases h
      · cases h
    | x k ls =>
      simp only [valsA] at h
      split at h
      · rename_i cs vs' h1 h2
        split at h
        · rename_i hl
          cases h
          obtain ⟨a, b, c⟩ := ih h2
          have e1 : (cs ++ vs').take (wL ls) = cs := by rw [← hl]; simp
          have e2 : (cs ++ vs').drop (wL ls) = vs' := by rw [← hl]; simp
          refine ⟨fun j u hj => ?_, b, fun j u hj => ?_⟩
          · simp only [tl, e2] at hj; exact a j u hj
          · simp only [xl, E, e1, e2] at hj
            split at hj
            · rename_i e; cases hj; rw [e, h1]
            · exact c j u hj
        · cases h
      · cases h

theorem keepL_get {α : Type} {f : Nat → Option α} {ks : List Nat} {i : Nat} {v : α} (h : E (keepL f ks) i = some v) : i ∈ ks ∧ f i = some v := by
  rw [E_keepL] at h
  split at h
  · exact ⟨‹_›, h⟩
  · cases h
theorem stF_weak {s0 s : St} {F : Fm} {A : List Pl} {vs : List Value} (ha : Agr F s0 s) (h : valsA A s = some vs) : (stF s0 F A vs s.h).weakT s := by
  obtain ⟨a, b, c⟩ := valsA_spec h
  refine ⟨fun i v e => ?_, fun i v e => ?_, fun i v e => ?_, rfl⟩
  · rcases E_app e with e | e
    · obtain ⟨h1, h2⟩ := keepL_get e; exact ha.t i h1 v h2
    · exact a i v e
  · rcases E_app e with e | e
    · obtain ⟨h1, h2, h3⟩ := keepP_get e; obtain ⟨k, o⟩ := v; exact ha.p i h1 k o h2 h3
    · exact b i v e
  · rcases E_app e with e | e
    · obtain ⟨h1, h2⟩ := keepL_get e; exact ha.x i h1 v h2
    · exact c i v e

theorem valsA_weak {s0 s : St} (w : s0.weakT s) : ∀ {A : List Pl} {vs : List Value}, valsA A s0 = some vs → valsA A s = some vs := by
  intro A
  induction A with
  | nil => exact fun h => h
  | cons q r ih =>
    intro vs h
    cases q <;> simp only [valsA] at h ⊢
    case t i l =>
      split at h
      · rename_i v vs' h1 h2; rw [w.t _ _ h1, ih h2]; exact h
      · cases h
    case ta i ls =>
      split at h
      · rename_i v vs' h1 h2; rw [w.t _ _ h1, ih h2]; exact h
      · cases h
    case p i k o =>
      split at h
      · rename_i k' o' vs' h1 h2; rw [w.p _ _ h1, ih h2]; exact h
      · cases h
    case x k ls =>
      split at h
      · rename_i cs vs' h1 h2; rw [w.x _ _ h1, ih h2]; exact h
      · cases h

def endA (A : List Pl) (J : PredL (lvs A)) (s : St) : Prop :=
  match valsA A s with
  | some vs => appJ (lvs A) J vs s.h
  | none => False
def endM (A : List Pl) (I : PredL (lvs A)) (μ : MeasL (lvs A)) (m : Nat) (s : St) : Prop :=
  match valsA A s with
  | some vs => appJ (lvs A) I vs s.h ∧ appM (lvs A) μ vs s.h < m
  | none => False

theorem endA_weak {A : List Pl} {J : PredL (lvs A)} {s0 s : St} (w : s0.weakT s) (h : endA A J s0) : endA A J s := by
  unfold endA at *
  split at h
  · rename_i vs hv; rw [valsA_weak w hv, w.h]; exact h
  · exact h.elim
theorem endM_weak {A : List Pl} {I : PredL (lvs A)} {μ : MeasL (lvs A)} {m : Nat} {s0 s : St} (w : s0.weakT s) (h : endM A I μ m s0) : endM A I μ m s := by
  unfold endM at *
  split at h
  · rename_i vs hv; rw [valsA_weak w hv, w.h]; exact h
  · exact h.elim
theorem endA_mk {F : Fm} {s0 : St} {A : List Pl} {K : List Value → Hp → Prop} {s : St} (ha : Agr F s0 s) (h : endA A (mkJ _ K) s) : ∃ vs, K vs s.h ∧ (stF s0 F A vs s.h).weakT s := by
  unfold endA at h
  split at h
  · rename_i vs hv; exact ⟨vs, app_mk h, stF_weak ha hv⟩
  · exact h.elim

/-! ## Operations -/

inductive Hint where
  | no
  | split
  | sh (s : Sh)

/-- A number gets a name. -/
def nameI (v : Value) (K : Value → Prop) : Prop :=
  match v with
  | .int k n => ∀ x : Int, x = n → K (.int k x)
  | v => K v
theorem nameI_spec {v : Value} {K : Value → Prop} (h : nameI v K) : K v := by
  cases v <;> first | exact h _ rfl | exact h

def It.vsem (P : Env) (it : It) (d : Option Nat) (i : Inp) (sh : Sh) (h : Hp) (K : Ef → Hp → Prop) : Prop :=
  match it, i.vs with
  | .bin op _ _, [.int k a, .int k' b] => if isSh op = true then shK op k a b (fun v => nameI v fun v => K (.val d v) h) else if k = k' then binK op k a b (fun v => nameI v fun v => K (.val d v) h) else False
  | .cv k _, [.int _ n] => ∀ x : Int, x = k.wrap n → K (.val d (.int k x)) h
  | .un .neg _, [.int k n] => ∀ x : Int, x = k.wrap (0 - n) → K (.val d (.int k x)) h
  | .ldh sz _, [.pointer (some a)] => exS sh fun v => hld h a sz = some v ∧ K (.val d v) h
  | .ix ln esz sz _ _, [.agg cs, .int _ j] => 0 ≤ j ∧ j < ln ∧ exS sh fun v => cld cs.toList (j.toNat * esz) sz = some v ∧ K (.val d v) h
  | .stb _ k n _, [v] => (match vcells v with | some vs => if vs.length = n ∧ i.off + n ≤ i.bx.length then K (.bx k (setAt i.bx i.off vs)) h else False | none => False)
  | .box n _, [v] => (match d, vcells v with | some d, some vs => if vs.length = n then K (.new d vs) h else False | _, _ => False)
  | .sth n _ _, [.pointer (some a), v] => (match vcells v with | some vs => if vs.length = n then ∃ h', hst h a vs = some h' ∧ K (.val none undef) h' else False | none => False)
  | .boxp n _, [v] => (match vcells v with | some vs => if vs.length = n then ∀ b h', h b = none → h' = h.up b ⟨vs, true⟩ → K (.val d (.pointer (some ⟨b, 0, none⟩))) h' else False | none => False)
  | .newp zero, [] => ∀ b h', h b = none → h' = h.up b ⟨consts zero, true⟩ → K (.val d (.pointer (some ⟨b, 0, none⟩))) h'
  | .mk zero bytes _ _, [.int .i64 n, .int .i64 c] => 0 ≤ n ∧ n ≤ c ∧ bytes * c ≤ 281474976710656 ∧ c < 9223372036854775808 ∧
      ∀ b h', h b = none → h' = h.up b ⟨mkCells (consts zero) (c.toNat * zero.length), true⟩ → K (.val d (.slice (some ⟨b, 0, none⟩) n.toNat c.toNat)) h'
  | .bs zero ln esz ps, vs =>
    (match fillC (mkCells (consts zero) (ln * esz)) ((ps.zip vs).map fun q => (q.1.1 * esz, esz, q.2)) with
     | some cs => ∀ b h', h b = none → h' = h.up b ⟨cs, true⟩ → K (.val d (.slice (some ⟨b, 0, none⟩) ln ln)) h'
     | none => False)
  | .call false _ _, fv :: args => Tri P fv args h fun v h' => exS sh fun u => v = u ∧ K (.val d u) h'
  | .call true _ _, fv :: args => Tri P fv args h fun v h' => h.le h' ∧ exS sh fun u => v = u ∧ K (.val d u) h'
  | .app sz bytes zero _ _, [.slice a n c, .slice a' m _] => ∃ ys, firstOf h a' m sz = some ys ∧ appRes h a n c m sz bytes zero ys (fun v h' => exS sh fun u => v = u ∧ K (.val d u) h')
  | .cpy sz _ _, [.slice a n _, .slice a' m _] => ∃ ys, firstOf h a' (Nat.min m n) sz = some ys ∧ cpyRes h a (Nat.min m n) ys (fun v h' => exS sh fun u => v = u ∧ K (.val d u) h')
  | _, _ => it.sem P d i h K

theorem exS_eq {sh : Sh} {v : Value} {K : Value → Prop} (h : exS sh fun u => v = u ∧ K u) : K v := by
  obtain ⟨u, rfl, h⟩ := exS_some h; exact h

theorem vsem_sound {P : Env} {it : It} {d : Option Nat} {i : Inp} {sh : Sh} {h : Hp} {K : Ef → Hp → Prop} (hh : it.vsem P d i sh h K) : it.sem P d i h K := by
  unfold It.vsem at hh
  split at hh
  · rename_i op x y k a k' b hi
    simp only [It.sem, hi]
    split at hh
    · rw [if_pos ‹_›]; exact shK_mono (fun _ => nameI_spec) hh
    · rw [if_neg ‹_›]
      split at hh
      · exact ⟨‹_›, binK_mono (fun _ => nameI_spec) hh⟩
      · exact hh.elim
  · rename_i hi
    simp only [It.sem, hi]
    exact hh _ rfl
  · rename_i hi
    simp only [It.sem, hi]
    exact hh _ rfl
  · rename_i sz x a hi
    simp only [It.sem, hi]
    obtain ⟨v, h1, h2⟩ := exS_some hh
    rw [h1]; exact h2
  · rename_i hi
    simp only [It.sem, hi]
    obtain ⟨h1, h2, h3⟩ := hh
    obtain ⟨v, h4, h5⟩ := exS_some h3
    refine ⟨h1, h2, ?_⟩
    rw [h4]; exact h5
  · rename_i hi
    simp only [It.sem, hi]
    split at hh
    · rename_i hv; rw [hv]
      split at hh
      · rename_i h1; exact ⟨h1.1, h1.2, hh⟩
      · exact hh.elim
    · exact hh.elim
  · rename_i hi
    simp only [It.sem, hi]
    split at hh
    · rename_i hv; rw [hv]
      split at hh
      · rename_i h1; exact ⟨h1, hh⟩
      · exact hh.elim
    · exact hh.elim
  · rename_i hi
    simp only [It.sem, hi]
    split at hh
    · rename_i hv; rw [hv]
      split at hh
      · rename_i h1
        obtain ⟨h', h2, h3⟩ := hh
        refine ⟨h1, ?_⟩
        rw [h2]; exact h3
      · exact hh.elim
    · exact hh.elim
  · rename_i hi
    simp only [It.sem, hi]
    split at hh
    · rename_i hv; rw [hv]
      split at hh
      · rename_i h1; exact ⟨h1, fun b hb => hh b _ hb rfl⟩
      · exact hh.elim
    · exact hh.elim
  · rename_i hi
    simp only [It.sem, hi]
    exact fun b hb => hh b _ hb rfl
  · rename_i hi
    simp only [It.sem, hi]
    exact ⟨hh.1, hh.2.1, hh.2.2.1, hh.2.2.2.1, fun b hb => hh.2.2.2.2 b _ hb rfl⟩
  · simp only [It.sem]
    split at hh
    · rename_i hv; rw [hv]; exact fun b hb => hh b _ hb rfl
    · exact hh.elim
  · rename_i hi
    simp only [It.sem, hi]
    exact hh.mono fun v h' h1 => ⟨(fun e => by cases e), exS_eq h1⟩
  · rename_i hi
    simp only [It.sem, hi]
    exact hh.mono fun v h' ⟨h0, h1⟩ => ⟨fun _ => h0, exS_eq h1⟩
  · rename_i hi
    simp only [It.sem, hi]
    obtain ⟨ys, h1, h2⟩ := hh
    rw [h1]
    exact appRes_mono (fun v h' h3 => exS_eq h3) h2
  · rename_i hi
    simp only [It.sem, hi]
    obtain ⟨ys, h1, h2⟩ := hh
    rw [h1]
    exact cpyRes_mono (fun v h' h3 => exS_eq h3) h2
  · exact hh

def It.vst (P : Env) (it : It) (d : Option Nat) (hint : Hint) (s : St) (K : St → Prop) : Prop :=
  match hint with
  | .no => it.step P d s K
  | .split =>
    match it with
    | .pick (.t c) a b =>
      match s.t c with
      | some (.bool t) =>
        (t = true → match s.ev a with | some v => K ((Ef.val d v).ap { s with t := upd s.t c (some (.bool true)) }) | none => False) ∧
        (t = false → match s.ev b with | some v => K ((Ef.val d v).ap { s with t := upd s.t c (some (.bool false)) }) | none => False)
      | _ => False
    | _ => False
  | .sh sh =>
    match it.inp s with
    | none => False
    | some i => it.vsem P d i sh s.h fun e h' => K (e.ap { s with h := h' })

theorem upd_self {s : St} {c : Nat} {v : Value} (h : s.t c = some v) : ({ s with t := upd s.t c (some v) } : St) = s := by
  have : upd s.t c (some v) = s.t := by funext i; unfold upd; split <;> simp_all
  rw [this]

theorem vst_sound {P : Env} {it : It} {d : Option Nat} {hint : Hint} {s : St} {K : St → Prop} (hh : it.vst P d hint s K) : it.step P d s K := by
  cases hint with
  | no => exact hh
  | split =>
    simp only [It.vst] at hh
    split at hh
    · rename_i c a b
      split at hh
      · rename_i t ht
        unfold It.step It.inp
        have hs : ({ s with h := s.h } : St) = s := rfl
        cases t with
        | true =>
          have h1 := hh.1 rfl
          rw [upd_self ht] at h1
          split at h1
          · rename_i v hv
            simp only [It.vals, St.ev, ht]
            have : s.evs [a] = some [v] := by simp [St.evs, hv]
            rw [this]
            exact h1
          · exact h1.elim
        | false =>
          have h1 := hh.2 rfl
          rw [upd_self ht] at h1
          split at h1
          · rename_i v hv
            simp only [It.vals, St.ev, ht]
            have : s.evs [b] = some [v] := by simp [St.evs, hv]
            rw [this]
            exact h1
          · exact h1.elim
      · exact hh.elim
    · exact hh.elim
  | sh sh =>
    simp only [It.vst] at hh
    unfold It.step
    split at hh
    · exact hh.elim
    · rename_i i hi; rw [hi]; exact vsem_sound hh

/-- With its guard; gs: the guard's value is not known. -/
def Tr.vst (P : Env) (x : Tr) (gs : Bool) (hint : Hint) (s : St) (K : St → Prop) : Prop :=
  match x.g with
  | none => x.it.vst P x.d hint s K
  | some (sl, w) =>
    match gs, s.t sl with
    | true, some (.bool b) =>
      (b = true → (match w with
        | true => x.it.vst P x.d hint { s with t := upd s.t sl (some (.bool true)) } K
        | false => K ((Ef.val x.d undef).ap { s with t := upd s.t sl (some (.bool true)) }))) ∧
      (b = false → (match w with
        | true => K ((Ef.val x.d undef).ap { s with t := upd s.t sl (some (.bool false)) })
        | false => x.it.vst P x.d hint { s with t := upd s.t sl (some (.bool false)) } K))
    | false, some (.bool true) => (match w with | true => x.it.vst P x.d hint s K | false => K ((Ef.val x.d undef).ap s))
    | false, some (.bool false) => (match w with | true => K ((Ef.val x.d undef).ap s) | false => x.it.vst P x.d hint s K)
    | false, some (.tuple _) => K ((Ef.val x.d undef).ap s)
    | _, _ => False

theorem Tr.vst_sound {P : Env} {x : Tr} {gs : Bool} {hint : Hint} {s : St} {K : St → Prop} (hh : x.vst P gs hint s K) : x.step P s K := by
  cases hg : x.g with
  | none =>
    rw [Tr.step_none hg]
    unfold Tr.vst at hh
    rw [hg] at hh
    exact Go.Proofs.Ytmfafadchpglgaa.vst_sound hh
  | some q =>
    obtain ⟨sl, w⟩ := q
    rw [Tr.step_some hg]
    unfold Tr.vst at hh
    rw [hg] at hh
    simp only at hh
    split at hh
    · rename_i b ht
      rw [ht]
      refine ⟨fun e => ?_, fun e => ?_⟩
      · cases b <;> cases w <;> first | (cases e; done) | skip
        · have := hh.2 rfl
          rw [upd_self ht] at this
          exact Go.Proofs.Ytmfafadchpglgaa.vst_sound this
        · have := hh.1 rfl
          rw [upd_self ht] at this
          exact Go.Proofs.Ytmfafadchpglgaa.vst_sound this
      · cases b <;> cases w <;> first | exact absurd rfl e | skip
        · have := hh.2 rfl
          rw [upd_self ht] at this
          exact this
        · have := hh.1 rfl
          rw [upd_self ht] at this
          exact this
    · rename_i ht
      rw [ht]
      cases w with
      | true => exact ⟨fun _ => Go.Proofs.Ytmfafadchpglgaa.vst_sound hh, fun e => absurd rfl e⟩
      | false => exact ⟨fun e => (by cases e), fun _ => hh⟩
    · rename_i ht
      rw [ht]
      cases w with
      | true => exact ⟨fun e => (by cases e), fun _ => hh⟩
      | false => exact ⟨fun _ => Go.Proofs.Ytmfafadchpglgaa.vst_sound hh, fun e => absurd rfl e⟩
    · rename_i ht
      rw [ht]
      exact hh
    · exact hh.elim

/-! ## Code -/

inductive VOp where
  | op (i : Nat) (x : Tr) (gs : Bool) (hint : Hint)
  | grp (F : Fm) (A : List Pl) (l : List (Nat × Tr × Bool × Hint))

inductive Vd where
  | skip
  | ops (l : List VOp) (ks : List Nat)
  | seq (a b : Vd)
  | join (F : Fm) (A : List Pl) (a b : Vd)
  | cond (c : Opd) (a b : Vd)
  | block (id : Nat) (a : Vd)
  | loop (F : Fm) (A : List Pl) (a : Vd)
  | exit (id : Nat)
  | ret
  | dead
  | scope (a : Vd)
  | rf (g : Opd) (ps : List (Nat × Lf)) (ks xs : List Nat) (RM : List (Nat × Nat)) (a b : Vd)

def VOp.its : List VOp → List (Nat × Tr)
  | [] => []
  | .op i x _ _ :: l => (i, x) :: VOp.its l
  | .grp _ _ g :: l => g.map (fun q => (q.1, q.2.1)) ++ VOp.its l

def Vd.cd : Vd → Cd
  | .skip => .skip
  | .ops l ks => .ops (VOp.its l) ks
  | .seq a b => .seq a.cd b.cd
  | .join _ _ a b => .seq a.cd b.cd
  | .cond c a b => .cond c a.cd b.cd
  | .block id a => .block id a.cd
  | .loop _ _ a => .loop a.cd
  | .exit id => .exit id
  | .ret => .ret
  | .dead => .dead
  | .scope a => .scope a.cd
  | .rf g ps _ _ RM a b => .rf g (ps.map (·.1)) RM a.cd b.cd

def Lf.single : Lf → Bool
  | .z | .m => false
  | _ => true

/-- An operation leaves F alone. -/
def okT (F : Fm) (x : Tr) : Bool :=
  (match x.d with | some d => !F.s.contains d | none => true) &&
  (match x.it, x.d with
   | .stb _ k _ _, _ => !F.x.contains k
   | .new _, some d | .box _ _, some d => !F.x.contains d && !F.b.contains d
   | _, _ => true)

def okOps (F : Fm) : List VOp → Bool
  | [] => true
  | .op _ x _ _ :: l => okT F x && okOps F l
  | .grp G _ g :: l => F.sub G && g.all (fun q => okT G q.2.1) && okOps F l

/-- Everything that is said of what is left alone is so. -/
def Vd.ok : Vd → Fm → Bool
  | .skip, _ | .exit _, _ | .ret, _ | .dead, _ => true
  | .scope a, F => a.ok F
  | .rf _ ps ks _ _ a b, _ => ps.all (fun q => q.2.single) && nodupB (ps.map (·.1)) && ks.all (fun k => !(ps.map (·.1)).contains k) && a.ok ⟨[], [], []⟩ && b.ok ⟨[], [], []⟩
  | .ops l ks, F => okOps F l && F.s.all ks.contains && F.x.all ks.contains
  | .seq a b, F => a.ok F && b.ok F
  | .join G _ a b, F => F.sub G && a.ok G && b.ok F
  | .cond _ a b, F => a.ok F && b.ok F
  | .block _ a, F => a.ok F
  | .loop G _ a, F => F.sub G && a.ok G

def vgrp (P : Env) : List (Nat × Tr × Bool × Hint) → St → (St → Prop) → Prop
  | [], s, K => K s
  | (_, x, gs, hint) :: l, s, K => x.vst P gs hint s fun s' => vgrp P l s' K

def vops (P : Env) : List VOp → St → (St → Prop) → Prop
  | [], s, K => K s
  | .op _ x gs hint :: l, s, K => x.vst P gs hint s fun s' => vops P l s' K
  | .grp F A g :: l, s, K => ∀ J : PredL (lvs A), allJ (lvs A) J (fun vs h => vops P l (stF s F A vs h) K) → vgrp P g s (endA A J)

/-- Measures that say nothing. -/
def m0 : (ls : List Lf) → MeasL ls
  | [] => fun _ => 0
  | .int _ :: r => fun _ => m0 r
  | .bool :: r => fun _ => m0 r
  | .slice :: r => fun _ => m0 r
  | .z :: r => fun _ => m0 r
  | .m :: r => fun _ => m0 r
  | .addr :: r => fun _ => m0 r
  | .fn :: r => fun _ _ _ => m0 r
  | .val :: r => fun _ => m0 r

def zipL : List (Nat × Lf) → List Value → List (Nat × Value)
  | (i, _) :: r, v :: vs => (i, v) :: zipL r vs
  | _, _ => []

def shP : List (Nat × (Nat × Nat)) → List (Nat × (Nat × Nat))
  | [] => []
  | (i, (k, o)) :: r => (i, (k + 1000000, o)) :: shP r
def shX : List (Nat × List Value) → List (Nat × List Value)
  | [] => []
  | (k, c) :: r => (k + 1000000, c) :: shX r

/-- A round's first state: of the function's slots only ks, of its boxes only xs. -/
def rnd (s : St) (ks xs : List Nat) (ps : List (Nat × Lf)) (vs : List Value) (h : Hp) : St := ⟨E (zipL ps vs ++ keepL s.t ks), E (shP (keepL s.p ks)), E (shX (keepL s.x xs)), h⟩

theorem shP_get : ∀ {l : List (Nat × (Nat × Nat))} {i : Nat} {q : Nat × Nat}, E (shP l) i = some q → ∃ k o, E l i = some (k, o) ∧ q = (k + 1000000, o)
  | [], _, _, h => by cases h
  | (j, (k, o)) :: r, i, q, h => by
    simp only [shP, E] at h ⊢
    split at h
    · rename_i e; rw [if_pos e]; cases h; exact ⟨k, o, rfl, rfl⟩
    · rename_i e; rw [if_neg e]; exact shP_get h
theorem shX_get : ∀ {l : List (Nat × List Value)} {i : Nat} {c : List Value}, E (shX l) i = some c → 1000000 ≤ i ∧ E l (i - 1000000) = some c
  | [], _, _, h => by cases h
  | (k, c) :: r, i, q, h => by
    simp only [shX, E] at h ⊢
    split at h
    · rename_i e; rw [e, if_pos (by omega)]; exact ⟨by omega, h⟩
    · rename_i e
      obtain ⟨h1, h2⟩ := shX_get h
      exact ⟨h1, by rw [if_neg (by omega)]; exact h2⟩

/-- An iterator over items of these shapes. -/
def IterL (P : Program) (fv : Value) (hm : Hp) (n : Nat) (ls : List Lf) (Item : Nat → Hp → PredL ls) : Prop := IterOk P fv hm n fun i h h1 args => appJ ls (Item i h) args h1

def Vd.vc (P : Env) : Vd → St → (Exit → St → Prop) → Prop
  | .skip, s, Q => Q .normal s
  | .ops l ks, s, Q => vops P l s fun s' => Q .normal (s'.keep ks)
  | .seq a b, s, Q => a.vc P s (thenQ (fun s' => b.vc P s' Q) Q)
  | .join F A a b, s, Q => ∀ J : PredL (lvs A), allJ (lvs A) J (fun vs h => b.vc P (stF s F A vs h) Q) → a.vc P s (thenQ (endA A J) Q)
  | .cond c a b, s, Q =>
    match s.ev c with
    | some (.bool t) => (t = true → a.vc P s Q) ∧ (t = false → b.vc P s Q)
    | _ => False
  | .block id a, s, Q => a.vc P s (inBlockQ id Q)
  | .loop F A a, s, Q => ∃ (I : PredL (lvs A)) (μ : MeasL (lvs A)), endA A I s ∧ allI (lvs A) I μ (fun vs h m => a.vc P (stF s F A vs h) (thenQ (endM A I μ m) Q))
  | .exit id, s, Q => Q (.exit id) s
  | .ret, s, Q => Q .ret s
  | .dead, _, _ => False
  | .scope a, s, Q => a.vc P s (noGotoQ Q)
  | .rf g ps ks xs _ a b, s, Q =>
    match s.ev g with
    | some fv => ∃ (hm : Hp) (n : Nat) (Item : Nat → Hp → PredL (ps.map (·.2))), IterL P.toProgram fv hm n (ps.map (·.2)) Item ∧ ∃ J : Nat → Hp → Prop, J 0 s.h ∧ (∀ i h, J i h → hm.le h) ∧
        (∀ i h, i < n → J i h → allI (ps.map (·.2)) (Item i h) (m0 _) fun vs h1 _ => h.le h1 → a.vc P (rnd s ks xs ps vs h1) (normQ fun s1 => b.vc P s1 (normQ fun s2 => J (i + 1) s2.h))) ∧
        (∀ h, J n h → Q .normal { s with h := h })
    | none => False

section
variable {P : Env}

theorem ap_agr {F : Fm} {x : Tr} (hk : okT F x = true) {e : Ef} (ho : e.own x.it x.d) {s : St} : Agr F s (e.ap s) := by
  obtain ⟨g, d, it⟩ := x
  simp only [okT, Bool.and_eq_true] at hk
  obtain ⟨h1, h2⟩ := hk
  simp only at ho h1 h2
  have put : ∀ {α : Type} {f : Nat → Option α} {d : Nat} {u : Option α} {L : List Nat}, (!L.contains d) = true → ∀ k ∈ L, ∀ v, f k = some v → upd f d u k = some v := by
    intro α f d u L hd k hk v hv
    have : k ≠ d := fun e => by subst e; simp at hd; exact hd hk
    simp [upd, this, hv]
  cases e with
  | val d' v =>
    cases d' with
    | none => exact Agr.refl _ _
    | some d' =>
      have hd : d = some d' := by rcases ho with h | h; exact h.symm; cases h
      subst hd
      exact ⟨put h1, fun k hk b o _ hp => put h1 k hk _ hp, fun _ _ _ h => h⟩
  | ptr d' k o =>
    cases d' with
    | none => exact Agr.refl _ _
    | some d' =>
      have hd : d = some d' := ho.1.symm
      subst hd
      exact ⟨put h1, fun k hk b o _ hp => put h1 k hk _ hp, fun _ _ _ h => h⟩
  | bx k c =>
    obtain ⟨e, n, y, rfl⟩ := ho
    exact ⟨fun _ _ _ h => h, fun _ _ _ _ _ h => h, put h2⟩
  | new d' c =>
    obtain ⟨rfl, hit⟩ := ho
    have h3 : (!F.x.contains d') = true ∧ (!F.b.contains d') = true := by
      rcases hit with ⟨z, rfl⟩ | ⟨n, y, rfl⟩ <;> simpa only [Bool.and_eq_true] using h2
    refine ⟨put h1, fun k hk b o hb hp => ?_, put h3.1⟩
    have h4 : k ≠ d' := fun e => by subst e; simp at h1; exact h1 hk
    have h5 : b ≠ d' := fun e => by subst e; have := h3.2; simp at this; exact this hb
    simp only [Ef.ap, if_neg h4, hp, if_neg h5]

theorem It.step_agr {F : Fm} {x : Tr} (hk : okT F x = true) {s : St} {K K' : St → Prop} (hm : ∀ s', K s' → Agr F s s' → K' s') (hh : x.it.step P x.d s K) : x.it.step P x.d s K' := by
  unfold It.step at *
  split at hh
  · exact hh.elim
  · refine It.sem_mono (fun e h' ho _ _ _ hx => hm _ hx ?_) hh
    have := ap_agr hk ho (s := { s with h := h' })
    exact ⟨this.t, this.p, this.x⟩

theorem Tr.step_agr {F : Fm} {x : Tr} (hk : okT F x = true) {s : St} {K K' : St → Prop} (hm : ∀ s', K s' → Agr F s s' → K' s') (hh : x.step P s K) : x.step P s K' := by
  have hu : Agr F s ((Ef.val x.d undef).ap s) := ap_agr hk (e := .val x.d undef) (Or.inl rfl)
  cases hg : x.g with
  | none => rw [Tr.step_none hg] at hh ⊢; exact It.step_agr hk hm hh
  | some q =>
    obtain ⟨sl, w⟩ := q
    rw [Tr.step_some hg] at hh ⊢
    generalize s.t sl = o at hh ⊢
    split at hh
    · exact ⟨fun e => It.step_agr hk hm (hh.1 e), fun e => hm _ (hh.2 e) hu⟩
    · exact hm _ hh hu
    · exact hh.elim

theorem vgrp_sound {F : Fm} : ∀ {l : List (Nat × Tr × Bool × Hint)} (_ : l.all (fun q => okT F q.2.1) = true) {s : St} {K K' : St → Prop}, (∀ s', K s' → Agr F s s' → K' s') → vgrp P l s K → flat P (l.map fun q => q.2.1) s K'
  | [], _, _, _, _, hm, h => hm _ h (Agr.refl _ _)
  | (_, x, _, _) :: l, hk, _, _, _, hm, h => by
    simp only [List.all_cons, Bool.and_eq_true] at hk
    exact Tr.step_agr hk.1 (fun s1 h1 a1 => vgrp_sound hk.2 (fun s2 h2 a2 => hm _ h2 (a1.trans a2)) h1) (Tr.vst_sound h)

theorem flat_append {l m : List Tr} : ∀ {s : St} {K : St → Prop}, flat P l s (fun s' => flat P m s' K) → flat P (l ++ m) s K := by
  induction l with
  | nil => exact fun h => h
  | cons x l ih => exact fun h => Tr.step_mono (fun _ h => ih h) h

theorem vops_sound {F : Fm} : ∀ {l : List VOp} (_ : okOps F l = true) {s : St} {K K' : St → Prop} (_ : ∀ s', K s' → Agr F s s' → K' s') (_ : ∀ s0 s, s0.weakT s → K' s0 → K' s), vops P l s K → flat P ((VOp.its l).map (·.2)) s K'
  | [], _, _, _, _, hm, _, h => hm _ h (Agr.refl _ _)
  | .op _ _ _ _ :: _, ho, _, _, _, hm, hk, h => by
    simp only [okOps, Bool.and_eq_true] at ho
    exact Tr.step_agr ho.1 (fun s1 h1 a1 => vops_sound ho.2 (fun s2 h2 a2 => hm _ h2 (a1.trans a2)) hk h1) (Tr.vst_sound h)
  | .grp G A g :: l, ho, s, K, K', hm, hk, h => by
    simp only [okOps, Bool.and_eq_true] at ho
    simp only [VOp.its, List.map_append, List.map_map]
    refine flat_append (vgrp_sound ho.1.2 (fun s' hs' a1 => ?_) (h (mkJ _ _) allJ_mk))
    obtain ⟨vs, h2, h3⟩ := endA_mk a1 hs'
    exact flat_weak h3 hk (vops_sound ho.2 (fun s2 hs2 a2 => hm _ hs2 (((stF_agr s G A vs s'.h).sub ho.1.1).trans a2)) hk h2)

theorem keep_agr {F : Fm} {ks : List Nat} (h1 : F.s.all ks.contains = true) (h2 : F.x.all ks.contains = true) (s : St) : Agr F s (s.keep ks) := by
  simp only [List.all_eq_true, List.contains_iff_mem] at h1 h2
  exact ⟨fun k hk v e => by show E _ _ = _; rw [E_keepL, if_pos (h1 k hk)]; exact e, fun k hk b o _ e => by show E _ _ = _; rw [E_keepL, if_pos (h1 k hk)]; exact e, fun k hk v e => by show E _ _ = _; rw [E_keepL, if_pos (h2 k hk)]; exact e⟩

theorem thenQ_agr {F G : Fm} {s : St} {f f' : St → Prop} {Q Q' : Exit → St → Prop} (hf : ∀ s', f s' → Agr F s s' → f' s') (hq : ∀ e s', Q e s' → Agr G s s' → Q' e s') (hs : G.sub F = true) : ∀ e s', thenQ f Q e s' → Agr F s s' → thenQ f' Q' e s' := by
  intro e s' h a
  cases e <;> first | exact hf _ h a | exact hq _ _ h (a.sub hs)
theorem inBlockQ_agr {F : Fm} {s : St} {id : Nat} {Q Q' : Exit → St → Prop} (hq : ∀ e s', Q e s' → Agr F s s' → Q' e s') : ∀ e s', inBlockQ id Q e s' → Agr F s s' → inBlockQ id Q' e s' := by
  intro e s' h a
  cases e <;> simp only [inBlockQ] at h ⊢
  case exit i =>
    split
    · rw [if_pos ‹_›] at h; exact hq _ _ h a
    · rw [if_neg ‹_›] at h; exact hq _ _ h a
  all_goals exact hq _ _ h a
theorem Fm.sub_refl (F : Fm) : F.sub F = true := by
  simp only [Fm.sub, Bool.and_eq_true, List.all_eq_true, List.contains_iff_mem]
  exact ⟨⟨fun _ h => h, fun _ h => h⟩, fun _ h => h⟩

theorem appJ_len : ∀ {ps : List (Nat × Lf)}, ps.all (fun q => q.2.single) = true → ∀ {I : PredL (ps.map (·.2))} {vs : List Value} {h : Hp}, appJ (ps.map (·.2)) I vs h → vs.length = ps.length
  | [], _, _, [], _, _ => rfl
  | [], _, _, _ :: _, _, hh => (hh : False).elim
  | (_, l) :: _, _, _, [], _, hh => by cases l <;> exact (hh : False).elim
  | (i, l) :: ps, hs, I, v :: vs, h, hh => by
    simp only [List.all_cons, Bool.and_eq_true] at hs
    simp only [List.length_cons]
    cases l
    case int k =>
      cases v <;> try exact (hh : False).elim
      rename_i k' x
      have h2 : (if k = k' then appJ (ps.map (·.2)) (I x) vs h else False) := hh
      split at h2
      · rw [appJ_len hs.2 h2]
      · exact h2.elim
    case bool => cases v <;> first | exact (hh : False).elim | skip
                 rename_i x; exact congrArg (· + 1) (appJ_len hs.2 (I := I x) hh)
    case slice => cases v <;> first | exact (hh : False).elim | skip
                  rename_i x y z; exact congrArg (· + 1) (appJ_len hs.2 (I := I ⟨x, y, z⟩) hh)
    case addr =>
      cases v <;> first | exact (hh : False).elim | skip
      rename_i q
      cases q with
      | none => exact (hh : False).elim
      | some a => exact congrArg (· + 1) (appJ_len hs.2 (I := I a) hh)
    case fn =>
      cases v <;> first | exact (hh : False).elim | skip
      rename_i q x y
      cases q <;> first | exact (hh : False).elim | skip
      rename_i f
      exact congrArg (· + 1) (appJ_len hs.2 (I := I f x y) hh)
    case val => exact congrArg (· + 1) (appJ_len hs.2 (I := I v) hh)
    case z => exact absurd hs.1 (by decide)
    case m => exact absurd hs.1 (by decide)

theorem updL_get : ∀ {ps : List (Nat × Lf)} {vs : List Value} {f : Nat → Option Value} {i : Nat} {v : Value}, (ps.map (·.1)).Nodup → E (zipL ps vs) i = some v → updL f (ps.map (·.1)) vs i = some v
  | [], _, _, _, _, _, h => by cases h
  | _ :: _, [], _, _, _, _, h => by cases h
  | (p, l) :: ps, u :: vs, f, i, v, hn, h => by
    rw [List.map_cons, List.nodup_cons] at hn
    simp only [zipL, E] at h
    simp only [List.map_cons, updL]
    split at h
    · rename_i e
      cases h
      subst e
      have stay : ∀ (ps : List (Nat × Lf)) (vs : List Value) (f : Nat → Option Value), i ∉ ps.map (·.1) → updL f (ps.map (·.1)) vs i = f i := by
        intro ps
        induction ps with
        | nil => exact fun _ _ _ => rfl
        | cons q ps ih =>
          intro vs f hni
          cases vs with
          | nil => rfl
          | cons u vs =>
            simp only [List.map_cons, updL]
            rw [ih vs _ (fun h => hni (by simp [h]))]
            unfold upd; rw [if_neg (fun e => hni (by simp [e]))]
      rw [stay ps vs _ hn.1]; simp [upd]
    · exact updL_get hn.2 h

theorem updL_other {ps : List Nat} : ∀ {vs : List Value} {f : Nat → Option Value} {i : Nat}, i ∉ ps → updL f ps vs i = f i := by
  induction ps with
  | nil => exact fun _ => rfl
  | cons q ps ih =>
    intro vs f i hni
    cases vs with
    | nil => rfl
    | cons u vs =>
      simp only [updL]
      rw [ih (fun h => hni (by simp [h]))]
      unfold upd; rw [if_neg (fun e => hni (by simp [e]))]

theorem rnd_weak {s : St} {ks xs : List Nat} {ps : List (Nat × Lf)} {vs : List Value} {h : Hp} (hn : (ps.map (·.1)).Nodup) (hk : ∀ k ∈ ks, k ∉ ps.map (·.1)) : (rnd s ks xs ps vs h).weakT (s.round (ps.map (·.1)) vs h) := by
  refine ⟨fun i v e => ?_, fun i v e => ?_, fun i v e => ?_, rfl⟩
  rotate_left
  · obtain ⟨k, o, h1, rfl⟩ := shP_get e
    obtain ⟨h2, h3⟩ := keepL_get h1
    simp only [St.round]
    rw [if_neg (hk i h2), h3]; rfl
  · obtain ⟨h1, h2⟩ := shX_get e
    obtain ⟨_, h3⟩ := keepL_get h2
    simp only [St.round]
    rw [if_neg (by omega)]; exact h3
  rcases E_app e with e | e
  · exact updL_get hn e
  · obtain ⟨h1, h2⟩ := keepL_get e
    show updL _ _ _ _ = _
    rw [updL_other (hk i h1)]; exact h2

theorem Vd.sound : ∀ (c : Vd) {F : Fm} (_ : c.ok F = true) {s : St} {Q Q' : Exit → St → Prop}, (∀ e s', Q e s' → Agr F s s' → Q' e s') → (∀ e s0 s, s0.weakT s → Q' e s0 → Q' e s) → c.vc P s Q → c.cd.wp P s Q' := by
  intro c
  induction c with
  | skip => exact fun _ _ _ _ hm _ h => hm _ _ h (Agr.refl _ _)
  | ops l ks =>
    intro F hk s Q Q' hm hq h
    simp only [Vd.ok, Bool.and_eq_true] at hk
    exact vops_sound hk.1.1 (fun s' h a => hm _ _ h (a.trans (keep_agr hk.1.2 hk.2 s'))) (fun s0 s w h => hq _ _ _ (keep_weak w ks) h) h
  | seq a b iha ihb =>
    intro F hk s Q Q' hm hq h
    simp only [Vd.ok, Bool.and_eq_true] at hk
    exact iha hk.1 (thenQ_agr (fun s1 h1 a1 => ihb hk.2 (fun e s2 h2 a2 => hm e s2 h2 (a1.trans a2)) hq h1) hm (Fm.sub_refl F)) (thenQ_weak (fun s0 s w h => Cd.wp_weak _ w hq h) hq) h
  | join G A a b iha ihb =>
    intro F hk s Q Q' hm hq h
    simp only [Vd.ok, Bool.and_eq_true] at hk
    refine iha hk.1.2 (thenQ_agr (fun s1 h1 a1 => ?_) hm hk.1.1) (thenQ_weak (fun s0 s w h => Cd.wp_weak _ w hq h) hq) (h (mkJ _ _) allJ_mk)
    obtain ⟨vs, h2, h3⟩ := endA_mk a1 h1
    exact Cd.wp_weak _ h3 hq (ihb hk.2 (fun e s2 hs2 a2 => hm _ _ hs2 (((stF_agr s G A vs s1.h).sub hk.1.1).trans a2)) hq h2)
  | cond c a b iha ihb =>
    intro F hk s Q Q' hm hq h
    simp only [Vd.ok, Bool.and_eq_true] at hk
    simp only [Vd.vc] at h
    split at h
    · rename_i t ht; exact ⟨t, ht, fun e => iha hk.1 hm hq (h.1 e), fun e => ihb hk.2 hm hq (h.2 e)⟩
    · exact h.elim
  | block id a ih => exact fun hk _ _ _ hm hq h => ih hk (inBlockQ_agr hm) (inBlockQ_weak hq) h
  | loop G A a ih =>
    rintro F hk s Q Q' hm hq ⟨I, μ, h1, h2⟩
    simp only [Vd.ok, Bool.and_eq_true] at hk
    unfold endA at h1
    split at h1
    · rename_i vs hv
      refine ⟨List Value × Hp, fun x => stF s G A x.1 x.2, fun x => appJ (lvs A) I x.1 x.2, fun x => appM (lvs A) μ x.1 x.2, ⟨(vs, s.h), h1, (stF_weak (Agr.refl _ _) hv).weak⟩, fun x hx => ?_⟩
      refine ih hk.2 (thenQ_agr (fun s1 hs1 a1 => ?_) (G := F) (fun e s1 hs1 a1 => hm _ _ hs1 (((stF_agr s G A x.1 x.2).sub hk.1).trans a1)) hk.1) (thenQ_weak (fun s0 s w h => ?_) hq) (app_all h2 hx)
      · unfold endM at hs1
        split at hs1
        · rename_i us hu
          exact ⟨(us, s1.h), hs1.1, (stF_weak ((stF_agr s G A x.1 x.2).trans a1) hu).weak, hs1.2⟩
        · exact hs1.elim
      · obtain ⟨x', b1, b2, b3⟩ := h
        exact ⟨x', b1, b2.transT w, b3⟩
    · exact h1.elim
  | exit id => exact fun _ _ _ _ hm _ h => hm _ _ h (Agr.refl _ _)
  | ret => exact fun _ _ _ _ hm _ h => hm _ _ h (Agr.refl _ _)
  | dead => exact fun _ _ _ _ _ _ h => h
  | scope a ih =>
    intro F hk s Q Q' hm hq h
    refine ih hk (fun e s' h a => ?_) (noGotoQ_weak hq) h
    cases e <;> first | exact h | exact hm _ _ h a
  | rf g ps ks xs RM a b iha ihb =>
    intro F hk s Q Q' hm hq h
    simp only [Vd.ok, Bool.and_eq_true] at hk
    obtain ⟨⟨⟨⟨k1, k2⟩, k3⟩, k4⟩, k5⟩ := hk
    simp only [Vd.vc] at h
    split at h
    · rename_i fv hfv
      obtain ⟨hm', n, It, h1, J, h2, h3, h4, h5⟩ := h
      refine ⟨fv, hm', n, _, J, hfv, h1, h2, h3, fun i h0 h' args hi hj hle hit => ?_, fun h' hJ => hm _ _ (h5 h' hJ) ⟨fun _ _ _ h => h, fun _ _ _ _ _ h => h, fun _ _ _ h => h⟩⟩
      have hlen := appJ_len k1 hit
      have hv := app_all (h4 i h0 hi hj) hit hle
      refine ⟨by simpa using hlen, ?_⟩
      refine Cd.wp_weak _ (rnd_weak (xs := xs) (nodupB_spec k2) (fun k hk hin => by have := List.all_eq_true.1 k3 k hk; simp at this; simp at hin; obtain ⟨l, hl⟩ := hin; exact this l hl)) (normQ_weak fun s0 s w hh => Cd.wp_weak _ w (normQ_weak fun s0 s w' hk' => by rw [w'.h]; exact hk') hh) ?_
      refine iha k4 (fun e s1 h1 _ => ?_) (normQ_weak fun s0 s w hh => Cd.wp_weak _ w (normQ_weak fun s0 s w' hk' => by rw [w'.h]; exact hk') hh) hv
      cases e <;> first | exact (h1 : False).elim | skip
      refine ihb k5 (fun e s2 h2 _ => h2) (normQ_weak fun s0 s w' hk' => by rw [w'.h]; exact hk') h1
    · exact h.elim

/-- The whole check of a function, for the kernel. -/
def chkV (P : Program) (fn : Func) (RM : List (Nat × Nat)) (d : Vd) (rvs : List RV) : Bool := d.ok ⟨[], [], []⟩ && chkFn P fn RM d.cd rvs

/-- **A FUNCTION's CONTRACT OUT OF THE FORMULA.** -/
theorem tri_of_vcE (hm : P.follows .mixedOrders = true) {f : Nat} {fn : Func} (hf : P.funcs[f]? = some fn) {d : Vd} {RM : List (Nat × Nat)} {rvs : List RV} (hc : chkV P fn RM d rvs = true) (hrf : d.cd.norf = true ∨ ∀ h w, P.ok h w)
    {N : Nat} (hN : fn.ntmps = N) {args caps : List Value} {h : Hp} {R : Value → Hp → Prop} {V : Prop} (hV : V = d.vc P (St.start (args ++ caps) h) (fnQ rvs R)) (hn : args.length + caps.length ≤ N) (hv : V) : Tri P (.func (.func f) #[] caps.toArray) args h R := by
  simp only [chkV, Bool.and_eq_true] at hc
  subst hV
  exact tri_of_chk hm hf hc.2 hN hn hrf (Vd.sound d hc.1 (fun _ _ h _ => h) fnQ_weak hv)

theorem tri_of_vc {P : Program} (hm : P.follows .mixedOrders = true) {f : Nat} {fn : Func} (hf : P.funcs[f]? = some fn) {d : Vd} {RM : List (Nat × Nat)} {rvs : List RV} (hc : chkV P fn RM d rvs = true)
    {N : Nat} (hN : fn.ntmps = N) {args caps : List Value} {h : Hp} {R : Value → Hp → Prop} {V : Prop} (hV : V = d.vc P (St.start (args ++ caps) h) (fnQ rvs R)) (hn : args.length + caps.length ≤ N) (hv : V) : Tri P (.func (.func f) #[] caps.toArray) args h R :=
  tri_of_vcE (P := envOf P) hm hf hc (Or.inr fun _ _ => trivial) hN hV hn hv

/-- What holds of a call holds where more is known. -/
theorem Tri.lift {P : Program} {E : Env} (hE : E.toProgram = P) {fv : Value} {args : List Value} {h : Hp} {R : Value → Hp → Prop} (t : Tri P fv args h R) : Tri E fv args h R := fun w hs _ => by
  have := t w hs trivial
  rw [← hE] at this; exact this

end
end Go.Proofs.Ytmfafadchpglgaa
