import Derived.CallsIn
import Derived.OrdersIn
import Derived.WalkKit
import Derived.Laws.CopyRow

/- The calculus, part 1: a partial view of memory; boxes that nobody else holds as values; what one operation does to them. No program's text. -/
namespace Go.Proofs.Ytmfafadchpglgaa

/-! ## Memory, seen in part -/

/-- What is known of a block: its cells; 'wr': no cell of it is frozen. -/
structure Blk where
  cs : List Value
  wr : Bool

abbrev Hp := Nat → Option Blk

def Blk.fits (b : Blk) (o : Obj) : Prop := ∃ T fz, o = .cells b.cs.toArray T fz ∧ (b.wr = true → fz = (0, 0))

/-- The view holds of the world. -/
def Hp.sub (h : Hp) (w : World) : Prop := ∀ k b, h k = some b → ∃ o, w.heap[k]? = some o ∧ b.fits o

def Hp.le (h h' : Hp) : Prop := ∀ k b, h k = some b → h' k = some b
theorem Hp.le_refl (h : Hp) : h.le h := fun _ _ e => e
theorem Hp.le_trans {a b c : Hp} (h : a.le b) (k : b.le c) : a.le c := fun i x e => k i x (h i x e)

def Hp.up (h : Hp) (k : Nat) (b : Blk) : Hp := fun j => if j = k then some b else h j
theorem Hp.up_same (h : Hp) (k : Nat) (b : Blk) : h.up k b k = some b := by simp [Hp.up]
theorem Hp.up_other (h : Hp) {k j : Nat} (b : Blk) (hj : j ≠ k) : h.up k b j = h j := by simp [Hp.up, hj]
theorem Hp.le_up {h : Hp} {k : Nat} (b : Blk) (hk : h k = none) : h.le (h.up k b) := fun j x e => by
  unfold Hp.up; split
  · subst_vars; rw [hk] at e; cases e
  · exact e
theorem Hp.up_up (h : Hp) (k : Nat) (a b : Blk) : (h.up k a).up k b = h.up k b := by
  funext j; unfold Hp.up; split <;> simp_all
theorem Hp.up_mono {h h' : Hp} (hl : h.le h') (k : Nat) (b : Blk) : (h.up k b).le (h'.up k b) := fun j x e => by
  unfold Hp.up at *; split <;> simp_all
  exact hl _ _ e
theorem Hp.up_comm (h : Hp) {k j : Nat} (a b : Blk) (hk : k ≠ j) : (h.up k a).up j b = (h.up j b).up k a := by
  funext i; unfold Hp.up; by_cases h1 : i = k <;> by_cases h2 : i = j <;> simp_all

/-- From the world W, seen as H, to the world w, seen as h: what is not seen has not turned; what is newly seen is new. -/
structure Fr (H : Hp) (W : World) (h : Hp) (w : World) : Prop where
  os : w.os = W.os
  tape : w.tape = W.tape
  output : w.output = W.output
  size : W.heap.size ≤ w.heap.size
  block : ∀ k, k < W.heap.size → H k = none → w.heap[k]? = W.heap[k]?
  fresh : ∀ k b, h k = some b → H k = none → W.heap.size ≤ k
  sub : h.sub w
  kind : ∀ (k : Nat) cs T fz, W.heap[k]? = some (Obj.cells cs T fz) → ∃ cs', w.heap[k]? = some (Obj.cells cs' T fz)

theorem Fr.refl {h : Hp} {w : World} (hs : h.sub w) : Fr h w h w :=
  ⟨rfl, rfl, rfl, Nat.le_refl _, fun _ _ _ => rfl, fun k b e n => (by rw [e] at n; cases n), hs, fun k cs T fz e => ⟨cs, e⟩⟩

theorem Fr.trans {H h h' : Hp} {W w w' : World} (a : Fr H W h w) (b : Fr h w h' w') : Fr H W h' w' where
  os := b.os.trans a.os
  tape := b.tape.trans a.tape
  output := b.output.trans a.output
  size := Nat.le_trans a.size b.size
  block := fun k hk hn => by
    have hk' : h k = none := by
      cases e : h k with
      | none => rfl
      | some x => have := a.fresh k x e hn; omega
    rw [b.block k (Nat.lt_of_lt_of_le hk a.size) hk', a.block k hk hn]
  fresh := fun k x e hn => by
    cases e' : h k with
    | none => exact Nat.le_trans a.size (b.fresh k x e e')
    | some y => exact a.fresh k y e' hn
  sub := b.sub
  kind := fun k cs T fz e => let ⟨cs', e'⟩ := a.kind k cs T fz e; b.kind k cs' T fz e'

theorem Hp.lt_of_sub {h : Hp} {w : World} (hs : h.sub w) {k : Nat} {b : Blk} (e : h k = some b) : k < w.heap.size := by
  obtain ⟨o, ho, _⟩ := hs k b e
  exact (Array.getElem?_eq_some_iff.1 ho).1

/-- Less may be seen. -/
theorem Fr.forget {H h h' : Hp} {W w : World} (a : Fr H W h w) (hl : h'.le h) : Fr H W h' w :=
  { a with fresh := fun k b e => a.fresh k b (hl k b e), sub := fun k b e => a.sub k b (hl k b e) }

/-! ## Programs, and what is known besides -/

/-- A program; and a fact of views and worlds that lasts while only what is seen, or new, turns. -/
structure Env extends Program where
  ok : Hp → World → Prop
  keep : ∀ {H W h w}, ok H W → Fr H W h w → ok h w

/-- Nothing is known besides. -/
abbrev envOf (P : Program) : Env := { toProgram := P, ok := fun _ _ => True, keep := fun _ _ => trivial }
instance : Coe Program Env := ⟨envOf⟩
instance : CoeOut Env Program := ⟨Env.toProgram⟩

/-! ## Cells -/

def cld (cs : List Value) (off : Nat) : Option Nat → Option Value
  | none => cs[off]?
  | some n => if off + n ≤ cs.length then some (.agg ((cs.drop off).take n).toArray) else none

def hld (h : Hp) (a : Addr) (sz : Option Nat) : Option Value :=
  if a.spot = none then (h a.block).bind fun b => cld b.cs a.off sz else none

def setAt (cs : List Value) (off : Nat) (vs : List Value) : List Value := cs.take off ++ vs ++ cs.drop (off + vs.length)

theorem length_setAt {cs : List Value} {off : Nat} {vs : List Value} (h : off + vs.length ≤ cs.length) : (setAt cs off vs).length = cs.length := by
  simp [setAt]; omega

/-- The cells of a value that may be stored. -/
def vcells : Value → Option (List Value)
  | .agg cs => if cs.toList.all Value.oneCell' then some cs.toList else none
  | .tuple _ => none
  | v => some [v]

def hst (h : Hp) (a : Addr) (vs : List Value) : Option Hp :=
  if a.spot = none then
    match h a.block with
    | some b => if b.wr = true ∧ a.off + vs.length ≤ b.cs.length then some (h.up a.block ⟨setAt b.cs a.off vs, true⟩) else none
    | none => none
  else none

/-- The address of element j of a slice. -/
def elemA (a : Option Addr) (j : Int) (sz : Nat) : Addr :=
  match a with
  | some ad => ad.add (j.toNat * sz)
  | none => default

/-- Where a slice's slice begins. -/
def sliceA (a : Option Addr) (l m : Int) (sz : Nat) : Option Addr := if m = l then a else a.map (·.add (l.toNat * sz))

def mkCells (zero : List Value) (n : Nat) : List Value := (List.range n).map fun i => zero.getD (i % zero.length) default

/-! ## Operations -/

inductive Opd where
  | t (n : Nat)
  | i (k : IntKind) (n : Int)
  | b (v : Bool)
  | nil
  | pnil
  | nofn
  | f (n : Nat)
  deriving DecidableEq

inductive It where
  | mov (x : Opd)
  | pick (c a b : Opd)
  | bin (op : BinOp) (x y : Opd)
  | beq (ng : Bool) (x y : Opd)
  | un (op : UnOp) (x : Opd)
  | cv (k : IntKind) (x : Opd)
  | ext (x : Opd) (i : Nat)
  | fld (off : Nat) (sz : Option Nat) (x : Opd)
  | ix (len esz : Nat) (sz : Option Nat) (x i : Opd)
  | bd (zero : List Opd) (parts : List (Nat × Nat × Opd))
  | ia (sz : Nat) (x i : Opd)
  | fa (off : Nat) (x : Opd)
  | sl (sz : Nat) (x : Opd) (lo hi mx : Option Opd)
  | mkf (f : Nat) (caps : List Opd)
  | len (x : Opd)
  | mnmx (mx : Bool) (x y : Opd)
  | nilck (x : Opd)
  | fab (e k off : Nat)
  | iab (e k len esz : Nat) (i : Opd)
  | ldb (e k : Nat) (sz : Option Nat)
  | stb (e k n : Nat) (x : Opd)
  | new (zero : List Opd)
  | box (n : Nat) (x : Opd)
  | ldh (sz : Option Nat) (a : Opd)
  | sth (n : Nat) (a x : Opd)
  | newp (zero : List Opd)
  | boxp (n : Nat) (x : Opd)
  | mk (zero : List Opd) (bytes : Nat) (len cap : Opd)
  | bs (zero : List Opd) (len esz : Nat) (parts : List (Nat × Opd))
  | call (mono : Bool) (fv : Opd) (args : List Opd)
  | app (sz bytes : Nat) (zero : List Opd) (x y : Opd)
  | appz (sz bytes : Nat) (zero : List Opd) (x n : Opd)
  | cpy (sz : Nat) (x y : Opd)
  deriving DecidableEq

structure St where
  t : Nat → Option Value
  p : Nat → Option (Nat × Nat)
  x : Nat → Option (List Value)
  h : Hp

def upd {α : Type} (f : Nat → Option α) (d : Nat) (v : Option α) : Nat → Option α := fun i => if i = d then v else f i

def Opd.const : Opd → Option Value
  | .t _ => none
  | .i k n => some (.int k n)
  | .b v => some (.bool v)
  | .nil => some (.slice none 0 0)
  | .pnil => some (.pointer none)
  | .nofn => some .nilFunc
  | .f n => some (.func (.func n) #[] #[])

def St.ev (s : St) : Opd → Option Value
  | .t n => s.t n
  | .i k n => some (.int k n)
  | .b v => some (.bool v)
  | .nil => some (.slice none 0 0)
  | .pnil => some (.pointer none)
  | .nofn => some .nilFunc
  | .f n => some (.func (.func n) #[] #[])

def St.evs (s : St) : List Opd → Option (List Value)
  | [] => some []
  | o :: r =>
    match s.ev o, s.evs r with
    | some v, some vs => some (v :: vs)
    | _, _ => none

def consts : List Opd → List Value
  | [] => []
  | o :: r => (o.const.getD undef) :: consts r

structure Inp where
  vs : List Value
  off : Nat
  bx : List Value

def It.opds : It → List Opd
  | .mov x | .un _ x | .cv _ x | .ext x _ | .fld _ _ x | .fa _ x | .len x | .nilck x | .stb _ _ _ x | .box _ x | .ldh _ x | .boxp _ x | .iab _ _ _ _ x => [x]
  | .pick c a b => [c, a, b]
  | .bin _ x y | .beq _ x y | .ix _ _ _ x y | .ia _ x y | .mnmx _ x y | .sth _ x y | .mk _ _ x y | .app _ _ _ x y | .appz _ _ _ x y | .cpy _ x y => [x, y]
  | .bd _ ps => ps.map fun q => q.2.2
  | .bs _ _ _ ps => ps.map fun q => q.2
  | .sl _ x lo hi mx => x :: (lo.toList ++ hi.toList ++ mx.toList)
  | .mkf _ cs => cs
  | .call _ fv as => fv :: as
  | .fab .. | .ldb .. | .new _ | .newp _ => []

/-- The slot that holds the pointer into a box, and the box. -/
def It.ptr : It → Option (Nat × Nat)
  | .fab e k _ | .iab e k _ _ _ | .ldb e k _ | .stb e k _ _ => some (e, k)
  | _ => none

def It.vals (it : It) (s : St) : Option (List Value) :=
  match it with
  | .pick c a b =>
    match s.ev c with
    | some (.bool true) => s.evs [a]
    | some (.bool false) => s.evs [b]
    | _ => none
  | it => s.evs it.opds

def It.inp (it : It) (s : St) : Option Inp :=
  match it.vals s with
  | none => none
  | some vs =>
    match it.ptr with
    | none => some ⟨vs, 0, []⟩
    | some (e, k) =>
      match s.p e, s.x k with
      | some (k', off), some cs => if k' = k then some ⟨vs, off, cs⟩ else none
      | _, _ => none

/-- What an operation does to the slots and boxes. -/
inductive Ef where
  | val (d : Option Nat) (v : Value)
  | ptr (d : Option Nat) (k off : Nat)
  | bx (k : Nat) (cs : List Value)
  | new (d : Nat) (cs : List Value)

def Ef.ap : Ef → St → St
  | .val (some d) v, s => { s with t := upd s.t d (some v), p := upd s.p d none }
  | .val none _, s => s
  | .ptr (some d) k off, s => { s with t := upd s.t d none, p := upd s.p d (some (k, off)) }
  | .ptr none _ _, s => s
  | .bx k cs, s => { s with x := upd s.x k (some cs) }
  | .new d cs, s =>
    { s with
      t := upd s.t d none
      p := fun i => if i = d then some (d, 0) else (match s.p i with | some (k, o) => if k = d then none else some (k, o) | none => none)
      x := upd s.x d (some cs) }

def binK (op : BinOp) (k : IntKind) (a b : Int) (K : Value → Prop) : Prop :=
  match op with
  | .add => K (.int k (k.wrap (a + b)))
  | .sub => K (.int k (k.wrap (a - b)))
  | .mul => K (.int k (k.wrap (a * b)))
  | .quo => b ≠ 0 ∧ K (.int k (k.wrap (a.tdiv b)))
  | .rem => b ≠ 0 ∧ K (.int k (a.tmod b))
  | .and => K (.int k (k.wrap (BitVec.ofInt k.bits a &&& BitVec.ofInt k.bits b).toNat))
  | .or => K (.int k (k.wrap (BitVec.ofInt k.bits a ||| BitVec.ofInt k.bits b).toNat))
  | .xor => K (.int k (k.wrap (BitVec.ofInt k.bits a ^^^ BitVec.ofInt k.bits b).toNat))
  | .andNot => K (.int k (k.wrap (BitVec.ofInt k.bits a &&& ~~~ BitVec.ofInt k.bits b).toNat))
  | .eql => K (.bool (decide (a = b)))
  | .neq => K (.bool (!decide (a = b)))
  | .lss => K (.bool (decide (a < b)))
  | .leq => K (.bool (decide (a ≤ b)))
  | .gtr => K (.bool (decide (b < a)))
  | .geq => K (.bool (decide (b ≤ a)))
  | .shl | .shr => False

def shK (op : BinOp) (k : IntKind) (a b : Int) (K : Value → Prop) : Prop :=
  match op with
  | .shl => 0 ≤ b ∧ K (.int k (k.wrap (a * 2 ^ (min b.toNat k.bits))))
  | .shr => 0 ≤ b ∧ K (.int k (a.fdiv (2 ^ (min b.toNat k.bits))))
  | _ => False

def isSh : BinOp → Bool
  | .shl | .shr => true
  | _ => false

/-- The cells of a struct, an array or a row, filled. -/
def fillC (cs : List Value) : List (Nat × Nat × Value) → Option (List Value)
  | [] => some cs
  | (off, n, v) :: r =>
    match v with
    | .agg vs => if vs.size = n ∧ off + n ≤ cs.length then fillC (setAt cs off vs.toList) r else none
    | .tuple _ => none
    | v => if n = 1 ∧ off + 1 ≤ cs.length then fillC (setAt cs off [v]) r else none

/-- Fn 'fv' with 'args': the way a call goes (GoSem/Dispatch). -/
def CallV (P : Program) (fv : Value) (args : List Value) (w : World) (R : Value → World → Prop) : Prop :=
  match ((Deferred.ofValue fv args.toArray >>= fun d => invoke d.target d.args).run P w) with
  | .ok (.value v) w' => R v w'
  | .ok (.enter g as) w' => CallsIn Fence.wide 0 P g as w' fun e w'' => ∃ v, e = .returned v ∧ R v w''
  | .ok (.round l f tmps assign body) w' => RoundIn Fence.wide 0 P l f tmps assign body w' fun e w'' => ∃ v, e = .returned v ∧ R v w''
  | _ => False

/-- THE CONTRACT OF A CALL, over a view of memory. -/
def Tri (P : Env) (fv : Value) (args : List Value) (h : Hp) (R : Value → Hp → Prop) : Prop :=
  ∀ w, h.sub w → P.ok h w → CallV P.toProgram fv args w fun v w' => ∃ h', R v h' ∧ Fr h w h' w'

def optI (o : Option Opd) (vs : List Value) (dflt : Int) : Option (Int × List Value) :=
  match o, vs with
  | none, vs => some (dflt, vs)
  | some _, .int _ n :: r => some (n, r)
  | some _, _ => none

def beqI (ng a b : Bool) : Bool := if ng then !(a == b) else (a == b)
def mnmxI (mx : Bool) (a b : Int) : Int := if mx then (if b > a then b else a) else (if b < a then b else a)
def xorM (k : IntKind) : Int := if k.signed then -1 else k.max

/-- The first m elements of a slice, as cells. -/
def firstOf (h : Hp) (a : Option Addr) (m sz : Nat) : Option (List Value) :=
  if m = 0 then some [] else (match a with | some ad => (hld h ad (some (m * sz))).bind vcells | none => none)

/-- What an append of the cells ys (m elements) comes to. -/
def appRes (h : Hp) (a : Option Addr) (n c m sz bytes : Nat) (zero : List Opd) (ys : List Value) (K : Value → Hp → Prop) : Prop :=
  if n + m ≤ c then
    (match a with
     | none => m = 0 ∧ n = 0 ∧ K (.slice none 0 c) h
     | some ad => (match hst h (ad.add (n * sz)) ys with | some h' => K (.slice (some ad) (n + m) c) h' | none => False))
  else
    (match firstOf h a n sz with
     | some xs => Builtin.nextslicecap (n + m) c * bytes ≤ 281474976710656 ∧
         ∀ b c', h b = none → n + m ≤ c' → K (.slice (some ⟨b, 0, none⟩) (n + m) c') (h.up b ⟨xs ++ ys ++ mkCells (consts zero) ((c' - (n + m)) * zero.length), true⟩)
     | none => False)

def cpyRes (h : Hp) (a : Option Addr) (n : Nat) (ys : List Value) (K : Value → Hp → Prop) : Prop :=
  match a with
  | none => n = 0 ∧ K (.int .i64 (n : Nat)) h
  | some ad => (match hst h ad ys with | some h' => K (.int .i64 (n : Nat)) h' | none => False)

/-- What an operation does: 'd' the slot that it writes. -/
def It.sem (P : Env) (it : It) (d : Option Nat) (i : Inp) (h : Hp) (K : Ef → Hp → Prop) : Prop :=
  match it, i.vs with
  | .mov _, [v] => K (.val d v) h
  | .pick _ _ _, [v] => K (.val d v) h
  | .bin op _ _, [.int k a, .int k' b] => if isSh op = true then shK op k a b (fun v => K (.val d v) h) else k = k' ∧ binK op k a b (fun v => K (.val d v) h)
  | .beq ng _ _, [.bool a, .bool b] => K (.val d (.bool (beqI ng a b))) h
  | .un op _, [.int k n] => (match op with | .neg => K (.val d (.int k (k.wrap (0 - n)))) h | .xor => K (.val d (.int k (k.wrap (BitVec.ofInt k.bits (xorM k) ^^^ BitVec.ofInt k.bits n).toNat))) h | _ => False)
  | .un op _, [.bool b] => (match op with | .not => K (.val d (.bool (!b))) h | _ => False)
  | .cv k _, [.int _ n] => K (.val d (.int k (k.wrap n))) h
  | .ext _ j, [.tuple vs] => (match vs.toList[j]? with | some v => K (.val d v) h | none => False)
  | .fld off sz _, [.agg cs] => (match cld cs.toList off sz with | some v => K (.val d v) h | none => False)
  | .ix ln esz sz _ _, [.agg cs, .int _ j] => 0 ≤ j ∧ j < ln ∧ (match cld cs.toList (j.toNat * esz) sz with | some v => K (.val d v) h | none => False)
  | .bd zero ps, vs => (match fillC (consts zero) ((ps.zip vs).map fun q => (q.1.1, q.1.2.1, q.2)) with | some cs => K (.val d (.agg cs.toArray)) h | none => False)
  | .ia sz _ _, [.slice a n _, .int _ j] => 0 ≤ j ∧ j < n ∧ a.isSome = true ∧ K (.val d (.pointer (some (elemA a j sz)))) h
  | .fa off _, [.pointer (some a)] => K (.val d (.pointer (some (a.add off)))) h
  | .sl sz _ lo hi mx, .slice a n c :: r =>
    (match optI lo r 0 with
     | some (l, r1) =>
       (match optI hi r1 n with
        | some (hh, r2) =>
          (match optI mx r2 c with
           | some (m, _) => 0 ≤ l ∧ l ≤ hh ∧ hh ≤ m ∧ m ≤ c ∧ K (.val d (.slice (sliceA a l m sz) (hh - l).toNat (m - l).toNat)) h
           | none => False)
        | none => False)
     | none => False)
  | .mkf f _, vs => K (.val d (.func (.func f) #[] vs.toArray)) h
  | .len _, [.slice _ n _] => K (.val d (.int .i64 n)) h
  | .mnmx mx _ _, [.int k a, .int _ b] => K (.val d (.int k (mnmxI mx a b))) h
  | .nilck _, [.pointer (some a)] => K (.val d (.pointer (some a))) h
  | .nilck _, [.func (.func f) a b] => K (.val d (.func (.func f) a b)) h
  | .fab _ k off, [] => K (.ptr d k (i.off + off)) h
  | .iab _ k ln esz _, [.int _ j] => 0 ≤ j ∧ j < ln ∧ K (.ptr d k (i.off + j.toNat * esz)) h
  | .ldb _ _ sz, [] => (match cld i.bx i.off sz with | some v => K (.val d v) h | none => False)
  | .stb _ k n _, [v] => (match vcells v with | some vs => vs.length = n ∧ i.off + n ≤ i.bx.length ∧ K (.bx k (setAt i.bx i.off vs)) h | none => False)
  | .new zero, [] => (match d with | some d => K (.new d (consts zero)) h | none => False)
  | .box n _, [v] => (match d, vcells v with | some d, some vs => vs.length = n ∧ K (.new d vs) h | _, _ => False)
  | .ldh sz _, [.pointer (some a)] => (match hld h a sz with | some v => K (.val d v) h | none => False)
  | .sth n _ _, [.pointer (some a), v] => (match vcells v with | some vs => vs.length = n ∧ (match hst h a vs with | some h' => K (.val none undef) h' | none => False) | none => False)
  | .newp zero, [] => ∀ b, h b = none → K (.val d (.pointer (some ⟨b, 0, none⟩))) (h.up b ⟨consts zero, true⟩)
  | .boxp n _, [v] => (match vcells v with | some vs => vs.length = n ∧ ∀ b, h b = none → K (.val d (.pointer (some ⟨b, 0, none⟩))) (h.up b ⟨vs, true⟩) | none => False)
  | .mk zero bytes _ _, [.int .i64 n, .int .i64 c] => 0 ≤ n ∧ n ≤ c ∧ bytes * c ≤ 281474976710656 ∧ c < 9223372036854775808 ∧
      ∀ b, h b = none → K (.val d (.slice (some ⟨b, 0, none⟩) n.toNat c.toNat)) (h.up b ⟨mkCells (consts zero) (c.toNat * zero.length), true⟩)
  | .bs zero ln esz ps, vs =>
    (match fillC (mkCells (consts zero) (ln * esz)) ((ps.zip vs).map fun q => (q.1.1 * esz, esz, q.2)) with
     | some cs => ∀ b, h b = none → K (.val d (.slice (some ⟨b, 0, none⟩) ln ln)) (h.up b ⟨cs, true⟩)
     | none => False)
  | .call mono _ _, fv :: args => Tri P fv args h fun v h' => (mono = true → h.le h') ∧ K (.val d v) h'
  | .app sz bytes zero _ _, [.slice a n c, .slice a' m _] => (match firstOf h a' m sz with | some ys => appRes h a n c m sz bytes zero ys (fun v h' => K (.val d v) h') | none => False)
  | .appz sz bytes zero _ _, [.slice a n c, .int _ m] => 0 ≤ m ∧ m < 9223372036854775808 ∧ m * bytes ≤ 281474976710656 ∧ ((n + m.toNat : Nat) : Int) < 9223372036854775808 ∧
      appRes h a n c m.toNat sz bytes zero (mkCells (consts zero) (m.toNat * zero.length)) (fun v h' => K (.val d v) h')
  | .cpy sz _ _, [.slice a n _, .slice a' m _] => (match firstOf h a' (Nat.min m n) sz with | some ys => cpyRes h a (Nat.min m n) ys (fun v h' => K (.val d v) h') | none => False)
  | _, _ => False

def It.step (P : Env) (it : It) (d : Option Nat) (s : St) (K : St → Prop) : Prop :=
  match it.inp s with
  | none => False
  | some i => it.sem P d i s.h fun e h' => K (e.ap { s with h := h' })

/-- An operation with its guard and its slot. -/
structure Tr where
  g : Option (Nat × Bool)
  d : Option Nat
  it : It
  deriving DecidableEq

def Tr.step (P : Env) (x : Tr) (s : St) (K : St → Prop) : Prop :=
  match x.g with
  | none => x.it.step P x.d s K
  | some (sl, w) =>
    match s.t sl with
    | some (.bool b) => (b = w → x.it.step P x.d s K) ∧ (b ≠ w → K ((Ef.val x.d undef).ap s))
    | some (.tuple _) => K ((Ef.val x.d undef).ap s)
    | _ => False

def flat (P : Env) : List Tr → St → (St → Prop) → Prop
  | [], s, K => K s
  | x :: l, s, K => x.step P s fun s' => flat P l s' K

end Go.Proofs.Ytmfafadchpglgaa

/- The calculus, part 2: operations that do not hang on one another may change places. No program's text. -/
namespace Go.Proofs.Ytmfafadchpglgaa

/-! ## What an operation looks at -/

def Opd.slot : Opd → List Nat
  | .t n => [n]
  | _ => []

def It.slots (it : It) : List Nat := it.opds.flatMap Opd.slot ++ (match it.ptr with | some (e, _) => [e] | none => [])

def Tr.slots (x : Tr) : List Nat := x.it.slots ++ (match x.g with | some (sl, _) => [sl] | none => [])

/-- The boxes that it looks at or writes. -/
def Tr.boxes (x : Tr) : List Nat :=
  (match x.it.ptr with | some (_, k) => [k] | none => []) ++
  (match x.it with | .new _ | .box _ _ => x.d.toList | _ => [])

/-- The boxes that it writes. -/
def Tr.wboxes (x : Tr) : List Nat :=
  match x.it with
  | .stb _ k _ _ => [k]
  | .new _ | .box _ _ => x.d.toList
  | _ => []

inductive Cls where
  | loc | rd | grow | wr
  deriving DecidableEq

/-- How it stands to memory: not at all · it reads · what is seen stays seen · whatever. -/
def It.cls : It → Cls
  | .ldh _ _ => .rd
  | .newp _ | .boxp _ _ | .mk .. | .bs .. => .grow
  | .call true _ _ => .grow
  | .call false _ _ | .sth .. | .app .. | .appz .. | .cpy .. => .wr
  | _ => .loc

def Cls.free : Cls → Cls → Bool
  | .loc, _ => true
  | .rd, .loc | .rd, .rd | .rd, .grow => true
  | _, _ => false

def disj (a b : List Nat) : Bool := a.all fun x => !b.contains x

/-- x may be done behind y, too. -/
def Tr.free (x y : Tr) : Bool :=
  x.it.cls.free y.it.cls && disj x.d.toList y.slots && disj y.d.toList x.slots && disj x.d.toList y.d.toList && disj x.wboxes y.boxes && disj y.wboxes x.boxes &&
  disj x.d.toList y.boxes && disj y.d.toList x.boxes

theorem disj_mem {a b : List Nat} (h : disj a b = true) {x : Nat} (ha : x ∈ a) : x ∉ b := by
  have := List.all_eq_true.1 h x ha
  simpa using this

/-! ## The effects of an operation are its own -/

def Ef.own (it : It) (d : Option Nat) : Ef → Prop
  | .val d' _ => d' = d ∨ d' = none
  | .ptr d' k _ => d' = d ∧ ∃ e, it.ptr = some (e, k)
  | .bx k _ => ∃ e n x, it = .stb e k n x
  | .new d' _ => d = some d' ∧ ((∃ z, it = .new z) ∨ ∃ n x, it = .box n x)

theorem binK_mono {op : BinOp} {k : IntKind} {a b : Int} {K K' : Value → Prop} (h : ∀ v, K v → K' v) (hh : binK op k a b K) : binK op k a b K' := by
  cases op <;> simp only [binK] at hh ⊢ <;> first | exact h _ hh | exact ⟨hh.1, h _ hh.2⟩ | exact hh
theorem shK_mono {op : BinOp} {k : IntKind} {a b : Int} {K K' : Value → Prop} (h : ∀ v, K v → K' v) (hh : shK op k a b K) : shK op k a b K' := by
  cases op <;> simp only [shK] at hh ⊢ <;> first | exact ⟨hh.1, h _ hh.2⟩ | exact hh

theorem appRes_mono {h : Hp} {a : Option Addr} {n c m sz bytes : Nat} {zero : List Opd} {ys : List Value} {K K' : Value → Hp → Prop} (hk : ∀ v h', K v h' → K' v h') (hh : appRes h a n c m sz bytes zero ys K) : appRes h a n c m sz bytes zero ys K' := by
  unfold appRes at *
  split
  · rw [if_pos ‹_›] at hh
    cases a with
    | none => exact ⟨hh.1, hh.2.1, hk _ _ hh.2.2⟩
    | some ad =>
      simp only at hh ⊢
      revert hh
      cases hst h (ad.add (n * sz)) ys with
      | none => exact id
      | some h' => exact hk _ _
  · rw [if_neg ‹_›] at hh
    revert hh
    cases firstOf h a n sz with
    | none => exact id
    | some xs => exact fun hh => ⟨hh.1, fun b c' h1 h2 => hk _ _ (hh.2 b c' h1 h2)⟩
theorem cpyRes_mono {h : Hp} {a : Option Addr} {n : Nat} {ys : List Value} {K K' : Value → Hp → Prop} (hk : ∀ v h', K v h' → K' v h') (hh : cpyRes h a n ys K) : cpyRes h a n ys K' := by
  unfold cpyRes at *
  cases a with
  | none => exact ⟨hh.1, hk _ _ hh.2⟩
  | some ad =>
    simp only at hh ⊢
    revert hh
    cases hst h ad ys with
    | none => exact id
    | some h' => exact hk _ _

theorem CallV.mono {P : Program} {fv : Value} {args : List Value} {w : World} {R R' : Value → World → Prop} (h : ∀ v w', R v w' → R' v w') (hh : CallV P fv args w R) : CallV P fv args w R' := by
  unfold CallV at *
  generalize ((Deferred.ofValue fv args.toArray >>= fun d => invoke d.target d.args).run P w) = r at *
  cases r with
  | ok n w' =>
    cases n <;> simp only at hh ⊢ <;> first
      | exact h _ _ hh
      | exact CallsIn.mono hh (fun e w'' he => let ⟨v, a, b⟩ := he; ⟨v, a, h _ _ b⟩)
      | exact RoundIn.mono hh (fun e w'' he => let ⟨v, a, b⟩ := he; ⟨v, a, h _ _ b⟩)
  | halt x w' => exact hh

theorem Tri.mono {P : Env} {fv : Value} {args : List Value} {h : Hp} {R R' : Value → Hp → Prop} (hh : Tri P fv args h R) (hr : ∀ v h', R v h' → R' v h') : Tri P fv args h R' :=
  fun w hs hk => CallV.mono (fun _ _ ⟨h', a, b⟩ => ⟨h', hr _ _ a, b⟩) (hh w hs hk)

/-- What K asks may be weakened; what the effects are is known. -/
theorem It.sem_mono {P : Env} {it : It} {d : Option Nat} {i : Inp} {h : Hp} {K K' : Ef → Hp → Prop}
    (hk : ∀ e h', e.own it d → (it.cls = .loc → h' = h) → (it.cls = .rd → h' = h) → (it.cls = .grow → h.le h') → K e h' → K' e h') (hh : it.sem P d i h K) : it.sem P d i h K' := by
  have bk : ∀ {v : Value}, K (.val d v) h → K' (.val d v) h := fun {v} x => hk _ _ (Or.inl rfl) (fun _ => rfl) (fun _ => rfl) (fun _ => Hp.le_refl _) x
  revert hh
  unfold It.sem
  split
  all_goals repeat' (first
    | exact bk
    | (intro hh; exact hh.elim)
    | exact id
    | split
    | exact And.imp id bk
    | (exact And.imp id (binK_mono fun _ => bk))
    | exact shK_mono (fun _ => bk)
    | refine And.imp id ?_)
  all_goals first
    | exact hk _ _ ⟨rfl, _, rfl⟩ (fun _ => rfl) (fun _ => rfl) (fun _ => Hp.le_refl _)
    | exact hk _ _ ⟨_, _, _, rfl⟩ (fun _ => rfl) (fun _ => rfl) (fun _ => Hp.le_refl _)
    | exact hk _ _ ⟨rfl, Or.inl ⟨_, rfl⟩⟩ (fun _ => rfl) (fun _ => rfl) (fun _ => Hp.le_refl _)
    | exact hk _ _ ⟨rfl, Or.inr ⟨_, _, rfl⟩⟩ (fun _ => rfl) (fun _ => rfl) (fun _ => Hp.le_refl _)
    | exact hk _ _ (Or.inr rfl) (by simp [It.cls]) (by simp [It.cls]) (by simp [It.cls])
    | exact hk _ _ (Or.inl rfl) (by simp [It.cls]) (by simp [It.cls]) (by simp [It.cls])
    | exact fun hh b hb => hk _ _ (Or.inl rfl) (by simp [It.cls]) (by simp [It.cls]) (fun _ => Hp.le_up _ hb) (hh b hb)
    | exact appRes_mono fun v h' => hk _ _ (Or.inl rfl) (by simp [It.cls]) (by simp [It.cls]) (by simp [It.cls])
    | exact cpyRes_mono fun v h' => hk _ _ (Or.inl rfl) (by simp [It.cls]) (by simp [It.cls]) (by simp [It.cls])
    | exact fun hh => hh.mono fun v h' ⟨a, b⟩ => ⟨a, hk _ _ (Or.inl rfl) (by cases ‹Bool› <;> simp [It.cls]) (by cases ‹Bool› <;> simp [It.cls]) (by cases ‹Bool› <;> simp_all [It.cls]) b⟩

theorem binK_det {op : BinOp} {k : IntKind} {a b : Int} {K : Value → Prop} (hh : binK op k a b K) : ∃ v, K v ∧ ∀ K' : Value → Prop, K' v → binK op k a b K' := by
  cases op <;> simp only [binK] at hh ⊢ <;> first
    | exact ⟨_, hh, fun _ h => h⟩
    | exact ⟨_, hh.2, fun _ h => ⟨hh.1, h⟩⟩
    | exact hh.elim
theorem shK_det {op : BinOp} {k : IntKind} {a b : Int} {K : Value → Prop} (hh : shK op k a b K) : ∃ v, K v ∧ ∀ K' : Value → Prop, K' v → shK op k a b K' := by
  cases op <;> simp only [shK] at hh ⊢ <;> first
    | exact ⟨_, hh.2, fun _ h => ⟨hh.1, h⟩⟩
    | exact hh.elim

theorem hld_le {h h' : Hp} (hl : h.le h') {a : Addr} {sz : Option Nat} {v : Value} (e : hld h a sz = some v) : hld h' a sz = some v := by
  unfold hld at *
  split at e
  · rw [if_pos ‹_›]
    cases hb : h a.block with
    | none => rw [hb] at e; cases e
    | some b => rw [hb] at e; rw [hl _ _ hb]; exact e
  · cases e

theorem It.sem_det {P : Env} {it : It} {d : Option Nat} {i : Inp} {h : Hp} {K : Ef → Hp → Prop} (hc : it.cls = .loc ∨ it.cls = .rd) (hh : it.sem P d i h K) :
    ∃ e, K e h ∧ e.own it d ∧ ∀ (h' : Hp) (K' : Ef → Hp → Prop), (it.cls = .rd → h.le h') → K' e h' → it.sem P d i h' K' := by
  obtain ⟨vs, off, bx⟩ := i
  unfold It.sem at hh
  dsimp only at hh
  split at hh
  case h_3 =>
    split at hh
    · obtain ⟨v, h1, h2⟩ := shK_det hh
      exact ⟨_, h1, Or.inl rfl, fun h' K' _ hk => by simp only [It.sem]; rw [if_pos ‹_›]; exact h2 _ hk⟩
    · obtain ⟨v, h1, h2⟩ := binK_det hh.2
      exact ⟨_, h1, Or.inl rfl, fun h' K' _ hk => by simp only [It.sem]; rw [if_neg ‹_›]; exact ⟨hh.1, h2 _ hk⟩⟩
  case h_26 =>
    split at hh
    · exact ⟨_, hh, Or.inl rfl, fun h' K' hl hk => by simp only [It.sem]; rw [hld_le (hl rfl) ‹_›]; exact hk⟩
    · exact hh.elim
  all_goals try (simp [It.cls] at hc; done)
  all_goals try (exfalso; cases ‹Bool› <;> (simp [It.cls] at hc; done))
  all_goals repeat' (first
    | exact hh.elim
    | exact hh.2.2.elim
    | split at hh)
  all_goals first
    | exact ⟨_, hh, Or.inl rfl, fun h' K' _ hk => by simp_all only [It.sem, and_self, if_true, if_false]⟩
    | exact ⟨_, hh.2.2.2, Or.inl rfl, fun h' K' _ hk => ⟨hh.1, hh.2.1, hh.2.2.1, hk⟩⟩
    | exact ⟨_, hh, ⟨rfl, _, rfl⟩, fun h' K' _ hk => hk⟩
    | exact ⟨_, hh.2.2, ⟨rfl, _, rfl⟩, fun h' K' _ hk => ⟨hh.1, hh.2.1, hk⟩⟩
    | exact ⟨_, hh.2.2, ⟨_, _, _, rfl⟩, fun h' K' _ hk => by simp_all only [It.sem, and_self, if_true, if_false]⟩
    | exact ⟨_, hh, ⟨rfl, Or.inl ⟨_, rfl⟩⟩, fun h' K' _ hk => hk⟩
    | exact ⟨_, hh.2, ⟨rfl, Or.inr ⟨_, _, rfl⟩⟩, fun h' K' _ hk => by simp_all only [It.sem, and_self, if_true, if_false]⟩
    | exact ⟨_, hh.2.2, Or.inl rfl, fun h' K' _ hk => by simp_all only [It.sem, and_self, if_true, if_false]⟩
    | exact ⟨_, hh.2.2.2.2, Or.inl rfl, fun h' K' _ hk => by simp_all only [It.sem, and_self, if_true, if_false]⟩

end Go.Proofs.Ytmfafadchpglgaa

/- The calculus, part 3: the order of a region's operations. No program's text. -/
namespace Go.Proofs.Ytmfafadchpglgaa

theorem upd_comm {α : Type} {f : Nat → Option α} {a b : Nat} (h : a ≠ b) (u v : Option α) : upd (upd f a u) b v = upd (upd f b v) a u := by
  funext i; unfold upd; by_cases h1 : i = a <;> by_cases h2 : i = b <;> simp_all

/-- The slots and boxes that an effect writes. -/
def Ef.ds : Ef → List Nat
  | .val d _ | .ptr d _ _ => d.toList
  | .bx _ _ => []
  | .new d _ => [d]
def Ef.ks : Ef → List Nat
  | .bx k _ => [k]
  | .new k _ => [k]
  | .ptr _ _ _ => []
  | .val _ _ => []
def Ef.rs : Ef → List Nat
  | .ptr _ k _ => [k]
  | _ => []

theorem Ef.ap_h (e : Ef) (s : St) (h : Hp) : e.ap { s with h := h } = { e.ap s with h := h } := by
  cases e with
  | val d v => cases d <;> rfl
  | ptr d k o => cases d <;> rfl
  | bx k c => rfl
  | new d c => rfl
theorem Ef.ap_hh (e : Ef) (s : St) : (e.ap s).h = s.h := by
  cases e with
  | val d v => cases d <;> rfl
  | ptr d k o => cases d <;> rfl
  | bx k c => rfl
  | new d c => rfl

theorem Ef.ap_comm {e f : Ef} (hd : ∀ x ∈ e.ds, x ∉ f.ds) (hk : ∀ x ∈ e.ks, x ∉ f.ks) (hr : ∀ x ∈ e.rs, x ∉ f.ks) (hr' : ∀ x ∈ f.rs, x ∉ e.ks) (s : St) : f.ap (e.ap s) = e.ap (f.ap s) := by
  cases e with
  | val d v =>
    cases d with
    | none => rfl
    | some d =>
      cases f with
      | val d' v' =>
        cases d' with
        | none => rfl
        | some d' =>
          have : d ≠ d' := by simpa [Ef.ds] using hd d
          simp [Ef.ap, upd_comm this]
      | ptr d' k' o' =>
        cases d' with
        | none => rfl
        | some d' =>
          have : d ≠ d' := by simpa [Ef.ds] using hd d
          simp [Ef.ap, upd_comm this]
      | bx k' c' => rfl
      | new d' c' =>
        have : d ≠ d' := by simpa [Ef.ds] using hd d
        simp only [Ef.ap, upd_comm this, St.mk.injEq, true_and, and_true]
        funext i; unfold upd
        by_cases h1 : i = d' <;> by_cases h2 : i = d <;> simp_all
  | ptr d k o =>
    cases d with
    | none => rfl
    | some d =>
      cases f with
      | val d' v' =>
        cases d' with
        | none => rfl
        | some d' =>
          have : d ≠ d' := by simpa [Ef.ds] using hd d
          simp [Ef.ap, upd_comm this]
      | ptr d' k' o' =>
        cases d' with
        | none => rfl
        | some d' =>
          have : d ≠ d' := by simpa [Ef.ds] using hd d
          simp [Ef.ap, upd_comm this]
      | bx k' c' => rfl
      | new d' c' =>
        have h1 : d ≠ d' := by simpa [Ef.ds] using hd d
        have h2 : k ≠ d' := by simpa [Ef.ks, Ef.rs] using hr k
        simp only [Ef.ap, upd_comm h1, St.mk.injEq, true_and, and_true]
        funext i; unfold upd
        by_cases h3 : i = d' <;> by_cases h4 : i = d <;> simp_all
  | bx k c =>
    cases f with
    | val d' v' => cases d' <;> rfl
    | ptr d' k' o' => cases d' <;> rfl
    | bx k' c' =>
      have : k ≠ k' := by simpa [Ef.ks] using hk k
      simp [Ef.ap, upd_comm this]
    | new d' c' =>
      have : k ≠ d' := by simpa [Ef.ks] using hk k
      simp [Ef.ap, upd_comm this]
  | new d c =>
    cases f with
    | val d' v' =>
      cases d' with
      | none => rfl
      | some d' =>
        have : d ≠ d' := by simpa [Ef.ds] using hd d
        simp only [Ef.ap, upd_comm this, St.mk.injEq, true_and, and_true]
        funext i; unfold upd
        by_cases h1 : i = d' <;> by_cases h2 : i = d <;> simp_all
    | ptr d' k' o' =>
      cases d' with
      | none => rfl
      | some d' =>
        have h1 : d ≠ d' := by simpa [Ef.ds] using hd d
        have h2 : d ≠ k' := Ne.symm (by simpa [Ef.ks, Ef.rs] using hr' k')
        simp only [Ef.ap, upd_comm h1, St.mk.injEq, true_and, and_true]
        funext i; unfold upd
        by_cases h3 : i = d' <;> by_cases h4 : i = d <;> simp_all
        intro h5; exact absurd h5.symm h2
    | bx k' c' =>
      have : d ≠ k' := by simpa [Ef.ks] using hk d
      simp [Ef.ap, upd_comm this]
    | new d' c' =>
      have h1 : d ≠ d' := by simpa [Ef.ds] using hd d
      simp only [Ef.ap, upd_comm h1, St.mk.injEq, true_and, and_true]
      funext i
      by_cases h3 : i = d' <;> by_cases h4 : i = d <;> simp_all
      cases s.p i with
      | none => rfl
      | some q => obtain ⟨k, o⟩ := q; by_cases h5 : k = d <;> by_cases h6 : k = d' <;> simp_all

/-! ## What is looked at does not turn -/

theorem ev_ap {e : Ef} {s : St} {o : Opd} (h : ∀ x ∈ e.ds, x ∉ o.slot) : (e.ap s).ev o = s.ev o := by
  cases o with
  | t n =>
    have hn : ∀ x ∈ e.ds, x ≠ n := fun x hx he => h x hx (by simp [Opd.slot, he])
    cases e with
    | val d v =>
      cases d with
      | none => rfl
      | some d => have := hn d (by simp [Ef.ds]); simp [Ef.ap, St.ev, upd, Ne.symm this]
    | ptr d k o =>
      cases d with
      | none => rfl
      | some d => have := hn d (by simp [Ef.ds]); simp [Ef.ap, St.ev, upd, Ne.symm this]
    | bx k c => rfl
    | new d c => have := hn d (by simp [Ef.ds]); simp [Ef.ap, St.ev, upd, Ne.symm this]
  | _ => rfl

theorem evs_ap {e : Ef} {s : St} {l : List Opd} (h : ∀ x ∈ e.ds, x ∉ l.flatMap Opd.slot) : (e.ap s).evs l = s.evs l := by
  induction l with
  | nil => rfl
  | cons o r ih =>
    have h1 : ∀ x ∈ e.ds, x ∉ o.slot := fun x hx hm => h x hx (by simp [hm])
    have h2 : ∀ x ∈ e.ds, x ∉ r.flatMap Opd.slot := fun x hx hm => h x hx (List.mem_flatMap.2 (let ⟨a, b, c⟩ := List.mem_flatMap.1 hm; ⟨a, by simp [b], c⟩))
    simp only [St.evs, ev_ap h1, ih h2]

theorem vals_ap {it : It} {e : Ef} {s : St} (h : ∀ x ∈ e.ds, x ∉ it.slots) : it.vals (e.ap s) = it.vals s := by
  have hs : ∀ x ∈ e.ds, x ∉ it.opds.flatMap Opd.slot := fun x hx hm => h x hx (by simp only [It.slots, List.mem_append]; exact Or.inl hm)
  cases it with
  | pick c a b =>
    have hc : ∀ x ∈ e.ds, x ∉ c.slot := fun x hx hm => hs x hx (by simp [It.opds, hm])
    have ha : ∀ x ∈ e.ds, x ∉ [a].flatMap Opd.slot := fun x hx hm => hs x hx (by simp at hm; simp [It.opds, hm])
    have hb : ∀ x ∈ e.ds, x ∉ [b].flatMap Opd.slot := fun x hx hm => hs x hx (by simp at hm; simp [It.opds, hm])
    simp only [It.vals, ev_ap hc, evs_ap ha, evs_ap hb]
  | _ => exact evs_ap hs

theorem p_ap_other {e : Ef} {s : St} {i : Nat} (h : i ∉ e.ds) (hk : ∀ k o, s.p i = some (k, o) → k ∉ e.ds) : (e.ap s).p i = s.p i := by
  cases e with
  | val d v =>
    cases d with
    | none => rfl
    | some d => simp [Ef.ds] at h; simp [Ef.ap, upd, h]
  | ptr d k o =>
    cases d with
    | none => rfl
    | some d => simp [Ef.ds] at h; simp [Ef.ap, upd, h]
  | bx k c => rfl
  | new d c =>
    simp [Ef.ds] at h
    simp only [Ef.ap, if_neg h]
    cases hp : s.p i with
    | none => rfl
    | some q =>
      obtain ⟨k, o⟩ := q
      have := hk k o hp
      simp [Ef.ds] at this
      simp [this]

/-- An entry that is there behind an effect, at a slot that it does not write, was there before. -/
theorem p_ap_back {e : Ef} {s : St} {i : Nat} {q : Nat × Nat} (h : i ∉ e.ds) (hq : (e.ap s).p i = some q) : s.p i = some q := by
  cases e with
  | val d v =>
    cases d with
    | none => exact hq
    | some d => simp [Ef.ds] at h; simpa [Ef.ap, upd, h] using hq
  | ptr d k o =>
    cases d with
    | none => exact hq
    | some d => simp [Ef.ds] at h; simpa [Ef.ap, upd, h] using hq
  | bx k c => exact hq
  | new d c =>
    simp [Ef.ds] at h
    simp only [Ef.ap, if_neg h] at hq
    cases hp : s.p i with
    | none => rw [hp] at hq; cases hq
    | some r =>
      obtain ⟨k, o⟩ := r
      rw [hp] at hq
      simp only at hq
      split at hq
      · cases hq
      · exact hq

theorem x_ap {e : Ef} {s : St} {k : Nat} (h : k ∉ e.ks) : (e.ap s).x k = s.x k := by
  cases e with
  | val d v => cases d <;> rfl
  | ptr d k o => cases d <;> rfl
  | bx k' c => simp [Ef.ks] at h; simp [Ef.ap, upd, h]
  | new d c => simp [Ef.ks] at h; simp [Ef.ap, upd, h]

theorem It.inp_h (it : It) (s : St) (h : Hp) : it.inp { s with h := h } = it.inp s := by
  have e1 : ∀ o, ({ s with h := h } : St).ev o = s.ev o := fun o => by cases o <;> rfl
  have e2 : ∀ l, ({ s with h := h } : St).evs l = s.evs l := fun l => by
    induction l with
    | nil => rfl
    | cons o r ih => simp only [St.evs, e1, ih]
  have e3 : it.vals { s with h := h } = it.vals s := by cases it <;> simp only [It.vals, e1, e2]
  simp only [It.inp, e3]

/-- What y takes behind an effect that is apart from it, it would have taken before. -/
theorem inp_back {it : It} {e : Ef} {s : St} {i : Inp} (hs : ∀ x ∈ e.ds, x ∉ it.slots) (hk : ∀ x ∈ e.ks, ∀ e' k, it.ptr = some (e', k) → x ≠ k) (hi : it.inp (e.ap s) = some i) : it.inp s = some i := by
  simp only [It.inp, vals_ap hs] at hi ⊢
  cases hv : it.vals s with
  | none => rw [hv] at hi; cases hi
  | some vs =>
    rw [hv] at hi
    simp only at hi ⊢
    cases hp : it.ptr with
    | none => rw [hp] at hi; exact hi
    | some q =>
      obtain ⟨sl, k⟩ := q
      rw [hp] at hi
      simp only at hi ⊢
      have hsl : sl ∉ e.ds := fun hm => hs sl hm (by simp [It.slots, hp])
      have hkk : k ∉ e.ks := fun hm => hk k hm sl k hp rfl
      rw [x_ap hkk] at hi
      cases hq : (e.ap s).p sl with
      | none => rw [hq] at hi; cases hi
      | some r => rw [p_ap_back hsl hq]; rw [hq] at hi; exact hi

/-- What x took before an effect that is apart from it, it takes behind. -/
theorem inp_fwd {it : It} {e : Ef} {s : St} {i : Inp} (hs : ∀ x ∈ e.ds, x ∉ it.slots) (hk : ∀ x ∈ e.ks, ∀ e' k, it.ptr = some (e', k) → x ≠ k) (hd : ∀ x ∈ e.ds, ∀ e' k, it.ptr = some (e', k) → x ≠ k) (hi : it.inp s = some i) :
    it.inp (e.ap s) = some i := by
  simp only [It.inp, vals_ap hs] at hi ⊢
  cases hv : it.vals s with
  | none => rw [hv] at hi; cases hi
  | some vs =>
    rw [hv] at hi
    simp only at hi ⊢
    cases hp : it.ptr with
    | none => rw [hp] at hi; exact hi
    | some q =>
      obtain ⟨sl, k⟩ := q
      rw [hp] at hi
      simp only at hi ⊢
      have hsl : sl ∉ e.ds := fun hm => hs sl hm (by simp [It.slots, hp])
      have hkk : k ∉ e.ks := fun hm => hk k hm sl k hp rfl
      rw [x_ap hkk]
      cases hq : s.p sl with
      | none => rw [hq] at hi; cases hi
      | some r =>
        obtain ⟨k', o⟩ := r
        rw [hq] at hi
        cases hx : s.x k with
        | none => rw [hx] at hi; cases hi
        | some cs =>
          rw [hx] at hi
          simp only at hi
          split at hi
          · rename_i hkk'
            have : (e.ap s).p sl = s.p sl := p_ap_other hsl (fun k2 o2 h2 hm => by rw [hq] at h2; cases h2; exact hd _ hm sl k hp hkk')
            rw [this, hq]
            simp [hkk', hi]
          · cases hi

/-! ## Two operations change places -/

theorem Ef.own_ds {it : It} {d : Option Nat} {e : Ef} (h : e.own it d) : ∀ x ∈ e.ds, x ∈ d.toList := by
  intro x hx
  cases e with
  | val d' v => rcases h with h | h <;> (subst h; simp_all [Ef.ds])
  | ptr d' k o => obtain ⟨h, _⟩ := h; subst h; simpa [Ef.ds] using hx
  | bx k c => simp [Ef.ds] at hx
  | new d' c => obtain ⟨h, _⟩ := h; subst h; simpa [Ef.ds] using hx

theorem Ef.own_ks {x : Tr} {e : Ef} (h : e.own x.it x.d) : ∀ k ∈ e.ks, k ∈ x.wboxes := by
  intro k hk
  cases e with
  | val d' v => simp [Ef.ks] at hk
  | ptr d' k' o => simp [Ef.ks] at hk
  | bx k' c => obtain ⟨s, n, y, h⟩ := h; simp [Ef.ks] at hk; subst hk; simp [Tr.wboxes, h]
  | new d' c =>
    obtain ⟨h, h'⟩ := h
    simp [Ef.ks] at hk
    subst hk
    rcases h' with ⟨z, h'⟩ | ⟨n, y, h'⟩ <;> simp [Tr.wboxes, h', h]
theorem Ef.own_rs {x : Tr} {e : Ef} (h : e.own x.it x.d) : ∀ k ∈ e.rs, k ∈ x.boxes := by
  intro k hk
  cases e with
  | ptr d' k' o => obtain ⟨_, s, h⟩ := h; simp [Ef.rs] at hk; subst hk; simp [Tr.boxes, h]
  | _ => simp [Ef.rs] at hk
theorem Tr.wb {x : Tr} {k : Nat} (h : k ∈ x.wboxes) : k ∈ x.boxes := by
  unfold Tr.wboxes at h
  unfold Tr.boxes
  split at h
  · rename_i hit; simp at h; subst h; simp [hit, It.ptr]
  · rename_i hit; simp only [hit, List.mem_append]; exact Or.inr h
  · rename_i hit; simp only [hit, List.mem_append]; exact Or.inr h
  · cases h

theorem Tr.step_none {P : Env} {x : Tr} (hg : x.g = none) {s : St} {K : St → Prop} : x.step P s K ↔ x.it.step P x.d s K := by unfold Tr.step; rw [hg]
theorem Tr.step_some {P : Env} {x : Tr} {sl : Nat} {w : Bool} (hg : x.g = some (sl, w)) {s : St} {K : St → Prop} : x.step P s K ↔
    match s.t sl with
    | some (.bool b) => (b = w → x.it.step P x.d s K) ∧ (b ≠ w → K ((Ef.val x.d undef).ap s))
    | some (.tuple _) => K ((Ef.val x.d undef).ap s)
    | _ => False := by unfold Tr.step; rw [hg] <;> exact Iff.rfl

theorem Tr.step_mono {P : Env} {x : Tr} {s : St} {K K' : St → Prop} (h : ∀ s, K s → K' s) (hh : x.step P s K) : x.step P s K' := by
  have hs : x.it.step P x.d s K → x.it.step P x.d s K' := fun hh => by
    unfold It.step at *
    split
    · rename_i hn; rw [hn] at hh; exact hh
    · rename_i i hn; rw [hn] at hh; exact It.sem_mono (fun e h' _ _ _ _ hk => h _ hk) hh
  unfold Tr.step at *
  split
  · rename_i hg; rw [hg] at hh; exact hs hh
  · rename_i sl w hg
    rw [hg] at hh
    simp only at hh ⊢
    generalize s.t sl = o at hh ⊢
    split at hh
    · exact ⟨fun e => hs (hh.1 e), fun e => h _ (hh.2 e)⟩
    · exact h _ hh
    · exact hh.elim

theorem flat_mono {P : Env} {l : List Tr} : ∀ {s : St} {K K' : St → Prop}, (∀ s, K s → K' s) → flat P l s K → flat P l s K' := by
  induction l with
  | nil => exact fun h hh => h _ hh
  | cons x l ih => exact fun h hh => Tr.step_mono (fun s hs => ih h hs) hh

/-- The facts that 'Tr.free' stands for. -/
structure Apart (x y : Tr) : Prop where
  xs : ∀ a ∈ x.d.toList, a ∉ y.slots
  ys : ∀ a ∈ y.d.toList, a ∉ x.slots
  dd : ∀ a ∈ x.d.toList, a ∉ y.d.toList
  bb : ∀ a ∈ x.wboxes, a ∉ y.boxes
  bb' : ∀ a ∈ y.wboxes, a ∉ x.boxes
  xb : ∀ a ∈ x.d.toList, a ∉ y.boxes
  yb : ∀ a ∈ y.d.toList, a ∉ x.boxes

theorem Tr.free_spec {x y : Tr} (h : x.free y = true) : x.it.cls.free y.it.cls = true ∧ Apart x y := by
  simp only [Tr.free, Bool.and_eq_true] at h
  obtain ⟨⟨⟨⟨⟨⟨⟨h1, h2⟩, h3⟩, h4⟩, h5⟩, h5'⟩, h6⟩, h7⟩ := h
  exact ⟨h1, fun a ha => disj_mem h2 ha, fun a ha => disj_mem h3 ha, fun a ha => disj_mem h4 ha, fun a ha => disj_mem h5 ha, fun a ha => disj_mem h5' ha, fun a ha => disj_mem h6 ha, fun a ha => disj_mem h7 ha⟩

theorem ptr_box {x : Tr} {e k : Nat} (h : x.it.ptr = some (e, k)) : k ∈ x.boxes := by simp [Tr.boxes, h]

/-- The step of an operation, one effect at a time: the effect, what is seen behind it, and the rest. -/
theorem step_swap {P : Env} {x y : Tr} (hf : x.free y = true) {s : St} {K : St → Prop} (hh : x.step P s fun s1 => y.step P s1 K) : y.step P s fun s2 => x.step P s2 K := by
  obtain ⟨hc, ap⟩ := Tr.free_spec hf
  have hcx : x.it.cls = .loc ∨ x.it.cls = .rd := by
    revert hc; cases x.it.cls <;> cases y.it.cls <;> simp [Cls.free]
  -- x's one outcome
  have key : ∃ e : Ef, (∀ a ∈ e.ds, a ∈ x.d.toList) ∧ (∀ k ∈ e.ks, k ∈ x.wboxes) ∧ (∀ k ∈ e.rs, k ∈ x.boxes) ∧ y.step P (e.ap s) K ∧
      ∀ (f : Ef) (h' : Hp) (K' : St → Prop), (∀ a ∈ f.ds, a ∈ y.d.toList) → (∀ k ∈ f.ks, k ∈ y.wboxes) → (x.it.cls = .rd → s.h.le h') → K' (e.ap (f.ap { s with h := h' })) → x.step P (f.ap { s with h := h' }) K' := by
    have hit : ∀ K : St → Prop, x.it.step P x.d s K → ∃ e : Ef, (∀ a ∈ e.ds, a ∈ x.d.toList) ∧ (∀ k ∈ e.ks, k ∈ x.wboxes) ∧ (∀ k ∈ e.rs, k ∈ x.boxes) ∧ K (e.ap s) ∧
        ∀ (f : Ef) (h' : Hp) (K' : St → Prop), (∀ a ∈ f.ds, a ∈ y.d.toList) → (∀ k ∈ f.ks, k ∈ y.wboxes) → (x.it.cls = .rd → s.h.le h') → K' (e.ap (f.ap { s with h := h' })) → x.it.step P x.d (f.ap { s with h := h' }) K' := by
      intro K hK
      unfold It.step at hK
      split at hK
      · exact hK.elim
      · rename_i i hi
        obtain ⟨e, h1, h2, h3⟩ := It.sem_det hcx hK
        refine ⟨e, Ef.own_ds h2, Ef.own_ks h2, Ef.own_rs h2, h1, fun f h' K' hfd hfk hl hk' => ?_⟩
        have hi' : x.it.inp (f.ap { s with h := h' }) = some i := by
          refine inp_fwd (fun a ha hm => ap.ys a (hfd a ha) ?_) (fun k hk e' k' hp he => ap.bb' k (hfk k hk) (he ▸ ptr_box hp)) (fun a ha e' k' hp he => ap.yb a (hfd a ha) (he ▸ ptr_box hp)) (by rw [It.inp_h]; exact hi)
          simp only [Tr.slots, List.mem_append]; exact Or.inl hm
        unfold It.step
        rw [hi']
        refine h3 _ _ (fun hr => by rw [Ef.ap_hh]; exact hl hr) ?_
        have : ({ f.ap { s with h := h' } with h := (f.ap { s with h := h' }).h } : St) = f.ap { s with h := h' } := rfl
        rw [this]
        exact hk'
    have hsl : ∀ sl w, x.g = some (sl, w) → ∀ (f : Ef) (h' : Hp), (∀ a ∈ f.ds, a ∈ y.d.toList) → (f.ap { s with h := h' }).t sl = s.t sl := by
      intro sl w hg f h' hfd
      have : ∀ a ∈ f.ds, a ∉ (Opd.t sl).slot := fun a ha hm => ap.ys a (hfd a ha) (by simp [Opd.slot] at hm; simp [Tr.slots, hg, hm])
      have := ev_ap (s := { s with h := h' }) this
      exact this
    unfold Tr.step at hh
    split at hh
    · rename_i hg
      obtain ⟨e, h1, h2, h2', h3, h4⟩ := hit _ hh
      exact ⟨e, h1, h2, h2', h3, fun f h' K' a b c d => by unfold Tr.step; rw [hg]; exact h4 f h' K' a b c d⟩
    · rename_i sl w hg
      split at hh
      · rename_i b hb
        by_cases hbw : b = w
        · obtain ⟨e, h1, h2, h2', h3, h4⟩ := hit _ (hh.1 hbw)
          exact ⟨e, h1, h2, h2', h3, fun f h' K' a b' c d => by
            unfold Tr.step; rw [hg]; simp only; rw [hsl sl w hg f h' a, hb]; exact ⟨fun _ => h4 f h' K' a b' c d, fun hn => absurd hbw hn⟩⟩
        · refine ⟨.val x.d undef, by simp [Ef.ds], by simp [Ef.ks], by simp [Ef.rs], hh.2 hbw, fun f h' K' a b' c d => ?_⟩
          unfold Tr.step; rw [hg]; simp only; rw [hsl sl w hg f h' a, hb]; exact ⟨fun he => absurd he hbw, fun _ => d⟩
      · rename_i hb
        refine ⟨.val x.d undef, by simp [Ef.ds], by simp [Ef.ks], by simp [Ef.rs], hh, fun f h' K' a b' c d => ?_⟩
        unfold Tr.step; rw [hg]; simp only; rw [hsl sl w hg f h' a, hb]; exact d
      · exact hh.elim
  obtain ⟨e, hed, hek, her, hy, hx⟩ := key
  have hgr : x.it.cls = .rd → y.it.cls = .loc ∨ y.it.cls = .rd ∨ y.it.cls = .grow := by
    intro hr; rw [hr] at hc; revert hc; cases y.it.cls <;> simp [Cls.free]
  -- y before x
  have hyit : ∀ {K : St → Prop}, y.it.step P y.d (e.ap s) K → y.it.step P y.d s fun s2 => ∃ (f : Ef) (h' : Hp), s2 = f.ap { s with h := h' } ∧ (∀ a ∈ f.ds, a ∈ y.d.toList) ∧ (∀ k ∈ f.ks, k ∈ y.wboxes) ∧ (x.it.cls = .rd → s.h.le h') ∧ K (e.ap (f.ap { s with h := h' })) := by
    intro K hK
    unfold It.step at hK
    split at hK
    · exact hK.elim
    · rename_i i hi
      have hi' : y.it.inp s = some i := inp_back (fun a ha hm => ap.xs a (hed a ha) (by simp only [Tr.slots, List.mem_append]; exact Or.inl hm)) (fun k hk e' k' hp he => ap.bb k (hek k hk) (he ▸ ptr_box hp)) hi
      unfold It.step
      rw [hi']
      rw [Ef.ap_hh] at hK
      refine It.sem_mono (fun f h' ho hl1 hl2 hl3 hk => ?_) hK
      refine ⟨f, h', rfl, Ef.own_ds ho, Ef.own_ks ho, fun hr => ?_, ?_⟩
      · rcases hgr hr with h | h | h
        · rw [hl1 h]; exact Hp.le_refl _
        · rw [hl2 h]; exact Hp.le_refl _
        · exact hl3 h
      · have h1 : ({ e.ap s with h := h' } : St) = e.ap { s with h := h' } := (Ef.ap_h e s h').symm
        rw [h1, Ef.ap_comm (fun a ha hb => ap.dd a (hed a ha) (Ef.own_ds ho a hb)) (fun k hk hb => ap.bb k (hek k hk) (Tr.wb (Ef.own_ks ho k hb))) (fun k hk hb => ap.bb' k (Ef.own_ks ho k hb) (her k hk))
          (fun k hk hb => ap.bb k (hek k hb) (Ef.own_rs ho k hk))] at hk
        exact hk
  have fin : ∀ s2, (∃ (f : Ef) (h' : Hp), s2 = f.ap { s with h := h' } ∧ (∀ a ∈ f.ds, a ∈ y.d.toList) ∧ (∀ k ∈ f.ks, k ∈ y.wboxes) ∧ (x.it.cls = .rd → s.h.le h') ∧ K (e.ap (f.ap { s with h := h' }))) → x.step P s2 K := by
    rintro s2 ⟨f, h', rfl, h1, h2, h3, h4⟩
    exact hx f h' K h1 h2 h3 h4
  have hundef : K ((Ef.val y.d undef).ap (e.ap s)) → x.step P ((Ef.val y.d undef).ap s) K := by
    intro hk
    refine fin _ ⟨.val y.d undef, s.h, rfl, by simp [Ef.ds], by simp [Ef.ks], fun _ => Hp.le_refl _, ?_⟩
    rw [← Ef.ap_comm (e := e) (f := .val y.d undef) (fun a ha hb => ap.dd a (hed a ha) (by simpa [Ef.ds] using hb)) (by simp [Ef.ks]) (by simp [Ef.ks]) (by simp [Ef.rs]) s]
    exact hk
  have hsl : ∀ sl w, y.g = some (sl, w) → (e.ap s).t sl = s.t sl := by
    intro sl w hg
    have : ∀ a ∈ e.ds, a ∉ (Opd.t sl).slot := fun a ha hm => ap.xs a (hed a ha) (by simp [Opd.slot] at hm; simp [Tr.slots, hg, hm])
    exact ev_ap (s := s) this
  have hst : ∀ {K K' : St → Prop} {s : St}, (∀ s, K s → K' s) → y.it.step P y.d s K → y.it.step P y.d s K' := fun h hh => by
    have := Tr.step_mono (x := { y with g := none }) h (by unfold Tr.step; exact hh)
    unfold Tr.step at this; exact this
  cases hg : y.g with
  | none =>
    rw [Tr.step_none hg] at hy ⊢
    exact hst fin (hyit hy)
  | some q =>
    obtain ⟨sl, w⟩ := q
    rw [Tr.step_some hg] at hy ⊢
    rw [hsl sl w hg] at hy
    generalize s.t sl = o at hy ⊢
    split at hy
    · exact ⟨fun hw => hst fin (hyit (hy.1 hw)), fun hw => hundef (hy.2 hw)⟩
    · exact hundef hy
    · exact hy.elim

/-- An operation that is apart from all that stand ahead of it may be done first. -/
theorem flat_first {P : Env} {y : Tr} {suf : List Tr} : ∀ {pre : List Tr}, (∀ x ∈ pre, x.free y = true) → ∀ {s : St} {K : St → Prop}, flat P (pre ++ y :: suf) s K → flat P (y :: (pre ++ suf)) s K := by
  intro pre
  induction pre with
  | nil => exact fun _ _ _ h => h
  | cons x pre ih =>
    intro hf s K hh
    have h1 : x.step P s fun s1 => y.step P s1 fun s2 => flat P (pre ++ suf) s2 K :=
      Tr.step_mono (fun s1 h1 => ih (fun z hz => hf z (by simp [hz])) h1) hh
    exact step_swap (hf x (by simp)) h1

end Go.Proofs.Ytmfafadchpglgaa

/- The calculus, part 4: the view and the world: what the model's operations do. No program's text. -/
namespace Go.Proofs.Ytmfafadchpglgaa
open Go.RowKit

/-! ## Reading and writing -/

theorem add_none {b o n : Nat} : (⟨b, o, none⟩ : Addr).add n = ⟨b, o + n, none⟩ := by unfold Addr.add; split <;> simp_all

theorem Hp.row {h : Hp} {w : World} (hs : h.sub w) {k : Nat} {b : Blk} (e : h k = some b) : ∃ T fz, w.heap[k]? = some (.cells b.cs.toArray T fz) ∧ (b.wr = true → fz = (0, 0)) := by
  obtain ⟨o, ho, T, fz, rfl, hf⟩ := hs k b e
  exact ⟨T, fz, ho, hf⟩

theorem cell_row {w : World} {k j : Nat} {cs : List Value} {T : TypeId} {fz : Nat × Nat} (hg : w.heap[k]? = some (.cells cs.toArray T fz)) : w.cell? ⟨k, j, none⟩ = cs[j]? := by
  simp [World.cell?, hg]

def aggT (P : Program) (t : TypeId) : Option Bool :=
  match P.underlying t with
  | some (.struct _) | some (.array _ _) => some true
  | some _ => some false
  | none => none

theorem run_isAgg {P : Program} {t : TypeId} {b : Bool} (h : aggT P t = some b) (w : World) : (isAgg t).run P w = .ok b w := by
  unfold aggT at h
  cases hu : P.underlying t with
  | none => rw [hu] at h; cases h
  | some d =>
    rw [hu] at h
    simp only [isAgg, underlying, Sem.run_bind, run_program, Result.andThen_ok, hu]
    cases d <;> simp_all

theorem run_sizeOf' {P : Program} {t : TypeId} {n : Nat} (h : (P.info? t).map (·.size) = some n) (w : World) : (sizeOf t).run P w = .ok n w := by
  cases hi : P.info? t with
  | none => rw [hi] at h; cases h
  | some i => rw [hi] at h; simp at h; simp [sizeOf, typeInfo, hi, h]

/-- How a type is read: none: one cell; some n: n cells. -/
def ldT (P : Program) (t : TypeId) : Option (Option Nat) :=
  match aggT P t with
  | some true => (P.info? t).map fun i => some i.size
  | some false => some none
  | none => none

theorem run_ld_row {P : Program} {t : TypeId} {sz : Option Nat} (ht : ldT P t = some sz) {w : World} {k off : Nat} {cs : List Value} {T : TypeId} {fz : Nat × Nat}
    (hg : w.heap[k]? = some (.cells cs.toArray T fz)) {v : Value} (e : cld cs off sz = some v) : (loadVar t ⟨k, off, none⟩).run P w = .ok v w := by
  unfold ldT at ht
  split at ht
  · rename_i ha
    cases hi : P.info? t with
    | none => rw [hi] at ht; cases ht
    | some i =>
      rw [hi] at ht
      simp only [Option.map_some, Option.some.injEq] at ht
      subst ht
      simp only [cld] at e
      split at e
      · rename_i hl
        cases e
        have hlen : ((cs.drop off).take i.size).length = i.size := by simp; omega
        have hc := run_loadCells_list (P := P) w ⟨k, off, none⟩ ((cs.drop off).take i.size) (fun j v hj => by
          rw [add_none, cell_row hg]
          rw [List.getElem?_take] at hj
          split at hj
          · rwa [List.getElem?_drop] at hj
          · cases hj)
        rw [hlen] at hc
        simp only [loadVar, Sem.run_bind, run_isAgg ha, Result.andThen_ok, if_true, run_sizeOf' (P := P) (t := t) (n := i.size) (by simp [hi]), hc, Sem.run_pure]
      · cases e
  · rename_i ha
    cases ht
    simp only [cld] at e
    have hc : w.cell? ⟨k, off, none⟩ = some v := by rw [cell_row hg, e]
    simp only [loadVar, Sem.run_bind, run_isAgg ha, Result.andThen_ok, Bool.false_eq_true, if_false, run_load, hc]
  · cases ht

theorem run_ld {P : Program} {t : TypeId} {sz : Option Nat} (ht : ldT P t = some sz) {h : Hp} {w : World} (hs : h.sub w) {a : Addr} {v : Value} (e : hld h a sz = some v) :
    (loadVar t a).run P w = .ok v w := by
  obtain ⟨k, off, spot⟩ := a
  unfold hld at e
  split at e
  · rename_i hsp
    simp only at hsp
    subst hsp
    cases hb : h k with
    | none => simp [hb] at e
    | some b =>
      simp only [hb, Option.bind_some] at e
      obtain ⟨T, fz, hg, _⟩ := Hp.row hs hb
      exact run_ld_row ht hg e
  · cases e

theorem vcells_spec {v : Value} {vs : List Value} (h : vcells v = some vs) : v.cells.toList = vs ∧ ∀ x ∈ vs, x.oneCell' = true := by
  unfold vcells at h
  split at h
  · rename_i cs
    split at h
    · rename_i hall
      cases h
      exact ⟨rfl, fun x hx => List.all_eq_true.1 hall x hx⟩
    · cases h
  · cases h
  · rename_i h1 h2
    cases h
    refine ⟨?_, fun x hx => ?_⟩
    · cases v <;> first | rfl | exact absurd rfl (h1 _) | exact absurd rfl (h2 _)
    · simp at hx
      subst hx
      cases x <;> first | rfl | exact absurd rfl (h1 _) | exact absurd rfl (h2 _)

theorem run_st_row {P : Program} {t : TypeId} {n : Nat} (ht : (P.info? t).map (·.size) = some n) {w : World} {k off : Nat} {cs : List Value} {T : TypeId}
    (hg : w.heap[k]? = some (.cells cs.toArray T (0, 0))) {v : Value} {vs : List Value} (hv : vcells v = some vs) (hn : vs.length = n) (hl : off + n ≤ cs.length) :
    (storeVar t ⟨k, off, none⟩ v).run P w = .ok () (w.setRow k (setAt cs off vs).toArray) := by
  obtain ⟨h1, h2⟩ := vcells_spec hv
  have hsz : v.cells.size = n := by rw [← hn, ← h1]; simp
  have hst := run_storeCells_at (P := P) k off T vs 0 cs.toArray w hg (by simp; omega) h2
  simp only [Nat.add_zero] at hst
  simp only [storeVar, Sem.run_bind, run_sizeOf' ht, Result.andThen_ok, hsz, ne_eq, not_true_eq_false, if_false, h1, hst]
  rfl

/-- A block's row is written. -/
theorem Fr.setRow {h : Hp} {w : World} (hs : h.sub w) {k : Nat} {b : Blk} (e : h k = some b) (hw : b.wr = true) (cs' : List Value) : Fr h w (h.up k ⟨cs', true⟩) (w.setRow k cs'.toArray) := by
  obtain ⟨T, fz, hg, hf⟩ := Hp.row hs e
  have hoth : ∀ j, j ≠ k → (w.setRow k cs'.toArray).heap[j]? = w.heap[j]? := fun j hj => by
    simp only [World.setRow, Array.getElem?_modify]
    rw [if_neg (Ne.symm hj)]
  refine ⟨rfl, rfl, rfl, by simp [World.setRow], fun j hj hn => ?_, fun j b' hj hn => ?_, fun j b' hj => ?_, fun j cs T' fz' hj => ?_⟩
  · exact hoth j (fun hjk => by rw [hjk, e] at hn; cases hn)
  · unfold Hp.up at hj
    split at hj
    · rename_i hjk; rw [hjk, e] at hn; cases hn
    · rw [hn] at hj; cases hj
  · unfold Hp.up at hj
    split at hj
    · rename_i hjk
      subst hjk
      cases hj
      exact ⟨_, setRow_heap w j _ _ T fz hg, T, fz, rfl, fun _ => hf hw⟩
    · rename_i hjk
      rw [hoth j hjk]
      exact hs j b' hj
  · by_cases hjk : j = k
    · subst hjk
      rw [hg] at hj
      cases hj
      exact ⟨_, setRow_heap w j _ _ T fz hg⟩
    · exact ⟨cs, by rw [hoth j hjk]; exact hj⟩

theorem run_st {P : Program} {t : TypeId} {n : Nat} (ht : (P.info? t).map (·.size) = some n) {h h' : Hp} {w : World} (hs : h.sub w) {a : Addr} {v : Value} {vs : List Value} (hv : vcells v = some vs) (hn : vs.length = n)
    (e : hst h a vs = some h') : ∃ w', (storeVar t a v).run P w = .ok () w' ∧ Fr h w h' w' := by
  obtain ⟨k, off, spot⟩ := a
  unfold hst at e
  split at e
  · rename_i hsp
    simp only at hsp
    subst hsp
    cases hb : h k with
    | none => simp [hb] at e
    | some b =>
      simp only [hb] at e
      split at e
      · rename_i hc
        cases e
        obtain ⟨T, fz, hg, hf⟩ := Hp.row hs hb
        have hf' := hf hc.1
        subst hf'
        exact ⟨_, run_st_row ht hg hv hn (by omega), Fr.setRow hs hb hc.1 _⟩
      · cases e
  · cases e

theorem run_stCells {P : Program} {h h' : Hp} {w : World} (hs : h.sub w) {a : Addr} {vs : List Value} (h1 : ∀ x ∈ vs, x.oneCell' = true) (e : hst h a vs = some h') :
    ∃ w', (storeCells a vs).run P w = .ok () w' ∧ Fr h w h' w' := by
  obtain ⟨k, off, spot⟩ := a
  unfold hst at e
  split at e
  · rename_i hsp
    simp only at hsp
    subst hsp
    cases hb : h k with
    | none => simp [hb] at e
    | some b =>
      simp only [hb] at e
      split at e
      · rename_i hc
        cases e
        obtain ⟨T, fz, hg, hf⟩ := Hp.row hs hb
        have hf' := hf hc.1
        subst hf'
        have hst := run_storeCells_at (P := P) k off T vs 0 b.cs.toArray w hg (by simp; omega) h1
        simp only [Nat.add_zero] at hst
        exact ⟨_, hst, Fr.setRow hs hb hc.1 _⟩
      · cases e
  · cases e

/-- A new block, seen. -/
theorem Fr.alloc {h : Hp} {w : World} (hs : h.sub w) (cs : List Value) (T : TypeId) : Fr h w (h.up w.heap.size ⟨cs, true⟩) (w.alloc (.cells cs.toArray T)) := by
  have hn : h w.heap.size = none := by
    cases e : h w.heap.size with
    | none => rfl
    | some b => have := Hp.lt_of_sub hs e; omega
  have hoth : ∀ j, j < w.heap.size → (w.alloc (.cells cs.toArray T)).heap[j]? = w.heap[j]? := fun j hj => by
    show (w.heap.push _)[j]? = _
    rw [Array.getElem?_push, if_neg (by omega)]
  have hnew : (w.alloc (.cells cs.toArray T)).heap[w.heap.size]? = some (.cells cs.toArray T) := by
    show (w.heap.push _)[w.heap.size]? = _
    simp
  refine ⟨rfl, rfl, rfl, by simp, fun j hj _ => hoth j hj, fun j b' hj hj' => ?_, fun j b' hj => ?_, fun j cs T fz hj => ⟨cs, by rw [hoth j (Array.getElem?_eq_some_iff.1 hj).1]; exact hj⟩⟩
  · unfold Hp.up at hj
    split at hj
    · omega
    · rw [hj'] at hj; cases hj
  · unfold Hp.up at hj
    split at hj
    · rename_i hjk
      subst hjk
      cases hj
      exact ⟨_, hnew, T, (0, 0), rfl, fun _ => rfl⟩
    · have := Hp.lt_of_sub hs hj
      rw [hoth j this]
      exact hs j b' hj
theorem Fr.new_none {h : Hp} {w : World} (hs : h.sub w) : h w.heap.size = none := by
  cases e : h w.heap.size with
  | none => rfl
  | some b => have := Hp.lt_of_sub hs e; omega

/-- A draw. -/
theorem Fr.drew {h : Hp} {w : World} (hs : h.sub w) : Fr h w h w.drew :=
  ⟨rfl, rfl, rfl, Nat.le_refl _, fun _ _ _ => rfl, fun k b e n => (by rw [e] at n; cases n), hs, fun k cs T fz e => ⟨cs, e⟩⟩

end Go.Proofs.Ytmfafadchpglgaa

/- The calculus, part 5: a state of the calculus and an activation of the model. No program's text. -/
namespace Go.Proofs.Ytmfafadchpglgaa
open Go.RowKit

def Wd (ρ : Option Nat) : Fence := { fn := fun _ => True, depth := none, alive := false, round := ρ }

def mark1 (r : Nat) : Deferred := { target := .collected r, args := #[] }

/-- The activation (a, w) is what the state says; H, W: view and world where the function began. -/
structure Rel (bl : Nat → Nat) (H : Hp) (W : World) (N : Nat) (s : St) (a : Act) (w : World) : Prop where
  sz : a.tmps.size = N
  tm : ∀ i v, s.t i = some v → a.tmps[i]? = some v
  pt : ∀ i k off, s.p i = some (k, off) → a.tmps[i]? = some (.pointer (some ⟨bl k, off, none⟩))
  bx : ∀ k cs, s.x k = some cs → (∃ T, w.heap[bl k]? = some (.cells cs.toArray T (0, 0))) ∧ s.h (bl k) = none ∧ (k < 1000000 → W.heap.size ≤ bl k)
  inj : ∀ k k' cs cs', s.x k = some cs → s.x k' = some cs' → bl k = bl k' → k = k'
  fr : Fr H W s.h w
  df : ∃ ms : List Nat, a.defers = ms.map mark1 ∧ ms.Nodup ∧ ∀ r ∈ ms, W.heap.size ≤ r ∧ w.heap[r]? = some (.deferred (some []))

theorem Rel.sub {bl : Nat → Nat} {H : Hp} {W : World} {N : Nat} {s : St} {a : Act} {w : World} (r : Rel bl H W N s a w) : s.h.sub w := r.fr.sub

theorem put_tmps {a : Act} {d : Nat} {v : Value} : (a.put (some d) v).tmps = a.tmps.setIfInBounds d v := rfl
theorem put_defers {a : Act} {d : Option Nat} {v : Value} : (a.put d v).defers = a.defers := by cases d <;> rfl

theorem get_set {t : Array Value} {d i : Nat} {v : Value} (hd : d < t.size) : (t.setIfInBounds d v)[i]? = if i = d then some v else t[i]? := by
  rw [Array.getElem?_setIfInBounds]
  by_cases h : d = i
  · subst h; simp [hd]
  · simp [h, Ne.symm h]

section
variable {bl : Nat → Nat} {H : Hp} {W : World} {N : Nat} {s : St} {a : Act} {w : World}

/-- A value into a slot. -/
theorem Rel.val (r : Rel bl H W N s a w) {d : Option Nat} (hd : ∀ x, d = some x → x < N) (v : Value) : Rel bl H W N ((Ef.val d v).ap s) (a.put d v) w := by
  cases d with
  | none => exact r
  | some d =>
    have hlt : d < a.tmps.size := by rw [r.sz]; exact hd d rfl
    refine ⟨by rw [put_tmps]; simp [r.sz], fun i u hi => ?_, fun i k off hi => ?_, r.bx, r.inj, r.fr, r.df⟩
    · rw [put_tmps, get_set hlt]
      simp only [Ef.ap, upd] at hi
      split at hi
      · rw [if_pos ‹_›]; exact hi
      · rw [if_neg ‹_›]; exact r.tm i u hi
    · rw [put_tmps, get_set hlt]
      simp only [Ef.ap, upd] at hi
      split at hi
      · cases hi
      · rw [if_neg ‹_›]; exact r.pt i k off hi

theorem Rel.ptr (r : Rel bl H W N s a w) {d : Option Nat} (hd : ∀ x, d = some x → x < N) (k off : Nat) : Rel bl H W N ((Ef.ptr d k off).ap s) (a.put d (.pointer (some ⟨bl k, off, none⟩))) w := by
  cases d with
  | none => exact r
  | some d =>
    have hlt : d < a.tmps.size := by rw [r.sz]; exact hd d rfl
    refine ⟨by rw [put_tmps]; simp [r.sz], fun i u hi => ?_, fun i k' off' hi => ?_, r.bx, r.inj, r.fr, r.df⟩
    · rw [put_tmps, get_set hlt]
      simp only [Ef.ap, upd] at hi
      split at hi
      · cases hi
      · rw [if_neg ‹_›]; exact r.tm i u hi
    · rw [put_tmps, get_set hlt]
      simp only [Ef.ap, upd] at hi
      split at hi
      · rw [if_pos ‹_›]; cases hi; rfl
      · rw [if_neg ‹_›]; exact r.pt i k' off' hi

/-- Memory that is seen turns; the boxes stay. -/
theorem Rel.heap (r : Rel bl H W N s a w) {h' : Hp} {w' : World} (f : Fr s.h w h' w') : Rel bl H W N { s with h := h' } a w' := by
  refine ⟨r.sz, r.tm, r.pt, fun k cs hk => ?_, r.inj, r.fr.trans f, ?_⟩
  · obtain ⟨⟨T, hT⟩, hn, hW⟩ := r.bx k cs hk
    have hlt : bl k < w.heap.size := (Array.getElem?_eq_some_iff.1 hT).1
    refine ⟨⟨T, ?_⟩, ?_, hW⟩
    · rw [f.block _ hlt hn]; exact hT
    · cases e : h' (bl k) with
      | none => exact e
      | some b => have := f.fresh _ b e hn; omega
  · obtain ⟨ms, h1, h2, h3⟩ := r.df
    refine ⟨ms, h1, h2, fun x hx => ⟨(h3 x hx).1, ?_⟩⟩
    have hx' := (h3 x hx).2
    have hlt : x < w.heap.size := (Array.getElem?_eq_some_iff.1 hx').1
    have hn : s.h x = none := by
      cases e : s.h x with
      | none => rfl
      | some b => obtain ⟨T, fz, hg, _⟩ := Hp.row r.sub e; rw [hx'] at hg; cases hg
    rw [f.block _ hlt hn]; exact hx'

/-- A store into a box. -/
theorem Rel.store (r : Rel bl H W N s a w) {k : Nat} {cs cs' : List Value} (hk1 : k < 1000000) (hk : s.x k = some cs) : Rel bl H W N ((Ef.bx k cs').ap s) a (w.setRow (bl k) cs'.toArray) := by
  have hoth : ∀ j, j ≠ bl k → (w.setRow (bl k) cs'.toArray).heap[j]? = w.heap[j]? := fun j hj => by
    simp only [World.setRow, Array.getElem?_modify]
    rw [if_neg (Ne.symm hj)]
  obtain ⟨⟨T, hT⟩, hn, hW⟩ := r.bx k cs hk
  have old : ∀ j cs1, upd s.x k (some cs') j = some cs1 → ∃ cs2, s.x j = some cs2 := fun j cs1 hj => by
    unfold upd at hj
    split at hj
    · rename_i e; exact ⟨cs, by rw [e]; exact hk⟩
    · exact ⟨cs1, hj⟩
  refine ⟨r.sz, r.tm, r.pt, fun j cs1 hj => ?_, fun j j' c c' hj hj' he => ?_, ?_, ?_⟩
  · obtain ⟨cs2, hj2⟩ := old j cs1 hj
    obtain ⟨⟨T2, hT2⟩, hn2, hW2⟩ := r.bx j cs2 hj2
    refine ⟨?_, hn2, hW2⟩
    simp only [Ef.ap, upd] at hj
    split at hj
    · rename_i e
      subst e
      cases hj
      exact ⟨T, setRow_heap w _ _ _ T (0, 0) hT⟩
    · rename_i e
      rw [hj2] at hj
      cases hj
      refine ⟨T2, ?_⟩
      rw [hoth _ (fun h => e (r.inj j k _ _ hj2 hk h))]
      exact hT2
  · obtain ⟨c2, h2⟩ := old j c hj
    obtain ⟨c3, h3⟩ := old j' c' hj'
    exact r.inj j j' c2 c3 h2 h3 he
  · refine ⟨r.fr.os, r.fr.tape, r.fr.output, by simpa [World.setRow] using r.fr.size, fun j hj hn' => ?_, r.fr.fresh, fun j b hj => ?_, fun j c T' fz' hj => ?_⟩
    · rw [hoth j (by intro e; rw [e] at hj; have := hW hk1; omega)]; exact r.fr.block j hj hn'
    · have hne : j ≠ bl k := by intro e; have hj' : s.h j = some b := hj; rw [e, hn] at hj'; cases hj'
      rw [hoth j hne]; exact r.sub j b hj
    · rw [hoth j (by intro e; have := hW hk1; have := (Array.getElem?_eq_some_iff.1 hj).1; omega)]
      exact r.fr.kind j c T' fz' hj
  · obtain ⟨ms, h1, h2, h3⟩ := r.df
    refine ⟨ms, h1, h2, fun x hx => ⟨(h3 x hx).1, ?_⟩⟩
    have hne : x ≠ bl k := by intro e; have := (h3 x hx).2; rw [e, hT] at this; cases this
    rw [hoth x hne]; exact (h3 x hx).2

/-- A new box. -/
theorem Rel.new (r : Rel bl H W N s a w) {d : Nat} (hd : d < N) (cs : List Value) (T : TypeId) :
    Rel (fun k => if k = d then w.heap.size else bl k) H W N ((Ef.new d cs).ap s) (a.put (some d) (.pointer (some ⟨w.heap.size, 0, none⟩))) (w.alloc (.cells cs.toArray T)) := by
  have hlt : d < a.tmps.size := by rw [r.sz]; exact hd
  have hoth : ∀ j, j < w.heap.size → (w.alloc (.cells cs.toArray T)).heap[j]? = w.heap[j]? := fun j hj => by
    show (w.heap.push _)[j]? = _
    rw [Array.getElem?_push, if_neg (by omega)]
  have hnew : (w.alloc (.cells cs.toArray T)).heap[w.heap.size]? = some (.cells cs.toArray T) := by
    show (w.heap.push _)[w.heap.size]? = _
    simp
  have lt : ∀ j c, s.x j = some c → bl j < w.heap.size := fun j c hj => by
    obtain ⟨⟨T2, hT2⟩, _, _⟩ := r.bx j c hj
    exact (Array.getElem?_eq_some_iff.1 hT2).1
  refine ⟨by rw [put_tmps]; simp [r.sz], fun i u hi => ?_, fun i k off hi => ?_, fun j c hj => ?_, fun j j' c c' hj hj' he => ?_, ?_, ?_⟩
  · rw [put_tmps, get_set hlt]
    simp only [Ef.ap, upd] at hi
    split at hi
    · cases hi
    · rw [if_neg ‹_›]; exact r.tm i u hi
  · rw [put_tmps, get_set hlt]
    simp only [Ef.ap] at hi
    split at hi
    · rw [if_pos ‹_›]; cases hi; simp
    · rw [if_neg ‹_›]
      cases hp : s.p i with
      | none => rw [hp] at hi; cases hi
      | some q =>
        obtain ⟨k', o'⟩ := q
        rw [hp] at hi
        simp only at hi
        split at hi
        · cases hi
        · rename_i hne
          cases hi
          rw [if_neg hne]
          exact r.pt i _ _ hp
  · simp only [Ef.ap, upd] at hj
    split at hj
    · rename_i e
      cases hj
      simp only [e, if_true]
      exact ⟨⟨T, hnew⟩, Fr.new_none r.sub, fun _ => r.fr.size⟩
    · rename_i e
      simp only [e, if_false]
      obtain ⟨⟨T2, hT2⟩, hn2, hW2⟩ := r.bx j c hj
      exact ⟨⟨T2, by rw [hoth _ (lt j c hj)]; exact hT2⟩, hn2, hW2⟩
  · simp only [Ef.ap, upd] at hj hj'
    by_cases e1 : j = d <;> by_cases e2 : j' = d
    · rw [e1, e2]
    · rw [if_neg e2] at hj'
      simp only [e1, e2, if_true, if_false] at he
      have := lt j' c' hj'; omega
    · rw [if_neg e1] at hj
      simp only [e1, e2, if_true, if_false] at he
      have := lt j c hj; omega
    · rw [if_neg e1] at hj
      rw [if_neg e2] at hj'
      simp only [e1, e2, if_false] at he
      exact r.inj j j' c c' hj hj' he
  · refine ⟨r.fr.os, r.fr.tape, r.fr.output, by have := r.fr.size; simp; omega, fun j hj hn' => ?_, r.fr.fresh, fun j b hj => ?_, fun j c T' fz' hj => ?_⟩
    · rw [hoth j (Nat.lt_of_lt_of_le hj r.fr.size)]; exact r.fr.block j hj hn'
    · rw [hoth j (Hp.lt_of_sub r.sub hj)]; exact r.sub j b hj
    · rw [hoth j (Nat.lt_of_lt_of_le (Array.getElem?_eq_some_iff.1 hj).1 r.fr.size)]; exact r.fr.kind j c T' fz' hj
  · obtain ⟨ms, h1, h2, h3⟩ := r.df
    refine ⟨ms, h1, h2, fun x hx => ⟨(h3 x hx).1, ?_⟩⟩
    rw [hoth x (Array.getElem?_eq_some_iff.1 (h3 x hx).2).1]; exact (h3 x hx).2

/-- A draw turns nothing that is seen. -/
theorem Rel.drew (r : Rel bl H W N s a w) : Rel bl H W N s a w.drew := by
  have := r.heap (Fr.drew r.sub)
  exact this

end

end Go.Proofs.Ytmfafadchpglgaa

/- The calculus, part 6: the model's operations, translated; the translation is sound. No program's text. -/
namespace Go.Proofs.Ytmfafadchpglgaa
open Go.RowKit

/-! ## The translation -/

def cstOf : Value → Option Opd
  | .int k n => some (.i k n)
  | .bool b => some (.b b)
  | .slice none l c => if l = 0 ∧ c = 0 then some .nil else none
  | .pointer none => some .pnil
  | .nilFunc => some .nofn
  | _ => none

def trO : Operand → Option Opd
  | .tmp t => some (.t t)
  | .const v => cstOf v
  | .func f => some (.f f)
  | .global _ => none

def trOs : List Operand → Option (List Opd)
  | [] => some []
  | x :: r =>
    match trO x, trOs r with
    | some o, some os => some (o :: os)
    | _, _ => none

def cstsOf : List Value → Option (List Opd)
  | [] => some []
  | x :: r =>
    match cstOf x, cstsOf r with
    | some o, some os => some (o :: os)
    | _, _ => none

def trOpt : Option Operand → Option (Option Opd)
  | none => some none
  | some x => (trO x).map some

def szT (P : Program) (t : TypeId) : Option Nat := (P.info? t).map (·.size)

def zeroOf (P : Program) (t : TypeId) : Option (List Opd) :=
  match P.info? t with
  | some i => (match i.zero with | some z => cstsOf z.cells.toList | none => none)
  | none => none

def boxOf (RM : List (Nat × Nat)) (e : Nat) : Option Nat := (RM.find? fun q => q.1 == e).map (·.2)

def partsS (P : Program) (fs : Array Field) : List (Nat × Operand) → Option (List (Nat × Nat × Opd))
  | [] => some []
  | (i, x) :: r =>
    match fs[i]?, trO x, partsS P fs r with
    | some f, some o, some ps => (match szT P f.type with | some n => some ((f.offset, n, o) :: ps) | none => none)
    | _, _, _ => none

def partsA (esz : Nat) : List (Nat × Operand) → Option (List (Nat × Nat × Opd))
  | [] => some []
  | (i, x) :: r =>
    match trO x, partsA esz r with
    | some o, some ps => some ((i * esz, esz, o) :: ps)
    | _, _ => none

def partsL : List (Nat × Operand) → Option (List (Nat × Opd))
  | [] => some []
  | (i, x) :: r =>
    match trO x, partsL r with
    | some o, some ps => some ((i, o) :: ps)
    | _, _ => none

def trCall (c : Call) : Option It :=
  match c.callee with
  | .value f => (match trO f, trOs c.args.toList with | some f, some as => some (.call false f as) | _, _ => none)
  | _ => none

/-- The builtins. -/
def trBuiltin (P : Program) (c : Call) : Option It :=
  match c.callee, c.args.toList, c.argTypes.toList with
  | .builtin .len, [x], [t] => (match P.underlying t, trO x with | some (.slice _), some x => some (.len x) | _, _ => none)
  | .builtin .max, [x, y], _ => (match trO x, trO y with | some x, some y => some (.mnmx true x y) | _, _ => none)
  | .builtin .min, [x, y], _ => (match trO x, trO y with | some x, some y => some (.mnmx false x y) | _, _ => none)
  | .builtin .append, [x, y], [t, u] =>
    (match P.underlying t, P.underlying u, trO x, trO y with
     | some (.slice e), some (.slice _), some x, some y => (match P.info? e, zeroOf P e with | some i, some z => if i.size = z.length ∧ 0 < i.bytes then some (.app i.size i.bytes z x y) else none | _, _ => none)
     | _, _, _, _ => none)
  | .builtin .copy, [x, y], t :: _ =>
    (match P.underlying t, trO x, trO y with
     | some (.slice e), some x, some y => (match szT P e with | some n => some (.cpy n x y) | none => none)
     | _, _, _ => none)
  | _, _, _ => none

def trIt (P : Program) (RM : List (Nat × Nat)) (o : Oper) : Option It :=
  match o.op with
  | .move x => (trO x).map .mov
  | .assign x => (trO x).map .mov
  | .pick c a b => (match trO c, trO a, trO b with | some c, some a, some b => some (.pick c a b) | _, _, _ => none)
  | .alloc t => (match zeroOf P t, o.dst with | some z, some d => some (if boxOf RM d = some d then .new z else .newp z) | _, _ => none)
  | .box t x => (match szT P t, trO x, o.dst with | some n, some x, some d => some (if boxOf RM d = some d then .box n x else .boxp n x) | _, _, _ => none)
  | .build t ps =>
    (match P.underlying t, zeroOf P t with
     | some (.struct fs), some z => if fs.all (fun f => (szT P f.type).isSome) then (partsS P fs ps.toList).map (.bd z) else none
     | some (.array _ e), some z => (match szT P e with | some n => (partsA n ps.toList).map (.bd z) | none => none)
     | _, _ => none)
  | .buildSlice t n ps =>
    (match P.underlying t with
     | some (.slice e) =>
       (match szT P e, zeroOf P e, partsL ps.toList with
        | some m, some z, some qs => if m = z.length ∧ n * m ≤ 16777216 then some (.bs z n m qs) else none
        | _, _, _ => none)
     | _ => none)
  | .load t (.tmp e) => (match ldT P t with | some sz => some (match boxOf RM e with | some k => .ldb e k sz | none => .ldh sz (.t e)) | none => none)
  | .store t (.tmp e) x =>
    (match szT P t, trO x, o.dst with
     | some n, some x, none => (match boxOf RM e with | some k => if k < 1000000 then some (.stb e k n x) else none | none => some (.sth n (.t e) x))
     | _, _, _ => none)
  | .nilCheck x => (trO x).map .nilck
  | .binOp op xt x y _ =>
    (match P.underlying xt, trO x, trO y with
     | some (.int _), some x, some y => some (.bin op x y)
     | some .bool, some x, some y => (match op with | .eql => some (.beq false x y) | .neq => some (.beq true x y) | _ => none)
     | _, _, _ => none)
  | .unOp op _ x => (trO x).map (.un op)
  | .convert src dst x =>
    (match P.underlying src, P.underlying dst, trO x with
     | some _, some (.int k), some x => some (.cv k x)
     | _, _, _ => none)
  | .makeFunc (.func f) first caps => if first.isEmpty then (trOs caps.toList).map (.mkf f) else none
  | .makeSlice t l c =>
    (match P.underlying t, trO l, trO c with
     | some (.slice e), some l, some c => (match P.info? e, zeroOf P e with | some i, some z => if i.size = z.length then some (.mk z i.bytes l c) else none | _, _ => none)
     | _, _, _ => none)
  | .slice t x lo hi mx =>
    (match P.underlying t, trO x, trOpt lo, trOpt hi, trOpt mx with
     | some (.slice e), some x, some lo, some hi, some mx => if mx.isSome = true ∧ hi.isSome = false then none else (match szT P e with | some n => some (.sl n x lo hi mx) | none => none)
     | _, _, _, _, _ => none)
  | .fieldAddr t (.tmp e) f =>
    (match P.underlying t with
     | some (.struct fs) =>
       (match fs[f]? with
        | some fd => (match szT P fd.type with
          | some n => if n = 0 then none else some (match boxOf RM e with | some k => .fab e k fd.offset | none => .fa fd.offset (.t e))
          | none => none)
        | none => none)
     | _ => none)
  | .field t x f =>
    (match P.underlying t, trO x with
     | some (.struct fs), some x => (match fs[f]? with | some fd => (ldT P fd.type).map fun sz => .fld fd.offset sz x | none => none)
     | _, _ => none)
  | .indexAddr t x ix =>
    (match P.underlying t, trO ix with
     | some (.slice e), some ix => (match szT P e, trO x with | some n, some x => some (.ia n x ix) | _, _ => none)
     | some (.array n e), some ix =>
       (match x, szT P e with
        | .tmp sl, some m => (match boxOf RM sl with | some k => some (.iab sl k n m ix) | none => none)
        | _, _ => none)
     | _, _ => none)
  | .index t x ix =>
    (match P.underlying t, trO x, trO ix with
     | some (.array n e), some x, some ix => (match szT P e, ldT P e with | some m, some sz => some (.ix n m sz x ix) | _, _ => none)
     | _, _, _ => none)
  | .extract x i => (trO x).map fun x => .ext x i
  | .call c => (match trCall c with | some it => some it | none => trBuiltin P c)
  | _ => none

/-! ## Operands -/

theorem cst_val {v : Value} {o : Opd} (h : cstOf v = some o) : o.const = some v := by
  unfold cstOf at h
  split at h
  all_goals first
    | (cases h; rfl)
    | (cases h; done)
    | skip
  split at h
  · rename_i hlc; cases h; obtain ⟨rfl, rfl⟩ := hlc; rfl
  · cases h

theorem ev_const {s : St} {o : Opd} {v : Value} (h : o.const = some v) : s.ev o = some v := by
  cases o <;> simp_all [Opd.const, St.ev]

theorem consts_spec : ∀ {vs : List Value} {zs : List Opd}, cstsOf vs = some zs → consts zs = vs
  | [], zs, h => by cases h; rfl
  | x :: r, zs, h => by
    simp only [cstsOf] at h
    split at h
    · rename_i o os h1 h2
      cases h
      simp [consts, cst_val h1, consts_spec h2]
    · cases h

section
variable {bl : Nat → Nat} {H : Hp} {W : World} {N : Nat} {s : St} {a : Act} {w : World}

theorem ev_tr (r : Rel bl H W N s a w) {x : Operand} {o : Opd} (h : trO x = some o) {v : Value} (e : s.ev o = some v) : a.eval x = v := by
  cases x with
  | tmp t =>
    cases h
    have := r.tm t v e
    simp [Act.eval, this]
  | const u =>
    have := ev_const (s := s) (cst_val h)
    rw [this] at e
    cases e
    rfl
  | global g => cases h
  | func f => cases h; cases e; rfl

theorem evs_tr (r : Rel bl H W N s a w) : ∀ {xs : List Operand} {os : List Opd}, trOs xs = some os → ∀ {vs : List Value}, s.evs os = some vs → xs.map a.eval = vs
  | [], os, h, vs, e => by cases h; cases e; rfl
  | x :: xs, os, h, vs, e => by
    simp only [trOs] at h
    split at h
    · rename_i o os' h1 h2
      cases h
      simp only [St.evs] at e
      split at e
      · rename_i v vs' h3 h4
        cases e
        simp [ev_tr r h1 h3, evs_tr r h2 h4]
      · cases e
    · cases h

end

theorem evs1 {s : St} {x : Opd} {vs : List Value} (h : s.evs [x] = some vs) : ∃ v, s.ev x = some v ∧ vs = [v] := by
  simp only [St.evs] at h
  split at h
  · rename_i v r h1 h2; cases h2; cases h; exact ⟨v, h1, rfl⟩
  · cases h
theorem evsC {s : St} {x : Opd} {r : List Opd} {vs : List Value} (h : s.evs (x :: r) = some vs) : ∃ v vs', s.ev x = some v ∧ s.evs r = some vs' ∧ vs = v :: vs' := by
  simp only [St.evs] at h
  split at h
  · rename_i v r h1 h2; cases h; exact ⟨v, r, h1, h2, rfl⟩
  · cases h
theorem evs2 {s : St} {x y : Opd} {vs : List Value} (h : s.evs [x, y] = some vs) : ∃ u v, s.ev x = some u ∧ s.ev y = some v ∧ vs = [u, v] := by
  obtain ⟨u, vs', h1, h2, rfl⟩ := evsC h
  obtain ⟨v, h3, rfl⟩ := evs1 h2
  exact ⟨u, v, h1, h3, rfl⟩

theorem step_noptr {P : Env} {it : It} {d : Option Nat} {s : St} {K : St → Prop} (hp : it.ptr = none) (h : it.step P d s K) :
    ∃ vs, it.vals s = some vs ∧ it.sem P d ⟨vs, 0, []⟩ s.h fun e h' => K (e.ap { s with h := h' }) := by
  unfold It.step at h
  split at h
  · exact h.elim
  · rename_i i hi
    unfold It.inp at hi
    split at hi
    · cases hi
    · rename_i vs hv
      rw [hp] at hi
      cases hi
      exact ⟨vs, hv, h⟩

theorem step_ptr {P : Env} {it : It} {e k : Nat} {d : Option Nat} {s : St} {K : St → Prop} (hp : it.ptr = some (e, k)) (h : it.step P d s K) :
    ∃ vs off cs, it.vals s = some vs ∧ s.p e = some (k, off) ∧ s.x k = some cs ∧ it.sem P d ⟨vs, off, cs⟩ s.h fun e h' => K (e.ap { s with h := h' }) := by
  unfold It.step at h
  split at h
  · exact h.elim
  · rename_i i hi
    unfold It.inp at hi
    split at hi
    · cases hi
    · rename_i vs hv
      rw [hp] at hi
      simp only at hi
      split at hi
      · rename_i k' off cs h1 h2
        split at hi
        · rename_i hk
          subst hk
          cases hi
          exact ⟨vs, off, cs, hv, h1, h2, h⟩
        · cases hi
      · cases hi

/-! ## What an operation comes to -/

section
variable {P : Program} {ρ : Option Nat} {o : Oper} {a : Act} {w w' : World} {next : Act → World → Prop} {Q : Exit → Act → World → Prop}

theorem fin_any (hnd : ∀ c, o.op ≠ .defer c) (h : o.uponIn (Wd ρ) 0 P a next Q ((execOp a.eval o).run P w)) : o.wpIn (Wd ρ) 0 P a w next Q := by
  refine ⟨fun _ _ => trivial, ?_⟩
  have e : (Wd ρ).round = ρ := rfl
  rw [e, Oper.semAt_eq _ _ _ hnd]
  exact h

theorem fin_val (hnd : ∀ c, o.op ≠ .defer c) {v : Value} (h : (execOp a.eval o).run P w = .ok (.value v) w') (k : next (a.put o.dst v) w') : o.wpIn (Wd ρ) 0 P a w next Q := by
  refine fin_any hnd ?_
  rw [h]
  exact k

theorem fin_skip (hnd : ∀ c, o.op ≠ .defer c) (h : (execOp a.eval o).run P w = .ok .skip w') (k : next (a.put o.dst undef) w') : o.wpIn (Wd ρ) 0 P a w next Q := by
  refine fin_any hnd ?_
  rw [h]
  exact k

theorem upon_call {fv : Value} {args : List Value} {R : Value → World → Prop} (h : CallV P fv args w R) (k : ∀ v w', R v w' → next (a.put o.dst v) w') :
    o.uponIn (Wd ρ) 0 P a next Q ((Deferred.ofValue fv args.toArray >>= fun d => invoke d.target d.args).run P w) := by
  unfold CallV at h
  generalize ((Deferred.ofValue fv args.toArray >>= fun d => invoke d.target d.args).run P w) = res at h ⊢
  cases res with
  | ok nx w' =>
    cases nx <;> simp only at h
    all_goals first
      | exact h.elim
      | skip
    · exact k _ _ h
    · refine ⟨fun hn => by simp [Wd] at hn, ?_⟩
      refine CallsIn.mono (F := Wd ρ) h ?_
      rintro e w'' ⟨v, rfl, hr⟩
      exact k _ _ hr
    · refine ⟨fun hn => by simp [Wd] at hn, ?_⟩
      refine RoundIn.mono (F := Wd ρ) h ?_
      rintro e w'' ⟨v, rfl, hr⟩
      exact k _ _ hr
  | halt x w' => exact h.elim

end

end Go.Proofs.Ytmfafadchpglgaa

/- The calculus, part 7: what the calculus says of one operation, the model does. No program's text. -/
namespace Go.Proofs.Ytmfafadchpglgaa
open Go.RowKit

section
variable {P : Program} {w : World}

theorem run_v {S : Sem Value} {v : Value} {w' : World} (h : S.run P w = .ok v w') : (do pure (Next.value (← S)) : Sem Next).run P w = .ok (.value v) w' := by
  simp [h]
theorem run_u {S : Sem Unit} {w' : World} (h : S.run P w = .ok () w') : (do S; pure Next.skip : Sem Next).run P w = .ok .skip w' := by
  simp [h]

theorem run_und {t : TypeId} {d : TypeDesc} (h : P.underlying t = some d) (w : World) : (underlying t).run P w = .ok d w := by
  simp [underlying, h]

theorem run_sz {t : TypeId} {n : Nat} (h : szT P t = some n) (w : World) : (sizeOf t).run P w = .ok n w := run_sizeOf' h w

theorem run_bin {op : BinOp} {xt : TypeId} {x y : Operand} {k : IntKind} {a b : Int} {K : Value → Prop} (hs : isSh op = false) (h : binK op k a b K) :
    ∃ v, K v ∧ (do eqGuard op xt x y (.int k a) (.int k b); binOp op xt (.int k a) (.int k b)).run P w = .ok v w := by
  cases op <;> simp only [binK] at h
  all_goals first
    | exact h.elim
    | exact ⟨_, h, by simp [eqGuard, binOp, Op.intArith, Op.intBits, Op.intCmp] <;> rfl⟩
    | exact ⟨_, h, by simp [eqGuard, binOp, Op.intCmp]; rfl⟩
    | exact ⟨_, h.2, by simp [eqGuard, binOp, Op.intDiv, h.1]⟩

theorem run_sh {op : BinOp} {xt : TypeId} {x y : Operand} {k k' : IntKind} {a b : Int} {K : Value → Prop} (h : shK op k a b K) :
    ∃ v, K v ∧ (do eqGuard op xt x y (.int k a) (.int k' b); binOp op xt (.int k a) (.int k' b)).run P w = .ok v w := by
  cases op <;> simp only [shK] at h
  all_goals first
    | exact h.elim
    | exact ⟨_, h.2, by have := h.1; simp [eqGuard, binOp, Op.shift]; omega⟩

theorem run_beq {op : BinOp} {xt : TypeId} {x y : Operand} {a b : Bool} (hu : P.underlying xt = some .bool) (ho : op = .eql ∨ op = .neq) :
    (do eqGuard op xt x y (.bool a) (.bool b); binOp op xt (.bool a) (.bool b)).run P w = .ok (.bool (beqI (op == .neq) a b)) w := by
  rcases ho with rfl | rfl
  · simp only [Sem.run_bind, show (eqGuard .eql xt x y (.bool a) (.bool b)).run P w = .ok () w by simp [eqGuard], Result.andThen_ok, run_eql_bool w xt a b hu]; rfl
  · simp only [Sem.run_bind, show (eqGuard .neq xt x y (.bool a) (.bool b)).run P w = .ok () w by simp [eqGuard], Result.andThen_ok, run_neq_bool w xt a b hu]; rfl

theorem zero_run {t : TypeId} {zs : List Opd} (h : zeroOf P t = some zs) (w : World) : ∃ i z, P.info? t = some i ∧ i.zero = some z ∧ z.cells.toList = consts zs ∧ (zeroValue t).run P w = .ok z w := by
  unfold zeroOf at h
  split at h
  · rename_i i hi
    split at h
    · rename_i z hz
      exact ⟨i, z, hi, hz, (consts_spec h).symm, by simp [zeroValue, typeInfo, hi, hz]⟩
    · cases h
  · cases h

theorem length_consts : ∀ zs : List Opd, (consts zs).length = zs.length
  | [] => rfl
  | _ :: r => by simp [consts, length_consts r]

theorem mk_cells (z : Array Value) (n : Nat) : ((Array.range n).map (z[· % z.size]!)).toList = mkCells z.toList n := by
  unfold mkCells
  rw [Array.toList_map, Array.toList_range]
  refine List.map_congr_left fun i hi => ?_
  have hn : 0 < n := by have := List.mem_range.1 hi; omega
  by_cases hz : z.size = 0
  · have : z = #[] := Array.size_eq_zero_iff.1 hz
    subst this
    simp [getElem!_def]
  · have hlt : i % z.size < z.size := Nat.mod_lt _ (by omega)
    rw [Array.length_toList, getElem!_pos z _ hlt]
    simp [List.getD, hlt]

theorem foldl_set (v : Array Value) (off : Nat) : ∀ (cs : Array Value), off + v.size ≤ cs.size → (v.zipIdx.foldl (fun cs (c, j) => cs.setIfInBounds (off + j) c) cs).toList = setAt cs.toList off v.toList := by
  intro cs hl
  obtain ⟨v⟩ := v
  have key : ∀ (l : List Value) (j : Nat) (cs : Array Value), off + j + l.length ≤ cs.size →
      ((l.zipIdx j).foldl (fun (cs : Array Value) (p : Value × Nat) => cs.setIfInBounds (off + p.2) p.1) cs).toList = setAt cs.toList (off + j) l := by
    intro l
    induction l with
    | nil => intro j cs _; simp [setAt]
    | cons x l ih =>
      intro j cs h
      simp only [List.length_cons] at h
      simp only [List.zipIdx_cons, List.foldl_cons]
      rw [ih (j + 1) _ (by simp; omega)]
      have e := list_seg_step cs.toList (off + j) x l (by simp; omega)
      simp only [setAt, Array.toList_setIfInBounds, List.length_cons]
      rw [show off + (j + 1) = off + j + 1 by omega]
      exact e
  have := key v 0 cs (by simpa using hl)
  simpa using this

theorem fill_run {place : Nat → Option (Nat × Nat)} : ∀ {ps : List (Nat × Nat × Value)} {is : List (Nat × Value)} {cs : Array Value} {out : List Value},
    ps.length = is.length → (∀ (j : Nat) (p : Nat × Nat × Value) (q : Nat × Value), ps[j]? = some p → is[j]? = some q → place q.1 = some (p.1, p.2.1) ∧ p.2.2 = q.2) → fillC cs.toList ps = some out → Instr.fill place cs is = some out.toArray
  | [], [], cs, out, _, _, h => by cases h; simp [Instr.fill]
  | [], _ :: _, _, _, hl, _, _ => by cases hl
  | _ :: _, [], _, _, hl, _, _ => by cases hl
  | (off, n, v) :: ps, (i, u) :: is, cs, out, hl, hp, h => by
    obtain ⟨h1, h2⟩ := hp 0 _ _ rfl rfl
    simp only at h1 h2
    subst h2
    have hrec : ∀ (cs' : Array Value), fillC cs'.toList ps = some out → Instr.fill place cs' is = some out.toArray := fun cs' h' =>
      fill_run (by simpa using hl) (fun j p q hj hq => hp (j + 1) p q hj hq) h'
    simp only [fillC] at h
    have hgen : ∀ vs : Array Value, v.cells = vs → vs.size = n → off + n ≤ cs.size → fillC (setAt cs.toList off vs.toList) ps = some out → Instr.fill place cs ((i, v) :: is) = some out.toArray := by
      intro vs hv hn hle hf
      simp only [Instr.fill, h1, hv]
      have c1 : ¬ (vs.size ≠ n ∨ cs.size < off + vs.size) := by omega
      simp only [bne_iff_ne, ne_eq, hn, not_true_eq_false, decide_eq_true_eq, gt_iff_lt, Bool.or_eq_true, false_or]
      rw [if_neg (by omega)]
      refine hrec _ ?_
      rw [foldl_set vs off cs (by omega)]
      exact hf
    split at h
    · rename_i vs
      split at h
      · rename_i hc; exact hgen vs rfl hc.1 (by simpa using hc.2) h
      · cases h
    · cases h
    · rename_i hv1 hv2
      split at h
      · rename_i hc
        refine hgen #[v] ?_ (by simp [hc.1]) (by have := hc.2; simp at this; omega) (by simpa using h)
        cases v <;> first | rfl | exact absurd rfl (hv1 _) | exact absurd rfl (hv2 _)
      · cases h

end

end Go.Proofs.Ytmfafadchpglgaa

/- The calculus, part 8: one operation of the model. No program's text. -/
namespace Go.Proofs.Ytmfafadchpglgaa
open Go.RowKit

/-- What stands behind an operation: a state of which K holds. -/
def Nx (H : Hp) (W : World) (N : Nat) (K : St → Prop) : Act → World → Prop := fun a' w' => ∃ s' bl', K s' ∧ Rel bl' H W N s' a' w'

section
variable {P : Env} {RM : List (Nat × Nat)} {ρ : Option Nat} {bl : Nat → Nat} {H : Hp} {W : World} {N : Nat} {s : St} {a : Act} {w : World} {o : Oper} {K : St → Prop} {Q : Exit → Act → World → Prop}

theorem nx_val (r : Rel bl H W N s a w) (hd : ∀ x, o.dst = some x → x < N) {v : Value} (h : K ((Ef.val o.dst v).ap s)) : Nx H W N K (a.put o.dst v) w := ⟨_, bl, h, r.val hd v⟩

theorem nx_heap (r : Rel bl H W N s a w) (hd : ∀ x, o.dst = some x → x < N) {v : Value} {h' : Hp} {w' : World} (f : Fr s.h w h' w') (h : K ((Ef.val o.dst v).ap { s with h := h' })) : Nx H W N K (a.put o.dst v) w' :=
  ⟨_, bl, h, (r.heap f).val hd v⟩

theorem op_call [Nonempty (P.ok H W)] {c : Call} (hop : o.op = .call c) {f : Operand} (hc : c.callee = .value f) {fo : Opd} {as : List Opd} (hf : trO f = some fo) (ha : trOs c.args.toList = some as)
    (r : Rel bl H W N s a w) (hd : ∀ x, o.dst = some x → x < N) {m : Bool} (hK : (It.call m fo as).step P o.dst s K) : o.wpIn (Wd ρ) 0 P a w (Nx H W N K) Q := by
  obtain ⟨vs, hv, hs⟩ := step_noptr rfl hK
  obtain ⟨fv, vs', h1, h2, rfl⟩ := evsC hv
  refine fin_any (by simp [hop]) ?_
  have e1 := ev_tr r hf h1
  have e2 := evs_tr r ha h2
  have e3 : c.args.map a.eval = vs'.toArray := by apply Array.ext'; simp [e2]
  have e : execOp a.eval o = (Deferred.ofValue fv vs'.toArray >>= fun d => invoke d.target d.args) := by
    simp only [execOp, hop, resolve, hc, e1, e3]
  rw [e]
  obtain ⟨hok⟩ := ‹Nonempty (P.ok H W)›
  exact upon_call (hs w r.sub (P.keep hok r.fr)) (fun v w' ⟨h', hk, hfr⟩ => nx_heap r hd hfr hk.2)


theorem op_mov {x : Operand} (hop : o.op = .move x ∨ o.op = .assign x) {y : Opd} (hx : trO x = some y) (r : Rel bl H W N s a w) (hd : ∀ x, o.dst = some x → x < N) (hK : (It.mov y).step P o.dst s K) :
    o.wpIn (Wd ρ) 0 P a w (Nx H W N K) Q := by
  obtain ⟨vs, hv, hs⟩ := step_noptr rfl hK
  obtain ⟨v, h1, rfl⟩ := evs1 hv
  have e := ev_tr r hx h1
  refine fin_val (v := v) (w' := w) ?_ ?_ (nx_val r hd hs)
  · intro c hc; rcases hop with h | h <;> simp [h] at hc
  · rcases hop with h | h <;> simp [execOp, h, e]

theorem op_pick {c x y : Operand} (hop : o.op = .pick c x y) {c' x' y' : Opd} (hc : trO c = some c') (hx : trO x = some x') (hy : trO y = some y') (r : Rel bl H W N s a w) (hd : ∀ x, o.dst = some x → x < N)
    (hK : (It.pick c' x' y').step P o.dst s K) : o.wpIn (Wd ρ) 0 P a w (Nx H W N K) Q := by
  obtain ⟨vs, hv, hs⟩ := step_noptr rfl hK
  simp only [It.vals] at hv
  split at hv
  · rename_i h0
    obtain ⟨v, h1, rfl⟩ := evs1 hv
    exact fin_val (v := v) (w' := w) (by simp [hop]) (by simp [execOp, hop, ev_tr r hc h0, ev_tr r hx h1, asBool]) (nx_val r hd hs)
  · rename_i h0
    obtain ⟨v, h1, rfl⟩ := evs1 hv
    exact fin_val (v := v) (w' := w) (by simp [hop]) (by simp [execOp, hop, ev_tr r hc h0, ev_tr r hy h1, asBool]) (nx_val r hd hs)
  · cases hv

theorem op_bin {op : BinOp} {xt yt : TypeId} {x y : Operand} (hop : o.op = .binOp op xt x y yt) {x' y' : Opd} (hx : trO x = some x') (hy : trO y = some y') (r : Rel bl H W N s a w) (hd : ∀ x, o.dst = some x → x < N)
    (hK : (It.bin op x' y').step P o.dst s K) : o.wpIn (Wd ρ) 0 P a w (Nx H W N K) Q := by
  obtain ⟨vs, hv, hs⟩ := step_noptr rfl hK
  obtain ⟨u, v, h1, h2, rfl⟩ := evs2 hv
  have e1 := ev_tr r hx h1
  have e2 := ev_tr r hy h2
  cases u with
  | int k n =>
    cases v with
    | int k' m =>
      have hs' : if isSh op = true then shK op k n m (fun v => K ((Ef.val o.dst v).ap s)) else k = k' ∧ binK op k n m (fun v => K ((Ef.val o.dst v).ap s)) := hs
      have fin : ∀ v, K ((Ef.val o.dst v).ap s) → (do eqGuard op xt x y (.int k n) (.int k' m); binOp op xt (.int k n) (.int k' m)).run P w = .ok v w → o.wpIn (Wd ρ) 0 P a w (Nx H W N K) Q := fun v hk hr =>
        fin_val (v := v) (w' := w) (by simp [hop]) (by simp only [execOp, hop, e1, e2]; exact run_v hr) (nx_val r hd hk)
      split at hs'
      · obtain ⟨v, hk, hr⟩ := run_sh (P := P) (w := w) (xt := xt) (x := x) (y := y) (k' := k') hs'
        exact fin v hk hr
      · obtain ⟨rfl, hb⟩ := hs'
        obtain ⟨v, hk, hr⟩ := run_bin (P := P) (w := w) (xt := xt) (x := x) (y := y) (by simpa using ‹¬ isSh op = true›) hb
        exact fin v hk hr
    | _ => exact (hs : False).elim
  | _ => exact (hs : False).elim

theorem op_beq {op : BinOp} {xt yt : TypeId} {x y : Operand} (hop : o.op = .binOp op xt x y yt) (hu : P.underlying xt = some .bool) (ho : op = .eql ∨ op = .neq) {x' y' : Opd} (hx : trO x = some x') (hy : trO y = some y')
    (r : Rel bl H W N s a w) (hd : ∀ x, o.dst = some x → x < N) (hK : (It.beq (op == .neq) x' y').step P o.dst s K) : o.wpIn (Wd ρ) 0 P a w (Nx H W N K) Q := by
  obtain ⟨vs, hv, hs⟩ := step_noptr rfl hK
  obtain ⟨u, v, h1, h2, rfl⟩ := evs2 hv
  have e1 := ev_tr r hx h1
  have e2 := ev_tr r hy h2
  cases u with
  | bool n =>
    cases v with
    | bool m => exact fin_val (v := .bool (beqI (op == .neq) n m)) (w' := w) (by simp [hop]) (by simp only [execOp, hop, e1, e2]; exact run_v (run_beq hu ho)) (nx_val r hd hs)
    | _ => exact (hs : False).elim
  | _ => exact (hs : False).elim

theorem op_un {op : UnOp} {xt : TypeId} {x : Operand} (hop : o.op = .unOp op xt x) {x' : Opd} (hx : trO x = some x') (r : Rel bl H W N s a w) (hd : ∀ x, o.dst = some x → x < N)
    (hK : (It.un op x').step P o.dst s K) : o.wpIn (Wd ρ) 0 P a w (Nx H W N K) Q := by
  obtain ⟨vs, hv, hs⟩ := step_noptr rfl hK
  obtain ⟨u, h1, rfl⟩ := evs1 hv
  have e1 := ev_tr r hx h1
  cases u with
  | int k n =>
    cases op with
    | neg => exact fin_val (v := .int k (k.wrap (0 - n))) (w' := w) (by simp [hop]) (by simp [execOp, hop, e1, Op.unary, Op.intArith]) (nx_val r hd hs)
    | xor => exact fin_val (v := .int k (k.wrap (BitVec.ofInt k.bits (xorM k) ^^^ BitVec.ofInt k.bits n).toNat)) (w' := w) (by simp [hop]) (by simp [execOp, hop, e1, Op.unary, Op.intBits, xorM]) (nx_val r hd hs)
    | _ => exact (hs : False).elim
  | bool b =>
    cases op with
    | not => exact fin_val (v := .bool (!b)) (w' := w) (by simp [hop]) (by simp [execOp, hop, e1, Op.unary]) (nx_val r hd hs)
    | _ => exact (hs : False).elim
  | _ => exact (hs : False).elim

theorem op_cv {src dst : TypeId} {x : Operand} {k : IntKind} {sd : TypeDesc} (hop : o.op = .convert src dst x) (h1 : P.underlying src = some sd) (h2 : P.underlying dst = some (.int k)) {x' : Opd} (hx : trO x = some x')
    (r : Rel bl H W N s a w) (hd : ∀ x, o.dst = some x → x < N) (hK : (It.cv k x').step P o.dst s K) : o.wpIn (Wd ρ) 0 P a w (Nx H W N K) Q := by
  obtain ⟨vs, hv, hs⟩ := step_noptr rfl hK
  obtain ⟨u, h3, rfl⟩ := evs1 hv
  have e1 := ev_tr r hx h3
  cases u with
  | int k' n =>
    refine fin_val (v := .int k (k.wrap n)) (w' := w) (by simp [hop]) ?_ (nx_val r hd hs)
    simp only [execOp, hop, e1]
    refine run_v ?_
    simp only [convert, Sem.run_bind, run_und h1, run_und h2, Result.andThen_ok]
    cases sd <;> rfl
  | _ => exact (hs : False).elim

theorem op_ext {x : Operand} {i : Nat} (hop : o.op = .extract x i) {x' : Opd} (hx : trO x = some x') (r : Rel bl H W N s a w) (hd : ∀ x, o.dst = some x → x < N) (hK : (It.ext x' i).step P o.dst s K) :
    o.wpIn (Wd ρ) 0 P a w (Nx H W N K) Q := by
  obtain ⟨vs, hv, hs⟩ := step_noptr rfl hK
  obtain ⟨u, h3, rfl⟩ := evs1 hv
  have e1 := ev_tr r hx h3
  cases u with
  | tuple us =>
    have hs' : (match us.toList[i]? with | some v => K ((Ef.val o.dst v).ap s) | none => False) := hs
    split at hs'
    · rename_i v hi
      exact fin_val (v := v) (w' := w) (by simp [hop]) (by simp [execOp, hop, e1, Instr.extract] at hi ⊢; simp [hi]) (nx_val r hd hs')
    · exact hs'.elim
  | _ => exact (hs : False).elim

theorem cld_part {t : TypeId} {sz : Option Nat} (ht : ldT P t = some sz) {cs : Array Value} {off : Nat} {v : Value} (e : cld cs.toList off sz = some v) : (part t cs off).run P w = .ok v w := by
  unfold ldT at ht
  split at ht
  · rename_i ha
    cases hi : P.info? t with
    | none => rw [hi] at ht; cases ht
    | some i =>
      rw [hi] at ht
      simp only [Option.map_some, Option.some.injEq] at ht
      subst ht
      simp only [cld] at e
      split at e
      · cases e
        simp only [part, Sem.run_bind, run_isAgg ha, Result.andThen_ok, if_true, run_sizeOf' (P := P) (t := t) (n := i.size) (by simp [hi]), Sem.run_pure]
        congr 2
        apply Array.ext'
        simp [List.take_drop]
      · cases e
  · rename_i ha
    cases ht
    simp only [cld] at e
    have e' : cs[off]? = some v := by simpa using e
    simp [part, run_isAgg ha, e']
  · cases ht

theorem op_fld {t : TypeId} {x : Operand} {f : Nat} {fs : Array Field} {fd : Field} {sz : Option Nat} (hop : o.op = .field t x f) (hu : P.underlying t = some (.struct fs)) (hf : fs[f]? = some fd) (hsz : ldT P fd.type = some sz)
    {x' : Opd} (hx : trO x = some x') (r : Rel bl H W N s a w) (hd : ∀ x, o.dst = some x → x < N) (hK : (It.fld fd.offset sz x').step P o.dst s K) : o.wpIn (Wd ρ) 0 P a w (Nx H W N K) Q := by
  obtain ⟨vs, hv, hs⟩ := step_noptr rfl hK
  obtain ⟨u, h3, rfl⟩ := evs1 hv
  have e1 := ev_tr r hx h3
  cases u with
  | agg cs =>
    have hs' : (match cld cs.toList fd.offset sz with | some v => K ((Ef.val o.dst v).ap s) | none => False) := hs
    split at hs'
    · rename_i v hi
      refine fin_val (v := v) (w' := w) (by simp [hop]) ?_ (nx_val r hd hs')
      simp only [execOp, hop, e1]
      refine run_v ?_
      simp [Instr.field, run_und hu, hf, asAgg, cld_part hsz hi]
    · exact hs'.elim
  | _ => exact (hs : False).elim

theorem op_ix {t e : TypeId} {x ix : Operand} {n m : Nat} {sz : Option Nat} (hop : o.op = .index t x ix) (hu : P.underlying t = some (.array n e)) (hm : szT P e = some m) (hsz : ldT P e = some sz)
    {x' i' : Opd} (hx : trO x = some x') (hi : trO ix = some i') (r : Rel bl H W N s a w) (hd : ∀ x, o.dst = some x → x < N) (hK : (It.ix n m sz x' i').step P o.dst s K) : o.wpIn (Wd ρ) 0 P a w (Nx H W N K) Q := by
  obtain ⟨vs, hv, hs⟩ := step_noptr rfl hK
  obtain ⟨u, v, h1, h2, rfl⟩ := evs2 hv
  have e1 := ev_tr r hx h1
  have e2 := ev_tr r hi h2
  cases u with
  | agg cs =>
    cases v with
    | int k j =>
      have hs' : 0 ≤ j ∧ j < n ∧ (match cld cs.toList (j.toNat * m) sz with | some v => K ((Ef.val o.dst v).ap s) | none => False) := hs
      obtain ⟨g1, g2, g3⟩ := hs'
      split at g3
      · rename_i v hc
        refine fin_val (v := v) (w' := w) (by simp [hop]) ?_ (nx_val r hd g3)
        simp only [execOp, hop, e1, e2]
        refine run_v ?_
        simp [Instr.index, asIntOf, run_und hu, g1, g2, run_sz hm, cld_part hsz hc]
      · exact g3.elim
    | _ => exact (hs : False).elim
  | _ => exact (hs : False).elim

end
end Go.Proofs.Ytmfafadchpglgaa

/- The calculus, part 9: operations on memory. No program's text. -/
namespace Go.Proofs.Ytmfafadchpglgaa
open Go.RowKit

section
variable {P : Env} {RM : List (Nat × Nat)} {ρ : Option Nat} {bl : Nat → Nat} {H : Hp} {W : World} {N : Nat} {s : St} {a : Act} {w : World} {o : Oper} {K : St → Prop} {Q : Exit → Act → World → Prop}

theorem op_nilck {x : Operand} (hop : o.op = .nilCheck x) {x' : Opd} (hx : trO x = some x') (r : Rel bl H W N s a w) (hd : ∀ x, o.dst = some x → x < N) (hK : (It.nilck x').step P o.dst s K) :
    o.wpIn (Wd ρ) 0 P a w (Nx H W N K) Q := by
  obtain ⟨vs, hv, hs⟩ := step_noptr rfl hK
  obtain ⟨u, h3, rfl⟩ := evs1 hv
  have e1 := ev_tr r hx h3
  cases u with
  | pointer p =>
    cases p with
    | none => exact (hs : False).elim
    | some p => exact fin_val (v := .pointer (some p)) (w' := w) (by simp [hop]) (by simp [execOp, hop, e1]) (nx_val r hd hs)
  | func f fi ca =>
    cases f with
    | func f => exact fin_val (v := .func (.func f) fi ca) (w' := w) (by simp [hop]) (by simp [execOp, hop, e1]) (nx_val r hd hs)
    | _ => exact (hs : False).elim
  | _ => exact (hs : False).elim

theorem op_len {x : Operand} {t e : TypeId} {c : Call} (hop : o.op = .call c) (hc : c.callee = .builtin .len) (hax : c.args.toList = [x]) (hat : c.argTypes.toList = [t]) (hu : P.underlying t = some (.slice e)) {x' : Opd} (hx : trO x = some x')
    (r : Rel bl H W N s a w) (hd : ∀ x, o.dst = some x → x < N) (hK : (It.len x').step P o.dst s K) : o.wpIn (Wd ρ) 0 P a w (Nx H W N K) Q := by
  obtain ⟨vs, hv, hs⟩ := step_noptr rfl hK
  obtain ⟨u, h3, rfl⟩ := evs1 hv
  have e1 := ev_tr r hx h3
  have ha : c.args = #[x] := by apply Array.ext'; simpa using hax
  have ht : c.argTypes = #[t] := by apply Array.ext'; simpa using hat
  cases u with
  | slice p n cp =>
    refine fin_val (v := .int .i64 n) (w' := w) (by simp [hop]) ?_ (nx_val r hd hs)
    simp [execOp, hop, resolve, hc, ha, ht, e1, invoke, builtin, Builtin.len_, run_und hu, goInt]
  | _ => exact (hs : False).elim

theorem op_mnmx {x y : Operand} {mx : Bool} {c : Call} (hop : o.op = .call c) (hc : c.callee = .builtin (if mx then .max else .min)) (hax : c.args.toList = [x, y]) {x' y' : Opd} (hx : trO x = some x') (hy : trO y = some y')
    (r : Rel bl H W N s a w) (hd : ∀ x, o.dst = some x → x < N) (hK : (It.mnmx mx x' y').step P o.dst s K) : o.wpIn (Wd ρ) 0 P a w (Nx H W N K) Q := by
  obtain ⟨vs, hv, hs⟩ := step_noptr rfl hK
  obtain ⟨u, v, h1, h2, rfl⟩ := evs2 hv
  have e1 := ev_tr r hx h1
  have e2 := ev_tr r hy h2
  have ha : c.args = #[x, y] := by apply Array.ext'; simpa using hax
  cases u with
  | int k n =>
    cases v with
    | int k' m =>
      refine fin_val (v := .int k (mnmxI mx n m)) (w' := w) (by simp [hop]) ?_ (nx_val r hd hs)
      cases mx <;> simp [execOp, hop, resolve, hc, ha, e1, e2, invoke, builtin, Builtin.max_, Builtin.min_, Builtin.max2, Builtin.min2, mnmxI]
    | _ => exact (hs : False).elim
  | _ => exact (hs : False).elim

theorem op_mkf {f : Nat} {first caps : Array Operand} (hop : o.op = .makeFunc (.func f) first caps) (hf : first.isEmpty = true) {cs : List Opd} (hx : trOs caps.toList = some cs) (r : Rel bl H W N s a w)
    (hd : ∀ x, o.dst = some x → x < N) (hK : (It.mkf f cs).step P o.dst s K) : o.wpIn (Wd ρ) 0 P a w (Nx H W N K) Q := by
  obtain ⟨vs, hv, hs⟩ := step_noptr rfl hK
  have e2 := evs_tr r hx hv
  have e3 : caps.map a.eval = vs.toArray := by apply Array.ext'; simp [e2]
  have e4 : first = #[] := by simpa using hf
  exact fin_val (v := .func (.func f) #[] vs.toArray) (w' := w) (by simp [hop]) (by simp [execOp, hop, e3, e4, Instr.makeFunc]) (nx_val r hd hs)

theorem op_ia {t e : TypeId} {x ix : Operand} {n : Nat} (hop : o.op = .indexAddr t x ix) (hu : P.underlying t = some (.slice e)) (hm : szT P e = some n) {x' i' : Opd} (hx : trO x = some x') (hi : trO ix = some i')
    (r : Rel bl H W N s a w) (hd : ∀ x, o.dst = some x → x < N) (hK : (It.ia n x' i').step P o.dst s K) : o.wpIn (Wd ρ) 0 P a w (Nx H W N K) Q := by
  obtain ⟨vs, hv, hs⟩ := step_noptr rfl hK
  obtain ⟨u, v, h1, h2, rfl⟩ := evs2 hv
  have e1 := ev_tr r hx h1
  have e2 := ev_tr r hi h2
  cases u with
  | slice p l c =>
    cases v with
    | int k j =>
      have hs' : 0 ≤ j ∧ j < l ∧ p.isSome = true ∧ K ((Ef.val o.dst (.pointer (some (elemA p j n)))).ap s) := hs
      obtain ⟨g1, g2, g3, g4⟩ := hs'
      cases p with
      | none => cases g3
      | some p =>
        refine fin_val (v := .pointer (some (elemA (some p) j n))) (w' := w) (by simp [hop]) ?_ (nx_val r hd g4)
        simp only [execOp, hop, e1, e2]
        refine run_v ?_
        simp [Instr.indexAt, asIntOf, run_und hu, g1, g2, run_sz hm, elemA]
    | _ => exact (hs : False).elim
  | _ => exact (hs : False).elim

theorem op_iab {t e : TypeId} {sl k m n : Nat} {ix : Operand} (hop : o.op = .indexAddr t (.tmp sl) ix) (hu : P.underlying t = some (.array n e)) (hm : szT P e = some m) {i' : Opd} (hi : trO ix = some i')
    (r : Rel bl H W N s a w) (hd : ∀ x, o.dst = some x → x < N) (hK : (It.iab sl k n m i').step P o.dst s K) : o.wpIn (Wd ρ) 0 P a w (Nx H W N K) Q := by
  obtain ⟨vs, off, cs, hv, hp, hx, hs⟩ := step_ptr (e := sl) (k := k) rfl hK
  obtain ⟨v, h1, rfl⟩ := evs1 hv
  have e2 := ev_tr r hi h1
  have e1 : a.eval (.tmp sl) = .pointer (some ⟨bl k, off, none⟩) := by
    have := r.pt sl k off hp
    simp [Act.eval, this]
  cases v with
  | int kk j =>
    have hs' : 0 ≤ j ∧ j < n ∧ K ((Ef.ptr o.dst k (off + j.toNat * m)).ap s) := hs
    obtain ⟨g1, g2, g4⟩ := hs'
    refine fin_val (v := .pointer (some ⟨bl k, off + j.toNat * m, none⟩)) (w' := w) (by simp [hop]) ?_ ⟨_, bl, g4, r.ptr hd k _⟩
    simp only [execOp, hop, e1, e2]
    refine run_v ?_
    simp [Instr.indexAt, asIntOf, run_und hu, g1, g2, run_sz hm, Instr.sureAddr, add_none]
  | _ => exact (hs : False).elim

theorem op_fa {t : TypeId} {x : Operand} {f n : Nat} {fs : Array Field} {fd : Field} (hop : o.op = .fieldAddr t x f) (hu : P.underlying t = some (.struct fs)) (hf : fs[f]? = some fd) (hsz : szT P fd.type = some n) (hn : n ≠ 0)
    {x' : Opd} (hx : trO x = some x') (r : Rel bl H W N s a w) (hd : ∀ x, o.dst = some x → x < N) (hK : (It.fa fd.offset x').step P o.dst s K) : o.wpIn (Wd ρ) 0 P a w (Nx H W N K) Q := by
  obtain ⟨vs, hv, hs⟩ := step_noptr rfl hK
  obtain ⟨u, h3, rfl⟩ := evs1 hv
  have e1 := ev_tr r hx h3
  cases u with
  | pointer p =>
    cases p with
    | none => exact (hs : False).elim
    | some p =>
      refine fin_val (v := .pointer (some (p.add fd.offset))) (w' := w) (by simp [hop]) ?_ (nx_val r hd hs)
      simp only [execOp, hop, e1]
      refine run_v ?_
      simp [Instr.fieldAt, run_und hu, hf, Instr.sureAddr, fieldPlace, run_sz hsz, hn]
  | _ => exact (hs : False).elim

theorem op_fab {t : TypeId} {sl k f n : Nat} {fs : Array Field} {fd : Field} (hop : o.op = .fieldAddr t (.tmp sl) f) (hu : P.underlying t = some (.struct fs)) (hf : fs[f]? = some fd) (hsz : szT P fd.type = some n) (hn : n ≠ 0)
    (r : Rel bl H W N s a w) (hd : ∀ x, o.dst = some x → x < N) (hK : (It.fab sl k fd.offset).step P o.dst s K) : o.wpIn (Wd ρ) 0 P a w (Nx H W N K) Q := by
  obtain ⟨vs, off, cs, hv, hp, hx, hs⟩ := step_ptr (e := sl) (k := k) rfl hK
  cases hv
  have e1 : a.eval (.tmp sl) = .pointer (some ⟨bl k, off, none⟩) := by
    have := r.pt sl k off hp
    simp [Act.eval, this]
  refine fin_val (v := .pointer (some ⟨bl k, off + fd.offset, none⟩)) (w' := w) (by simp [hop]) ?_ ⟨_, bl, hs, r.ptr hd k _⟩
  simp only [execOp, hop, e1]
  refine run_v ?_
  simp [Instr.fieldAt, run_und hu, hf, Instr.sureAddr, fieldPlace, run_sz hsz, hn, add_none]

theorem op_ldb {t : TypeId} {sl k : Nat} {sz : Option Nat} (hop : o.op = .load t (.tmp sl)) (ht : ldT P t = some sz) (r : Rel bl H W N s a w) (hd : ∀ x, o.dst = some x → x < N) (hK : (It.ldb sl k sz).step P o.dst s K) :
    o.wpIn (Wd ρ) 0 P a w (Nx H W N K) Q := by
  obtain ⟨vs, off, cs, hv, hp, hx, hs⟩ := step_ptr (e := sl) (k := k) rfl hK
  cases hv
  have e1 : a.eval (.tmp sl) = .pointer (some ⟨bl k, off, none⟩) := by
    have := r.pt sl k off hp
    simp [Act.eval, this]
  have hs' : (match cld cs off sz with | some v => K ((Ef.val o.dst v).ap s) | none => False) := hs
  split at hs'
  · rename_i v hc
    obtain ⟨⟨T, hT⟩, _, _⟩ := r.bx k cs hx
    refine fin_val (v := v) (w' := w) (by simp [hop]) ?_ (nx_val r hd hs')
    simp only [execOp, hop, e1]
    refine run_v ?_
    simp [Instr.loadAt, Instr.sureAddr, run_ld_row ht hT hc]
  · exact hs'.elim

theorem op_ldh {t : TypeId} {x : Operand} {sz : Option Nat} (hop : o.op = .load t x) (ht : ldT P t = some sz) {x' : Opd} (hx : trO x = some x') (r : Rel bl H W N s a w) (hd : ∀ x, o.dst = some x → x < N) (hK : (It.ldh sz x').step P o.dst s K) :
    o.wpIn (Wd ρ) 0 P a w (Nx H W N K) Q := by
  obtain ⟨vs, hv, hs⟩ := step_noptr rfl hK
  obtain ⟨u, h3, rfl⟩ := evs1 hv
  have e1 := ev_tr r hx h3
  cases u with
  | pointer p =>
    cases p with
    | none => exact (hs : False).elim
    | some p =>
      have hs' : (match hld s.h p sz with | some v => K ((Ef.val o.dst v).ap s) | none => False) := hs
      split at hs'
      · rename_i v hc
        refine fin_val (v := v) (w' := w) (by simp [hop]) ?_ (nx_val r hd hs')
        simp only [execOp, hop, e1]
        refine run_v ?_
        simp [Instr.loadAt, Instr.sureAddr, run_ld ht r.sub hc]
      · exact hs'.elim
  | _ => exact (hs : False).elim

theorem op_stb {t : TypeId} {sl k n : Nat} {x : Operand} (hop : o.op = .store t (.tmp sl) x) (ht : szT P t = some n) (hdn : o.dst = none) {x' : Opd} (hx : trO x = some x') (hk1 : k < 1000000) (r : Rel bl H W N s a w)
    (hK : (It.stb sl k n x').step P o.dst s K) : o.wpIn (Wd ρ) 0 P a w (Nx H W N K) Q := by
  obtain ⟨vs, off, cs, hv, hp, hxk, hs⟩ := step_ptr (e := sl) (k := k) rfl hK
  obtain ⟨v, h1, rfl⟩ := evs1 hv
  have e2 := ev_tr r hx h1
  have e1 : a.eval (.tmp sl) = .pointer (some ⟨bl k, off, none⟩) := by
    have := r.pt sl k off hp
    simp [Act.eval, this]
  have hs' : (match vcells v with | some vs => vs.length = n ∧ off + n ≤ cs.length ∧ K ((Ef.bx k (setAt cs off vs)).ap s) | none => False) := hs
  split at hs'
  · rename_i vs hc
    obtain ⟨g1, g2, g3⟩ := hs'
    obtain ⟨⟨T, hT⟩, _, _⟩ := r.bx k cs hxk
    refine fin_skip (w' := w.setRow (bl k) (setAt cs off vs).toArray) (by simp [hop]) ?_ ?_
    · simp only [execOp, hop, e1, e2]
      refine run_u ?_
      simp [Instr.storeAt, Instr.sureAddr, run_st_row ht hT hc g1 g2]
    · rw [hdn]
      exact ⟨_, bl, g3, r.store hk1 hxk⟩
  · exact hs'.elim

theorem op_sth {t : TypeId} {n : Nat} {p x : Operand} (hop : o.op = .store t p x) (ht : szT P t = some n) (hdn : o.dst = none) {p' x' : Opd} (hp : trO p = some p') (hx : trO x = some x') (r : Rel bl H W N s a w)
    (hK : (It.sth n p' x').step P o.dst s K) : o.wpIn (Wd ρ) 0 P a w (Nx H W N K) Q := by
  obtain ⟨vs, hv, hs⟩ := step_noptr rfl hK
  obtain ⟨u, v, h1, h2, rfl⟩ := evs2 hv
  have e1 := ev_tr r hp h1
  have e2 := ev_tr r hx h2
  cases u with
  | pointer q =>
    cases q with
    | none => exact (hs : False).elim
    | some q =>
      have hs' : (match vcells v with | some vs => vs.length = n ∧ (match hst s.h q vs with | some h' => K ((Ef.val none undef).ap { s with h := h' }) | none => False) | none => False) := hs
      split at hs'
      · rename_i vs hc
        obtain ⟨g1, g2⟩ := hs'
        split at g2
        · rename_i h' hh
          obtain ⟨w', hr, hf⟩ := run_st (P := P) ht r.sub hc g1 hh
          refine fin_skip (w' := w') (by simp [hop]) ?_ ?_
          · simp only [execOp, hop, e1, e2]
            refine run_u ?_
            simp [Instr.storeAt, Instr.sureAddr, hr]
          · rw [hdn]
            exact ⟨_, bl, g2, r.heap hf⟩
        · exact g2.elim
      · exact hs'.elim
  | _ => exact (hs : False).elim

theorem op_new {t : TypeId} {d : Nat} {zs : List Opd} (hop : o.op = .alloc t) (hz : zeroOf P t = some zs) (hdd : o.dst = some d) (r : Rel bl H W N s a w) (hd : ∀ x, o.dst = some x → x < N) (hK : (It.new zs).step P o.dst s K) :
    o.wpIn (Wd ρ) 0 P a w (Nx H W N K) Q := by
  obtain ⟨vs, hv, hs⟩ := step_noptr rfl hK
  cases hv
  obtain ⟨i, z, hi, hz1, hz2, hz3⟩ := zero_run hz w
  have hs' : K ((Ef.new d (consts zs)).ap s) := by rw [hdd] at hs; exact hs
  refine fin_val (v := .pointer (some ⟨w.heap.size, 0, none⟩)) (w' := w.alloc (.cells (consts zs).toArray t)) (by simp [hop]) ?_ ?_
  · simp only [execOp, hop]
    refine run_v ?_
    simp [Instr.alloc, hz3, newVar, newRow, ← hz2]
  · rw [hdd]
    exact ⟨_, _, hs', r.new (hd d hdd) _ t⟩

theorem op_newp {t : TypeId} {zs : List Opd} (hop : o.op = .alloc t) (hz : zeroOf P t = some zs) (r : Rel bl H W N s a w) (hd : ∀ x, o.dst = some x → x < N) (hK : (It.newp zs).step P o.dst s K) :
    o.wpIn (Wd ρ) 0 P a w (Nx H W N K) Q := by
  obtain ⟨vs, hv, hs⟩ := step_noptr rfl hK
  cases hv
  obtain ⟨i, z, hi, hz1, hz2, hz3⟩ := zero_run hz w
  have hs' := (hs : ∀ b, s.h b = none → K ((Ef.val o.dst (.pointer (some ⟨b, 0, none⟩))).ap { s with h := s.h.up b ⟨consts zs, true⟩ })) w.heap.size (Fr.new_none r.sub)
  refine fin_val (v := .pointer (some ⟨w.heap.size, 0, none⟩)) (w' := w.alloc (.cells (consts zs).toArray t)) (by simp [hop]) ?_ (nx_heap r hd (Fr.alloc r.sub _ t) hs')
  simp only [execOp, hop]
  refine run_v ?_
  simp [Instr.alloc, hz3, newVar, newRow, ← hz2]

theorem op_box {t : TypeId} {x : Operand} {d n : Nat} (hop : o.op = .box t x) {x' : Opd} (hx : trO x = some x') (hdd : o.dst = some d) (r : Rel bl H W N s a w) (hd : ∀ x, o.dst = some x → x < N) (hK : (It.box n x').step P o.dst s K) :
    o.wpIn (Wd ρ) 0 P a w (Nx H W N K) Q := by
  obtain ⟨vs, hv, hs⟩ := step_noptr rfl hK
  obtain ⟨u, h3, rfl⟩ := evs1 hv
  have e1 := ev_tr r hx h3
  have hs' : (match (some d : Option Nat), vcells u with | some d, some vs => vs.length = n ∧ K ((Ef.new d vs).ap s) | _, _ => False) := by rw [hdd] at hs; exact hs
  split at hs'
  · rename_i d' vs h0 hc
    cases h0
    obtain ⟨g1, g2⟩ := vcells_spec hc
    refine fin_val (v := .pointer (some ⟨w.heap.size, 0, none⟩)) (w' := w.alloc (.cells vs.toArray t)) (by simp [hop]) ?_ ?_
    · simp only [execOp, hop, e1]
      refine run_v ?_
      simp [Instr.box, newVar, newRow, ← g1]
    · rw [hdd]
      exact ⟨_, _, hs'.2, r.new (hd d hdd) _ t⟩
  · exact hs'.elim

theorem op_boxp {t : TypeId} {x : Operand} {n : Nat} (hop : o.op = .box t x) {x' : Opd} (hx : trO x = some x') (r : Rel bl H W N s a w) (hd : ∀ x, o.dst = some x → x < N) (hK : (It.boxp n x').step P o.dst s K) :
    o.wpIn (Wd ρ) 0 P a w (Nx H W N K) Q := by
  obtain ⟨vs, hv, hs⟩ := step_noptr rfl hK
  obtain ⟨u, h3, rfl⟩ := evs1 hv
  have e1 := ev_tr r hx h3
  have hs' : (match vcells u with | some vs => vs.length = n ∧ ∀ b, s.h b = none → K ((Ef.val o.dst (.pointer (some ⟨b, 0, none⟩))).ap { s with h := s.h.up b ⟨vs, true⟩ }) | none => False) := hs
  split at hs'
  · rename_i vs hc
    obtain ⟨g1, g2⟩ := vcells_spec hc
    refine fin_val (v := .pointer (some ⟨w.heap.size, 0, none⟩)) (w' := w.alloc (.cells vs.toArray t)) (by simp [hop]) ?_ (nx_heap r hd (Fr.alloc r.sub _ t) (hs'.2 _ (Fr.new_none r.sub)))
    simp only [execOp, hop, e1]
    refine run_v ?_
    simp [Instr.box, newVar, newRow, ← g1]
  · exact hs'.elim

theorem op_mk {t e : TypeId} {x y : Operand} {i : TypeInfo} {zs : List Opd} (hop : o.op = .makeSlice t x y) (hu : P.underlying t = some (.slice e)) (hi : P.info? e = some i) (hz : zeroOf P e = some zs) (hn : i.size = zs.length)
    {x' y' : Opd} (hx : trO x = some x') (hy : trO y = some y') (r : Rel bl H W N s a w) (hd : ∀ x, o.dst = some x → x < N) (hK : (It.mk zs i.bytes x' y').step P o.dst s K) : o.wpIn (Wd ρ) 0 P a w (Nx H W N K) Q := by
  obtain ⟨vs, hv, hs⟩ := step_noptr rfl hK
  obtain ⟨u, v, h1, h2, rfl⟩ := evs2 hv
  have e1 := ev_tr r hx h1
  have e2 := ev_tr r hy h2
  obtain ⟨i', z, hi', hz1, hz2, hz3⟩ := zero_run hz w
  rw [hi] at hi'
  cases hi'
  cases u with
  | int k n =>
    cases k with
    | i64 =>
      cases v with
      | int k c =>
        cases k with
        | i64 =>
          have hs' : 0 ≤ n ∧ n ≤ c ∧ i.bytes * c ≤ 281474976710656 ∧ c < 9223372036854775808 ∧ ∀ b, s.h b = none →
              K ((Ef.val o.dst (.slice (some ⟨b, 0, none⟩) n.toNat c.toNat)).ap { s with h := s.h.up b ⟨mkCells (consts zs) (c.toNat * zs.length), true⟩ }) := hs
          obtain ⟨g1, g2, g3, g4, g5⟩ := hs'
          have hrun := run_make (P := P) w t e i z hu hi hz1 .i64 .i64 n c g1 g2 g3 (by omega)
          have hcells : madeCells z.cells (c.toNat * i.size) = (mkCells (consts zs) (c.toNat * zs.length)).toArray := by
            apply Array.ext'
            rw [← hz2, ← hn]
            exact mk_cells _ _
          rw [hcells] at hrun
          refine fin_val (v := .slice (some ⟨w.heap.size, 0, none⟩) n.toNat c.toNat) (w' := w.alloc (.cells (mkCells (consts zs) (c.toNat * zs.length)).toArray e)) (by simp [hop]) ?_ (nx_heap r hd (Fr.alloc r.sub _ e) (g5 _ (Fr.new_none r.sub)))
          simp only [execOp, hop, e1, e2]
          exact run_v hrun
        | _ => exact (hs : False).elim
      | _ => exact (hs : False).elim
    | _ => exact (hs : False).elim
  | _ => exact (hs : False).elim

end
end Go.Proofs.Ytmfafadchpglgaa

/- The calculus, part 10: slices, literals, append, copy. No program's text. -/
namespace Go.Proofs.Ytmfafadchpglgaa
open Go.RowKit

section
variable {P : Env} {RM : List (Nat × Nat)} {ρ : Option Nat} {bl : Nat → Nat} {H : Hp} {W : World} {N : Nat} {s : St} {a : Act} {w : World} {o : Oper} {K : St → Prop} {Q : Exit → Act → World → Prop}

theorem evs_append {s : St} : ∀ {l r : List Opd} {vs : List Value}, s.evs (l ++ r) = some vs → ∃ a b, s.evs l = some a ∧ s.evs r = some b ∧ vs = a ++ b
  | [], r, vs, h => ⟨[], vs, rfl, h, rfl⟩
  | x :: l, r, vs, h => by
    obtain ⟨v, vs', h1, h2, rfl⟩ := evsC (show s.evs (x :: (l ++ r)) = some vs from h)
    obtain ⟨a, b, h3, h4, rfl⟩ := evs_append h2
    exact ⟨v :: a, b, by simp [St.evs, h1, h3], h4, rfl⟩

/-- An operand that may be missing, with what it comes to. -/
theorem opt_tr (r : Rel bl H W N s a w) {lo : Option Operand} {lo' : Option Opd} (h : trOpt lo = some lo') {us rest : List Value} (e : s.evs lo'.toList = some us) {dflt n : Int} {out : List Value} (hi : optI lo' (us ++ rest) dflt = some (n, out)) :
    out = rest ∧ (lo = none ∧ lo' = none ∧ n = dflt ∨ ∃ x k, lo = some x ∧ lo'.isSome = true ∧ a.eval x = .int k n) := by
  cases lo with
  | none =>
    cases h
    cases e
    simp only [optI] at hi
    cases hi
    exact ⟨rfl, Or.inl ⟨rfl, rfl, rfl⟩⟩
  | some x =>
    simp only [trOpt] at h
    cases hx : trO x with
    | none => rw [hx] at h; cases h
    | some y =>
      rw [hx] at h
      cases h
      obtain ⟨v, h1, rfl⟩ := evs1 (show s.evs [y] = some us from e)
      cases v with
      | int k m =>
        simp only [optI, List.cons_append, List.nil_append] at hi
        cases hi
        exact ⟨rfl, Or.inr ⟨x, k, rfl, rfl, ev_tr r hx h1⟩⟩
      | _ => simp [optI] at hi

theorem op_sl {t e : TypeId} {x : Operand} {lo hi mx : Option Operand} {n : Nat} (hop : o.op = .slice t x lo hi mx) (hu : P.underlying t = some (.slice e)) (hm : szT P e = some n)
    {x' : Opd} {lo' hi' mx' : Option Opd} (hx : trO x = some x') (hlo : trOpt lo = some lo') (hhi : trOpt hi = some hi') (hmx : trOpt mx = some mx') (hmh : ¬ (mx'.isSome = true ∧ hi'.isSome = false))
    (r : Rel bl H W N s a w) (hd : ∀ x, o.dst = some x → x < N) (hK : (It.sl n x' lo' hi' mx').step P o.dst s K) : o.wpIn (Wd ρ) 0 P a w (Nx H W N K) Q := by
  obtain ⟨vs, hv, hs⟩ := step_noptr rfl hK
  obtain ⟨u, vs', h1, h2, rfl⟩ := evsC (show s.evs (x' :: (lo'.toList ++ hi'.toList ++ mx'.toList)) = some vs from hv)
  have e1 := ev_tr r hx h1
  obtain ⟨v12, v3, h12, h3, rfl⟩ := evs_append h2
  obtain ⟨v1, v2, g1, g2, rfl⟩ := evs_append h12
  cases u with
  | slice p len cp =>
    have hs' : (match optI lo' (v1 ++ v2 ++ v3) 0 with
     | some (l, r1) =>
       (match optI hi' r1 len with
        | some (hh, r2) =>
          (match optI mx' r2 cp with
           | some (m, _) => 0 ≤ l ∧ l ≤ hh ∧ hh ≤ m ∧ m ≤ cp ∧ K ((Ef.val o.dst (.slice (sliceA p l m n) (hh - l).toNat (m - l).toNat)).ap s)
           | none => False)
        | none => False)
     | none => False) := hs
    split at hs'
    · rename_i l r1 hl
      split at hs'
      · rename_i hh r2 hhh
        split at hs'
        · rename_i m r3 hmm
          obtain ⟨q1, q2, q3, q4, q5⟩ := hs'
          rw [List.append_assoc] at hl
          obtain ⟨rfl, cl⟩ := opt_tr r hlo g1 hl
          obtain ⟨rfl, ch⟩ := opt_tr r hhi g2 hhh
          have hmm' : optI mx' (r2 ++ []) cp = some (m, r3) := by simpa using hmm
          obtain ⟨_, cm⟩ := opt_tr r hmx h3 hmm'
          refine fin_val (v := .slice (sliceA p l m n) (hh - l).toNat (m - l).toNat) (w' := w) (by simp [hop]) ?_ (nx_val r hd q5)
          simp only [execOp, hop, e1]
          refine run_v ?_
          have hb : (Instr.sliceBounds true len cp (lo.map a.eval) (hi.map a.eval) (mx.map a.eval)).run P w = .ok (l.toNat, hh.toNat, m.toNat) w := by
            unfold Instr.sliceBounds
            rcases cm with ⟨rfl, rfl, rfl⟩ | ⟨xm, km, rfl, em', em⟩
            · rcases ch with ⟨rfl, rfl, rfl⟩ | ⟨xh, kh, rfl, _, eh⟩
              · rcases cl with ⟨rfl, rfl, rfl⟩ | ⟨xl, kl, rfl, _, el⟩
                · simp
                · simp [el, run_sliceBound w kl l len .sliceB q1 q2]
              · rcases cl with ⟨rfl, rfl, rfl⟩ | ⟨xl, kl, rfl, _, el⟩
                · simp [eh, run_sliceBound w kh hh cp .sliceAcap (by omega) q3]
                · simp [eh, el, run_sliceBound w kh hh cp .sliceAcap (by omega) q3, run_sliceBound w kl l hh.toNat .sliceB q1 (by omega)]
            · rcases ch with ⟨rfl, rfl, rfl⟩ | ⟨xh, kh, rfl, _, eh⟩
              · exact absurd ⟨em', rfl⟩ hmh
              · rcases cl with ⟨rfl, rfl, rfl⟩ | ⟨xl, kl, rfl, _, el⟩
                · simp [em, eh, run_sliceBound w km m cp .slice3Acap (by omega) q4, run_sliceBound w kh hh m.toNat .slice3B (by omega) (by omega)]
                · simp [em, eh, el, run_sliceBound w km m cp .slice3Acap (by omega) q4, run_sliceBound w kh hh m.toNat .slice3B (by omega) (by omega), run_sliceBound w kl l hh.toNat .slice3C q1 (by omega)]
          have hml : (m.toNat = l.toNat) ↔ (m = l) := by omega
          simp only [Instr.sliceAt, Instr.slice, Sem.run_bind, run_und hu, Result.andThen_ok, hb, run_sz hm, Sem.run_pure, sliceA, hml]
          have z1 : hh.toNat - l.toNat = (hh - l).toNat := by omega
          have z2 : m.toNat - l.toNat = (m - l).toNat := by omega
          rw [z1, z2]
        · exact hs'.elim
      · exact hs'.elim
    · exact hs'.elim
  | _ => exact (hs : False).elim

theorem run_mapM {α β : Type} {f : α → Sem β} {g : α → β} : ∀ (l : List α), (∀ x ∈ l, (f x).run P w = .ok (g x) w) → (l.mapM f).run P w = .ok (l.map g) w
  | [], _ => by simp
  | x :: l, h => by
    have h1 := h x (by simp)
    have h2 := run_mapM l (fun y hy => h y (by simp [hy]))
    simp [List.mapM_cons, h1, h2]

theorem partsS_spec {fs : Array Field} (r : Rel bl H W N s a w) : ∀ {l : List (Nat × Operand)} {ps : List (Nat × Nat × Opd)} {vs : List Value}, partsS P fs l = some ps → s.evs (ps.map fun q => q.2.2) = some vs →
    ((ps.zip vs).map fun q => (q.1.1, q.1.2.1, q.2)).length = (l.map fun q => (q.1, a.eval q.2)).length ∧
    ∀ (j : Nat) (p : Nat × Nat × Value) (q : Nat × Value), ((ps.zip vs).map fun q => (q.1.1, q.1.2.1, q.2))[j]? = some p → (l.map fun q => (q.1, a.eval q.2))[j]? = some q →
      ∃ f, fs[q.1]? = some f ∧ szT P f.type = some p.2.1 ∧ p.1 = f.offset ∧ p.2.2 = q.2
  | [], ps, vs, h, e => by cases h; cases e; exact ⟨rfl, fun j p q h => by simp at h⟩
  | (i, x) :: l, ps, vs, h, e => by
    simp only [partsS] at h
    split at h
    · rename_i f o' ps' h1 h2 h3
      split at h
      · rename_i n h4
        cases h
        obtain ⟨v, vs', h5, h6, rfl⟩ := evsC e
        obtain ⟨g1, g2⟩ := partsS_spec r h3 h6
        refine ⟨by simpa using g1, fun j p q hp hq => ?_⟩
        cases j with
        | zero =>
          simp at hp hq
          subst hp; subst hq
          exact ⟨f, h1, h4, rfl, (ev_tr r h2 h5).symm⟩
        | succ j => exact g2 j p q (by simpa using hp) (by simpa using hq)
      · cases h
    · cases h

theorem partsA_spec {esz : Nat} (r : Rel bl H W N s a w) : ∀ {l : List (Nat × Operand)} {ps : List (Nat × Nat × Opd)} {vs : List Value}, partsA esz l = some ps → s.evs (ps.map fun q => q.2.2) = some vs →
    ((ps.zip vs).map fun q => (q.1.1, q.1.2.1, q.2)).length = (l.map fun q => (q.1, a.eval q.2)).length ∧
    ∀ (j : Nat) (p : Nat × Nat × Value) (q : Nat × Value), ((ps.zip vs).map fun q => (q.1.1, q.1.2.1, q.2))[j]? = some p → (l.map fun q => (q.1, a.eval q.2))[j]? = some q → p.1 = q.1 * esz ∧ p.2.1 = esz ∧ p.2.2 = q.2
  | [], ps, vs, h, e => by cases h; cases e; exact ⟨rfl, fun j p q h => by simp at h⟩
  | (i, x) :: l, ps, vs, h, e => by
    simp only [partsA] at h
    split at h
    · rename_i o' ps' h2 h3
      cases h
      obtain ⟨v, vs', h5, h6, rfl⟩ := evsC e
      obtain ⟨g1, g2⟩ := partsA_spec r h3 h6
      refine ⟨by simpa using g1, fun j p q hp hq => ?_⟩
      cases j with
      | zero =>
        simp at hp hq
        subst hp; subst hq
        exact ⟨rfl, rfl, (ev_tr r h2 h5).symm⟩
      | succ j => exact g2 j p q (by simpa using hp) (by simpa using hq)
    · cases h

theorem partsL_spec {esz : Nat} (r : Rel bl H W N s a w) : ∀ {l : List (Nat × Operand)} {ps : List (Nat × Opd)} {vs : List Value}, partsL l = some ps → s.evs (ps.map fun q => q.2) = some vs →
    ((ps.zip vs).map fun q => (q.1.1 * esz, esz, q.2)).length = (l.map fun q => (q.1, a.eval q.2)).length ∧
    ∀ (j : Nat) (p : Nat × Nat × Value) (q : Nat × Value), ((ps.zip vs).map fun q => (q.1.1 * esz, esz, q.2))[j]? = some p → (l.map fun q => (q.1, a.eval q.2))[j]? = some q → p.1 = q.1 * esz ∧ p.2.1 = esz ∧ p.2.2 = q.2
  | [], ps, vs, h, e => by cases h; cases e; exact ⟨rfl, fun j p q h => by simp at h⟩
  | (i, x) :: l, ps, vs, h, e => by
    simp only [partsL] at h
    split at h
    · rename_i o' ps' h2 h3
      cases h
      obtain ⟨v, vs', h5, h6, rfl⟩ := evsC e
      obtain ⟨g1, g2⟩ := partsL_spec (esz := esz) r h3 h6
      refine ⟨by simpa using g1, fun j p q hp hq => ?_⟩
      cases j with
      | zero =>
        simp at hp hq
        subst hp; subst hq
        exact ⟨rfl, rfl, (ev_tr r h2 h5).symm⟩
      | succ j => exact g2 j p q (by simpa using hp) (by simpa using hq)
    · cases h

theorem op_bd_struct {t : TypeId} {parts : Array (Nat × Operand)} {fs : Array Field} {zs : List Opd} {ps : List (Nat × Nat × Opd)} (hop : o.op = .build t parts) (hu : P.underlying t = some (.struct fs)) (hz : zeroOf P t = some zs)
    (hall : fs.all (fun f => (szT P f.type).isSome) = true) (hps : partsS P fs parts.toList = some ps) (r : Rel bl H W N s a w) (hd : ∀ x, o.dst = some x → x < N) (hK : (It.bd zs ps).step P o.dst s K) : o.wpIn (Wd ρ) 0 P a w (Nx H W N K) Q := by
  obtain ⟨vs, hv, hs⟩ := step_noptr rfl hK
  obtain ⟨g1, g2⟩ := partsS_spec r hps hv
  obtain ⟨i, z, hi, hz1, hz2, hz3⟩ := zero_run hz w
  have hs' : (match fillC (consts zs) ((ps.zip vs).map fun q => (q.1.1, q.1.2.1, q.2)) with | some cs => K ((Ef.val o.dst (.agg cs.toArray)).ap s) | none => False) := hs
  split at hs'
  · rename_i cs hf
    refine fin_val (v := .agg cs.toArray) (w' := w) (by simp [hop]) ?_ (nx_val r hd hs')
    simp only [execOp, hop]
    refine run_v ?_
    have hmap : (fs.mapM fun f => (do pure (f.offset, ← sizeOf f.type) : Sem (Nat × Nat))).run P w = .ok (fs.map fun f => (f.offset, (szT P f.type).getD 0)) w := by
      rw [Array.mapM_eq_mapM_toList]
      have := run_mapM (P := P) (w := w) (f := fun f : Field => (do pure (f.offset, ← sizeOf f.type) : Sem (Nat × Nat))) (g := fun f => (f.offset, (szT P f.type).getD 0)) fs.toList (fun f hf => by
        have hf' := Array.all_eq_true'.1 hall f (by simpa using hf)
        cases hsz : szT P f.type with
        | none => rw [hsz] at hf'; cases hf'
        | some n => simp [run_sz hsz])
      rw [Sem.run_map, this]
      simp only [Result.andThen_ok]
      congr 1
      apply Array.ext'
      simp
    have hfill := fill_run (place := fun i => (fs.map fun f => (f.offset, (szT P f.type).getD 0))[i]?) (cs := z.cells) g1 (fun j p q hp hq => by
      obtain ⟨f, k1, k2, k3, k4⟩ := g2 j p q hp hq
      exact ⟨by simp [k1, k2, k3], k4⟩) (by rw [hz2]; exact hf)
    simp only [Instr.build, Sem.run_bind, hz3, Result.andThen_ok, run_und hu, hmap, Array.toList_map, hfill, Sem.run_pure]
  · exact hs'.elim

theorem op_bd_array {t e : TypeId} {n m : Nat} {parts : Array (Nat × Operand)} {zs : List Opd} {ps : List (Nat × Nat × Opd)} (hop : o.op = .build t parts) (hu : P.underlying t = some (.array n e)) (hz : zeroOf P t = some zs)
    (hm : szT P e = some m) (hps : partsA m parts.toList = some ps) (r : Rel bl H W N s a w) (hd : ∀ x, o.dst = some x → x < N) (hK : (It.bd zs ps).step P o.dst s K) : o.wpIn (Wd ρ) 0 P a w (Nx H W N K) Q := by
  obtain ⟨vs, hv, hs⟩ := step_noptr rfl hK
  obtain ⟨g1, g2⟩ := partsA_spec r hps hv
  obtain ⟨i, z, hi, hz1, hz2, hz3⟩ := zero_run hz w
  have hs' : (match fillC (consts zs) ((ps.zip vs).map fun q => (q.1.1, q.1.2.1, q.2)) with | some cs => K ((Ef.val o.dst (.agg cs.toArray)).ap s) | none => False) := hs
  split at hs'
  · rename_i cs hf
    refine fin_val (v := .agg cs.toArray) (w' := w) (by simp [hop]) ?_ (nx_val r hd hs')
    simp only [execOp, hop]
    refine run_v ?_
    have hfill := fill_run (place := fun i => some (i * m, m)) (cs := z.cells) g1 (fun j p q hp hq => by
      obtain ⟨k1, k2, k3⟩ := g2 j p q hp hq
      exact ⟨by rw [k1, k2], k3⟩) (by rw [hz2]; exact hf)
    simp only [Instr.build, Sem.run_bind, hz3, Result.andThen_ok, run_und hu, run_sz hm, Array.toList_map, hfill, Sem.run_pure]
  · exact hs'.elim

theorem op_bs {t e : TypeId} {n m : Nat} {parts : Array (Nat × Operand)} {zs : List Opd} {ps : List (Nat × Opd)} (hop : o.op = .buildSlice t n parts) (hu : P.underlying t = some (.slice e)) (hz : zeroOf P e = some zs)
    (hm : szT P e = some m) (hmz : m = zs.length) (hle : n * m ≤ 16777216) (hps : partsL parts.toList = some ps) (r : Rel bl H W N s a w) (hd : ∀ x, o.dst = some x → x < N) (hK : (It.bs zs n m ps).step P o.dst s K) :
    o.wpIn (Wd ρ) 0 P a w (Nx H W N K) Q := by
  obtain ⟨vs, hv, hs⟩ := step_noptr rfl hK
  obtain ⟨g1, g2⟩ := partsL_spec (esz := m) r hps hv
  obtain ⟨i, z, hi, hz1, hz2, hz3⟩ := zero_run hz w
  have hs' : (match fillC (mkCells (consts zs) (n * m)) ((ps.zip vs).map fun q => (q.1.1 * m, m, q.2)) with
     | some cs => ∀ b, s.h b = none → K ((Ef.val o.dst (.slice (some ⟨b, 0, none⟩) n n)).ap { s with h := s.h.up b ⟨cs, true⟩ })
     | none => False) := hs
  split at hs'
  · rename_i cs hf
    refine fin_val (v := .slice (some ⟨w.heap.size, 0, none⟩) n n) (w' := w.alloc (.cells cs.toArray e)) (by simp [hop]) ?_ (nx_heap r hd (Fr.alloc r.sub _ e) (hs' _ (Fr.new_none r.sub)))
    simp only [execOp, hop]
    refine run_v ?_
    have hle' : ¬ (16777216 < n * m) := by omega
    have hcl : ((Array.range (n * m)).map ((if n * m = 0 then #[] else z.cells)[· % (if n * m = 0 then #[] else z.cells).size]!)).toList = mkCells (consts zs) (n * m) := by
      by_cases h0 : n * m = 0
      · simp [h0, mkCells]
      · simp only [h0, if_false]
        rw [← hz2]
        exact mk_cells _ _
    have hfill := fill_run (place := fun i => some (i * m, m)) (cs := (Array.range (n * m)).map ((if n * m = 0 then #[] else z.cells)[· % (if n * m = 0 then #[] else z.cells).size]!)) g1 (fun j p q hp hq => by
      obtain ⟨k1, k2, k3⟩ := g2 j p q hp hq
      exact ⟨by rw [k1, k2], k3⟩) (by rw [hcl]; exact hf)
    simp only [Instr.buildSlice, Sem.run_bind, run_und hu, Result.andThen_ok, run_sz hm]
    rw [if_neg (by simpa using hle')]
    by_cases h0 : n * m = 0
    · simp only [if_pos h0] at hfill ⊢
      simp only [Sem.run_bind, Sem.run_pure, Result.andThen_ok, Array.toList_map, hfill, newRow, run_newObj]
      rfl
    · simp only [if_neg h0] at hfill ⊢
      simp only [Sem.run_bind, hz3, Sem.run_pure, Result.andThen_ok, Array.toList_map, hfill, newRow, run_newObj]
      rfl
  · exact hs'.elim

end
end Go.Proofs.Ytmfafadchpglgaa

/- The calculus, part 11: append and copy; one operation, whatever it is. No program's text. -/
namespace Go.Proofs.Ytmfafadchpglgaa
open Go.RowKit

section
variable {P : Env} {RM : List (Nat × Nat)} {ρ : Option Nat} {bl : Nat → Nat} {H : Hp} {W : World} {N : Nat} {s : St} {a : Act} {w : World} {o : Oper} {K : St → Prop} {Q : Exit → Act → World → Prop}

theorem run_cells {h : Hp} (hs : h.sub w) {ad : Addr} {n : Nat} {v : Value} {ys : List Value} (e : hld h ad (some n) = some v) (hv : vcells v = some ys) :
    (loadCells ad n).run P w = .ok ys.toArray w ∧ (∀ x ∈ ys, x.oneCell' = true) ∧ ys.length = n := by
  obtain ⟨k, off, spot⟩ := ad
  unfold hld at e
  split at e
  · rename_i hsp
    simp only at hsp
    subst hsp
    cases hb : h k with
    | none => simp [hb] at e
    | some b =>
      simp only [hb, Option.bind_some, cld] at e
      obtain ⟨T, fz, hg, _⟩ := Hp.row hs hb
      split at e
      · rename_i hl
        cases e
        obtain ⟨g1, g2⟩ := vcells_spec hv
        simp only [Value.cells] at g1
        subst g1
        have hlen : ((b.cs.drop off).take n).length = n := by simp; omega
        have hc := run_loadCells_list (P := P) w ⟨k, off, none⟩ ((b.cs.drop off).take n) (fun j v hj => by
          rw [add_none, cell_row hg]
          rw [List.getElem?_take] at hj
          split at hj
          · rwa [List.getElem?_drop] at hj
          · cases hj)
        rw [hlen] at hc
        exact ⟨hc, g2, hlen⟩
      · cases e
  · cases e

theorem run_first {h : Hp} (hs : h.sub w) {a' : Option Addr} {m sz l c : Nat} {ys : List Value} (e : firstOf h a' m sz = some ys) :
    (Builtin.firstCells sz m (.slice a' l c)).run P w = .ok ys.toArray w ∧ (∀ x ∈ ys, x.oneCell' = true) ∧ ys.length = m * sz := by
  unfold firstOf at e
  split at e
  · rename_i hm
    subst hm
    cases e
    refine ⟨?_, (fun x hx => (by cases hx)), by simp⟩
    cases a' with
    | none => simp [Builtin.firstCells]
    | some ad => simp [Builtin.firstCells, loadCells, loadCellsFrom]
  · cases a' with
    | none => cases e
    | some ad =>
      simp only at e
      cases hv : hld h ad (some (m * sz)) with
      | none => rw [hv] at e; cases e
      | some v =>
        rw [hv] at e
        simp only [Option.bind_some] at e
        obtain ⟨g1, g2, g3⟩ := run_cells (P := P) hs hv e
        exact ⟨by simpa [Builtin.firstCells] using g1, g2, g3⟩

/-- Appending, whatever the source: 'hrun' says how the builtin goes once the new cells are at hand. -/
theorem app_res {t u ty e : TypeId} {i : TypeInfo} {zs : List Opd} (hu : P.underlying t = some (.slice e)) (hi : P.info? e = some i) (hz : zeroOf P e = some zs)
    {p : Option Addr} {n c m : Nat} {ys : List Value} {xv : Value} (f2 : ∀ x ∈ ys, x.oneCell' = true)
    (hfit : n + m ≤ c → ∀ w', (match p with | none => pure () | some ad => storeCells (ad.add (n * i.size)) ys).run P w = .ok () w' → (Builtin.append_ #[t, u] ty #[.slice p n c, xv]).run P w = .ok (.slice p (n + m) c) w')
    (hgrow : ¬ n + m ≤ c → Builtin.nextslicecap (n + m) c * i.bytes ≤ 281474976710656 → ∀ xs : List Value, (Builtin.firstCells i.size n (.slice p n c)).run P w.drew = .ok xs.toArray w.drew →
      (Builtin.append_ #[t, u] ty #[.slice p n c, xv]).run P w = .ok (.slice (some ⟨w.heap.size, 0, none⟩) (n + m) (grownCap w (n + m) c e))
        (w.drew.alloc (.cells (xs.toArray ++ ys.toArray ++ ((Array.range ((grownCap w (n + m) c e - (n + m)) * zs.length)).map ((consts zs).toArray[· % (consts zs).toArray.size]!))) e)))
    (r : Rel bl H W N s a w) {K : Value → Hp → Prop} (h : appRes s.h p n c m i.size i.bytes zs ys K) :
    ∃ v w' h', (Builtin.append_ #[t, u] ty #[.slice p n c, xv]).run P w = .ok v w' ∧ K v h' ∧ Fr s.h w h' w' := by
  unfold appRes at h
  split at h
  · rename_i hle
    cases p with
    | none =>
      obtain ⟨rfl, rfl, hk⟩ := h
      exact ⟨_, w, s.h, hfit hle w rfl, hk, Fr.refl r.sub⟩
    | some ad =>
      simp only at h
      split at h
      · rename_i h' hh
        obtain ⟨w', hr, hf⟩ := run_stCells (P := P) r.sub f2 hh
        exact ⟨_, w', h', hfit hle w' hr, h, hf⟩
      · exact h.elim
  · rename_i hle
    split at h
    · rename_i xs hxs
      obtain ⟨hcap, hk⟩ := h
      obtain ⟨g1, g2, g3⟩ := run_first (P := P) (w := w.drew) (l := n) (c := c) (h := s.h) r.drew.sub hxs
      have hge : n + m ≤ grownCap w (n + m) c e := grownCap_ge _ _ _ _
      have hrun := hgrow hle hcap xs g1
      have hcells : (xs.toArray ++ ys.toArray ++ ((Array.range ((grownCap w (n + m) c e - (n + m)) * zs.length)).map ((consts zs).toArray[· % (consts zs).toArray.size]!))) = (xs ++ ys ++ mkCells (consts zs) ((grownCap w (n + m) c e - (n + m)) * zs.length)).toArray := by
        apply Array.ext'
        have := mk_cells (consts zs).toArray ((grownCap w (n + m) c e - (n + m)) * zs.length)
        simp only [Array.toList_append, List.append_assoc, this]
      rw [hcells] at hrun
      have hnew := hk w.heap.size (grownCap w (n + m) c e) (Fr.new_none r.sub) hge
      have f : Fr s.h w (s.h.up w.heap.size ⟨xs ++ ys ++ mkCells (consts zs) ((grownCap w (n + m) c e - (n + m)) * zs.length), true⟩) (w.drew.alloc (.cells (xs ++ ys ++ mkCells (consts zs) ((grownCap w (n + m) c e - (n + m)) * zs.length)).toArray e)) :=
        (Fr.drew r.sub).trans (Fr.alloc r.drew.sub _ e)
      exact ⟨_, _, _, hrun, hnew, f⟩
    · exact h.elim

theorem zero_cells {e : TypeId} {zs : List Opd} {z : Value} (hz2 : z.cells.toList = consts zs) (n : Nat) : Builtin.zeroCells z.cells n = (Array.range (n * zs.length)).map ((consts zs).toArray[· % (consts zs).toArray.size]!) := by
  have h : (consts zs).toArray = z.cells := by apply Array.ext'; simp [hz2]
  have hzl : z.cells.size = zs.length := by rw [← Array.length_toList, hz2, length_consts]
  unfold Builtin.zeroCells
  rw [h, hzl]

theorem op_app {t u e d : TypeId} {i : TypeInfo} {zs : List Opd} {x y : Operand} {cl : Call} (hop : o.op = .call cl) (hc : cl.callee = .builtin .append) (hax : cl.args.toList = [x, y]) (hat : cl.argTypes.toList = [t, u])
    (hu : P.underlying t = some (.slice e)) (huu : P.underlying u = some (.slice d)) (hi : P.info? e = some i) (hz : zeroOf P e = some zs) (hby : 0 < i.bytes)
    {x' y' : Opd} (hx : trO x = some x') (hy : trO y = some y') (r : Rel bl H W N s a w) (hd : ∀ x, o.dst = some x → x < N) (hK : (It.app i.size i.bytes zs x' y').step P o.dst s K) : o.wpIn (Wd ρ) 0 P a w (Nx H W N K) Q := by
  obtain ⟨vs, hv, hs⟩ := step_noptr rfl hK
  obtain ⟨uu, vv, h1, h2, rfl⟩ := evs2 hv
  have e1 := ev_tr r hx h1
  have e2 := ev_tr r hy h2
  have ha : cl.args = #[x, y] := by apply Array.ext'; simpa using hax
  have ht : cl.argTypes = #[t, u] := by apply Array.ext'; simpa using hat
  cases uu with
  | slice p n c =>
    cases vv with
    | slice p' m c' =>
      have hs' : (match firstOf s.h p' m i.size with | some ys => appRes s.h p n c m i.size i.bytes zs ys (fun v h' => K ((Ef.val o.dst v).ap { s with h := h' })) | none => False) := hs
      obtain ⟨i', z, hi', hz1, hz2, hz3⟩ := zero_run hz w
      rw [hi] at hi'
      cases hi'
      split at hs'
      · rename_i ys hys
        obtain ⟨f1, f2, f3⟩ := run_first (P := P) (l := m) (c := c') r.sub hys
        obtain ⟨v, w', h', hr, hk, hf⟩ := app_res (P := P) (ty := o.type) (u := u) (xv := .slice p' m c') hu hi hz (p := p) (n := n) (c := c) (m := m) f2
          (fun hle w' hst => by
            cases p with
            | none =>
              have : w' = w := by simp at hst; exact hst.symm
              subst this
              simp [Builtin.append_, run_und hu, run_und huu, sizeOf, typeInfo, hi, Builtin.lenOf, f1, hle]
            | some ad =>
              simp only at hst
              simp [Builtin.append_, run_und hu, run_und huu, sizeOf, typeInfo, hi, Builtin.lenOf, f1, hle, hst])
          (fun hle hcap xs hxs => by
            have f1d := (run_first (P := P) (w := w.drew) (l := m) (c := c') (h := s.h) r.drew.sub hys).1
            have hh : ¬ (281474976710656 < Builtin.nextslicecap (n + m) c * i.bytes) := by omega
            have hb0 : ¬ (i.bytes = 0) := by omega
            rw [← zero_cells (e := e) hz2]
            simp [Builtin.append_, run_und hu, run_und huu, sizeOf, typeInfo, zeroValue, hi, hz1, Builtin.lenOf, hle, hh, hb0, Question.forced, f1d, hxs, newRow, grownCap]
            congr 2
            apply Array.ext'
            simp)
          r hs'
        refine fin_val (v := v) (w' := w') (by simp [hop]) ?_ (nx_heap r hd hf hk)
        simp only [execOp, hop, resolve, hc, ha, ht, List.map_toArray, List.map_cons, List.map_nil, e1, e2, pure_bind, invoke, builtin]
        exact run_v hr
      · exact hs'.elim
    | _ => exact (hs : False).elim
  | _ => exact (hs : False).elim

def stSem (p : Option Addr) (ys : List Value) : Sem Unit := match p with | none => pure () | some ad => storeCells ad ys

theorem op_cpy {t e : TypeId} {ats : List TypeId} {m0 : Nat} {x y : Operand} {cl : Call} (hop : o.op = .call cl) (hc : cl.callee = .builtin .copy) (hax : cl.args.toList = [x, y]) (hat : cl.argTypes.toList = t :: ats)
    (hu : P.underlying t = some (.slice e)) (hm : szT P e = some m0)
    {x' y' : Opd} (hx : trO x = some x') (hy : trO y = some y') (r : Rel bl H W N s a w) (hd : ∀ x, o.dst = some x → x < N) (hK : (It.cpy m0 x' y').step P o.dst s K) : o.wpIn (Wd ρ) 0 P a w (Nx H W N K) Q := by
  obtain ⟨vs, hv, hs⟩ := step_noptr rfl hK
  obtain ⟨uu, vv, h1, h2, rfl⟩ := evs2 hv
  have e1 := ev_tr r hx h1
  have e2 := ev_tr r hy h2
  have ha : cl.args = #[x, y] := by apply Array.ext'; simpa using hax
  have ht : cl.argTypes[0]? = some t := by rw [← Array.getElem?_toList, hat]; rfl
  cases uu with
  | slice p n c =>
    cases vv with
    | slice p' m c' =>
      have hs' : (match firstOf s.h p' (Nat.min m n) m0 with | some ys => cpyRes s.h p (Nat.min m n) ys (fun v h' => K ((Ef.val o.dst v).ap { s with h := h' })) | none => False) := hs
      split at hs'
      · rename_i ys hys
        obtain ⟨f1, f2, f3⟩ := run_first (P := P) (l := m) (c := c') r.sub hys
        have hexec : ∀ w', (stSem p ys).run P w = .ok () w' → (execOp a.eval o).run P w = .ok (.value (.int .i64 (Nat.min m n : Nat))) w' := fun w' hst => by
          simp only [execOp, hop, resolve, hc, ha, List.map_toArray, List.map_cons, List.map_nil, e1, e2, pure_bind, invoke, builtin]
          refine run_v ?_
          cases p with
          | none =>
            have : w' = w := by simp [stSem] at hst; exact hst.symm
            subst this
            simp [Builtin.copy_, ht, run_und hu, run_sz hm, Builtin.lenOf, f1, goInt]
          | some ad =>
            simp only [stSem] at hst
            simp [Builtin.copy_, ht, run_und hu, run_sz hm, Builtin.lenOf, f1, goInt, hst]
        unfold cpyRes at hs'
        cases p with
        | none => exact fin_val (v := .int .i64 (Nat.min m n : Nat)) (w' := w) (by simp [hop]) (hexec w rfl) (nx_val r hd hs'.2)
        | some ad =>
          simp only at hs'
          split at hs'
          · rename_i h' hh
            obtain ⟨w', hr, hf⟩ := run_stCells (P := P) r.sub f2 hh
            exact fin_val (v := .int .i64 (Nat.min m n : Nat)) (w' := w') (by simp [hop]) (hexec w' hr) (nx_heap r hd hf hs')
          · exact hs'.elim
      · exact hs'.elim
    | _ => exact (hs : False).elim
  | _ => exact (hs : False).elim

theorem map_some {α β : Type} {f : α → β} {x : Option α} {y : β} (h : x.map f = some y) : ∃ z, x = some z ∧ f z = y := by
  cases x with
  | none => cases h
  | some z => exact ⟨z, rfl, by simpa using h⟩

theorem boxOf_spec {d : Nat} (_ : boxOf RM d = some d) : True := trivial

/-- **ONE OPERATION.** -/
theorem op_sound [Nonempty (P.ok H W)] {it : It} (htr : trIt P RM o = some it) (r : Rel bl H W N s a w) (hd : ∀ x, o.dst = some x → x < N) (hK : it.step P o.dst s K) : o.wpIn (Wd ρ) 0 P a w (Nx H W N K) Q := by
  unfold trIt at htr
  split at htr
  · rename_i hop
    obtain ⟨y, hx, rfl⟩ := map_some htr
    exact op_mov (Or.inl hop) hx r hd hK
  · rename_i hop
    obtain ⟨y, hx, rfl⟩ := map_some htr
    exact op_mov (Or.inr hop) hx r hd hK
  · rename_i hop
    split at htr
    · rename_i h1 h2 h3; cases htr; exact op_pick hop h1 h2 h3 r hd hK
    · cases htr
  · rename_i hop
    split at htr
    · rename_i z d hz hdd
      cases htr
      split at hK
      · exact op_new hop hz hdd r hd hK
      · exact op_newp hop hz r hd hK
    · cases htr
  · rename_i hop
    split at htr
    · rename_i n x d hn hx hdd
      cases htr
      split at hK
      · exact op_box hop hx hdd r hd hK
      · exact op_boxp hop hx r hd hK
    · cases htr
  · rename_i hop
    split at htr
    · rename_i fs z hu hz
      split at htr
      · rename_i hall
        obtain ⟨ps, hps, rfl⟩ := map_some htr
        exact op_bd_struct hop hu hz hall hps r hd hK
      · cases htr
    · rename_i n e z hu hz
      split at htr
      · rename_i m hm
        obtain ⟨ps, hps, rfl⟩ := map_some htr
        exact op_bd_array hop hu hz hm hps r hd hK
      · cases htr
    · cases htr
  · rename_i hop
    split at htr
    · rename_i e hu
      split at htr
      · rename_i m z qs hm hz hqs
        split at htr
        · rename_i hc; cases htr; exact op_bs hop hu hz hm hc.1 hc.2 hqs r hd hK
        · cases htr
      · cases htr
    · cases htr
  · rename_i hop
    split at htr
    · rename_i sz hsz
      cases htr
      split at hK
      · exact op_ldb hop hsz r hd hK
      · exact op_ldh hop hsz rfl r hd hK
    · cases htr
  · rename_i hop
    split at htr
    · rename_i n x hn hx hdn
      split at htr
      · split at htr
        · rename_i hk1; cases htr; exact op_stb hop hn hdn hx hk1 r hK
        · cases htr
      · cases htr; exact op_sth hop hn hdn rfl hx r hK
    · cases htr
  · rename_i hop
    obtain ⟨y, hx, rfl⟩ := map_some htr
    exact op_nilck hop hx r hd hK
  · rename_i op xt x y yt hop
    split at htr
    · rename_i k x' y' hu hx hy; cases htr; exact op_bin hop hx hy r hd hK
    · rename_i x' y' hu hx hy
      split at htr
      · cases htr; exact op_beq hop hu (Or.inl rfl) hx hy r hd hK
      · cases htr; exact op_beq hop hu (Or.inr rfl) hx hy r hd hK
      · cases htr
    · cases htr
  · rename_i hop
    obtain ⟨y, hx, rfl⟩ := map_some htr
    exact op_un hop hx r hd hK
  · rename_i hop
    split at htr
    · rename_i sd k x' h1 h2 hx; cases htr; exact op_cv hop h1 h2 hx r hd hK
    · cases htr
  · rename_i hop
    split at htr
    · rename_i hf
      obtain ⟨y, hx, rfl⟩ := map_some htr
      exact op_mkf hop hf hx r hd hK
    · cases htr
  · rename_i hop
    split at htr
    · rename_i e l c hu hl hc
      split at htr
      · rename_i i z hi hz
        split at htr
        · rename_i hn; cases htr; exact op_mk hop hu hi hz hn hl hc r hd hK
        · cases htr
      · cases htr
    · cases htr
  · rename_i hop
    split at htr
    · rename_i e x' lo' hi' mx' hu hx hlo hhi hmx
      split at htr
      · cases htr
      · rename_i hmh
        split at htr
        · rename_i n hn; cases htr; exact op_sl hop hu hn hx hlo hhi hmx hmh r hd hK
        · cases htr
    · cases htr
  · rename_i hop
    split at htr
    · rename_i fs hu
      split at htr
      · rename_i fd hf
        split at htr
        · rename_i n hn
          split at htr
          · cases htr
          · rename_i hn0
            cases htr
            split at hK
            · exact op_fab hop hu hf hn hn0 r hd hK
            · exact op_fa hop hu hf hn hn0 rfl r hd hK
        · cases htr
      · cases htr
    · cases htr
  · rename_i hop
    split at htr
    · rename_i fs x' hu hx
      split at htr
      · rename_i fd hf
        obtain ⟨sz, hsz, rfl⟩ := map_some htr
        exact op_fld hop hu hf hsz hx r hd hK
      · cases htr
    · cases htr
  · rename_i hop
    split at htr
    · rename_i e ix' hu hix
      split at htr
      · rename_i n x' hn hx; cases htr; exact op_ia hop hu hn hx hix r hd hK
      · cases htr
    · rename_i n e ix' hu hix
      split at htr
      · rename_i sl m hm
        split at htr
        · rename_i k hk; cases htr; exact op_iab hop hu hm hix r hd hK
        · cases htr
      · cases htr
    · cases htr
  · rename_i hop
    split at htr
    · rename_i n e x' ix' hu hx hix
      split at htr
      · rename_i m sz hm hsz; cases htr; exact op_ix hop hu hm hsz hx hix r hd hK
      · cases htr
    · cases htr
  · rename_i hop
    obtain ⟨y, hx, rfl⟩ := map_some htr
    exact op_ext hop hx r hd hK
  · rename_i c hop
    split at htr
    · rename_i it' hc
      cases htr
      unfold trCall at hc
      split at hc
      · rename_i f hcal
        split at hc
        · rename_i fo as hf has; cases hc; exact op_call hop hcal hf has r hd hK
        · cases hc
      · cases hc
    · unfold trBuiltin at htr
      split at htr
      · rename_i x t hcal hax hat
        split at htr
        · rename_i e x' hu hx; cases htr; exact op_len hop hcal hax hat hu hx r hd hK
        · cases htr
      · rename_i x y hcal hax
        split at htr
        · rename_i x' y' hx hy; cases htr; exact op_mnmx (mx := true) hop hcal hax hx hy r hd hK
        · cases htr
      · rename_i x y hcal hax
        split at htr
        · rename_i x' y' hx hy; cases htr; exact op_mnmx (mx := false) hop hcal hax hx hy r hd hK
        · cases htr
      · rename_i x y t u hcal hax hat
        split at htr
        · rename_i e d x' y' hu huu hx hy
          split at htr
          · rename_i i z hi hz
            split at htr
            · rename_i hn; cases htr; exact op_app hop hcal hax hat hu huu hi hz hn.2 hx hy r hd hK
            · cases htr
          · cases htr
        · cases htr
      · rename_i x y t ats hcal hax hat
        split at htr
        · rename_i e x' y' hu hx hy
          split at htr
          · rename_i n hn; cases htr; exact op_cpy hop hcal hax hat hu hn hx hy r hd hK
          · cases htr
        · cases htr
      · cases htr
  · cases htr

end
end Go.Proofs.Ytmfafadchpglgaa
