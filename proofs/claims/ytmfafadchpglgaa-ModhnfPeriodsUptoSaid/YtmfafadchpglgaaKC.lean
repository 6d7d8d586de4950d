import Derived.Test.YtmfafadchpglgaaKB
import Derived.IntWalk
import Derived.Test.YtmfafadchpglgaaProg
import Derived.KernelRfl
import Derived.Laws.Externs
import Derived.Lib.Strings
import Derived.Lib.Slices
import Derived.Lib.Small
import Derived.Lib.Walk
import Derived.Lib.BitFns
import Derived.Lib.Mul64
import Derived.Shelf.Sort.So_math_bits_Len64In
import Derived.Laws.Bits64b

/- Words and the numbers that they make: plain lists. -/
namespace Go.Proofs.Ytmfafadchpglgaa

abbrev B : Nat := 18446744073709551616

/-- The number that words make. -/
def vl : List Nat → Nat
  | [] => 0
  | w :: r => w + B * vl r

/-- How many words there are up to the highest that is not zero. -/
def sz : List Nat → Nat
  | [] => 0
  | w :: r => if sz r = 0 then (if w = 0 then 0 else 1) else sz r + 1

theorem sz_le : ∀ ws : List Nat, sz ws ≤ ws.length
  | [] => Nat.le_refl _
  | w :: r => by
    have := sz_le r
    simp only [sz, List.length_cons]
    split
    · split <;> omega
    · omega

theorem sz_zero : ∀ (ws : List Nat) (i : Nat), sz ws ≤ i → ws.getD i 0 = 0
  | [], i, _ => by simp
  | w :: r, i, h => by
    simp only [sz] at h
    cases i with
    | zero =>
      split at h
      · split at h
        · simp [*]
        · omega
      · omega
    | succ i =>
      have : sz r ≤ i := by
        split at h
        · omega
        · omega
      simpa using sz_zero r i this

theorem sz_top : ∀ (ws : List Nat), 0 < sz ws → ws.getD (sz ws - 1) 0 ≠ 0
  | [], h => by simp [sz] at h
  | w :: r, h => by
    simp only [sz] at h ⊢
    split
    · rename_i h0
      rw [if_pos h0] at h
      split
      · rw [if_pos ‹_›] at h; omega
      · simpa using ‹_›
    · rename_i h0
      have := sz_top r (by omega)
      have e : sz r + 1 - 1 = (sz r - 1) + 1 := by omega
      rw [e]
      simpa using this

theorem sz_unique {ws : List Nat} {n : Nat} (h1 : ∀ i, n ≤ i → ws.getD i 0 = 0) (h2 : 0 < n → ws.getD (n - 1) 0 ≠ 0) : n = sz ws := by
  rcases Nat.lt_trichotomy n (sz ws) with h | h | h
  · exact absurd (h1 (sz ws - 1) (by omega)) (sz_top ws (by omega))
  · exact h
  · exact absurd (sz_zero ws (n - 1) (by omega)) (h2 (by omega))

theorem vl_append : ∀ (a b : List Nat), vl (a ++ b) = vl a + B ^ a.length * vl b
  | [], b => by simp [vl]
  | w :: r, b => by
    simp only [List.cons_append, vl, vl_append r b, List.length_cons, Nat.pow_succ]
    rw [Nat.mul_add, Nat.add_assoc, ← Nat.mul_assoc, Nat.mul_comm B (B ^ r.length)]

theorem vl_zero : ∀ {ws : List Nat}, (∀ i, ws.getD i 0 = 0) → vl ws = 0
  | [], _ => rfl
  | w :: r, h => by
    have h0 := h 0
    simp at h0
    have := vl_zero (ws := r) (fun i => by simpa using h (i + 1))
    simp [vl, h0, this]

theorem vl_take_sz (ws : List Nat) : vl (ws.take (sz ws)) = vl ws := by
  have h := vl_append (ws.take (sz ws)) (ws.drop (sz ws))
  rw [List.take_append_drop] at h
  have : vl (ws.drop (sz ws)) = 0 := vl_zero fun i => by
    have := sz_zero ws (sz ws + i) (by omega)
    simpa [List.getD, List.getElem?_drop] using this
  rw [h, this]; simp

theorem vl_lt : ∀ {ws : List Nat}, (∀ w ∈ ws, w < B) → vl ws < B ^ ws.length
  | [], _ => by simp [vl]
  | w :: r, h => by
    have h1 := vl_lt (ws := r) (fun x hx => h x (by simp [hx]))
    have h2 := h w (by simp)
    simp only [vl, List.length_cons, Nat.pow_succ]
    have : B * (vl r + 1) ≤ B * B ^ r.length := Nat.mul_le_mul_left _ h1
    rw [Nat.mul_comm (B ^ r.length) B]
    rw [Nat.mul_add] at this
    omega

theorem vl_ge {ws : List Nat} (h : 0 < sz ws) : B ^ (sz ws - 1) ≤ vl ws := by
  have h1 := vl_append (ws.take (sz ws - 1)) (ws.drop (sz ws - 1))
  rw [List.take_append_drop] at h1
  have hl : (ws.take (sz ws - 1)).length = sz ws - 1 := by
    have := sz_le ws
    simp; omega
  rw [hl] at h1
  have ht := sz_top ws h
  have hlt : sz ws - 1 < ws.length := by have := sz_le ws; omega
  have hd : ws.drop (sz ws - 1) = ws[sz ws - 1] :: ws.drop (sz ws - 1 + 1) := List.drop_eq_getElem_cons hlt
  have h2 : 1 ≤ vl (ws.drop (sz ws - 1)) := by
    rw [hd]
    simp only [vl]
    simp [List.getD, hlt] at ht
    omega
  have : B ^ (sz ws - 1) * 1 ≤ B ^ (sz ws - 1) * vl (ws.drop (sz ws - 1)) := Nat.mul_le_mul_left _ h2
  omega

theorem sz_eq_zero {ws : List Nat} : sz ws = 0 ↔ vl ws = 0 := by
  constructor
  · intro h
    exact vl_zero fun i => sz_zero ws i (by omega)
  · intro h
    rcases Nat.eq_zero_or_pos (sz ws) with h0 | h0
    · exact h0
    · have := vl_ge h0
      have : 0 < B ^ (sz ws - 1) := Nat.pow_pos (by decide)
      omega

theorem vl_inj : ∀ {a b : List Nat}, (∀ w ∈ a, w < B) → (∀ w ∈ b, w < B) → a.length = b.length → vl a = vl b → a = b
  | [], [], _, _, _, _ => rfl
  | [], _ :: _, _, _, h, _ => by simp at h
  | _ :: _, [], _, _, h, _ => by simp at h
  | x :: a, y :: b, ha, hb, hl, hv => by
    have h1 := ha x (by simp)
    have h2 := hb y (by simp)
    simp only [vl] at hv
    have hx : x = y := by
      have := congrArg (· % B) hv
      simp only [Nat.add_mul_mod_self_left, Nat.mod_eq_of_lt h1, Nat.mod_eq_of_lt h2] at this
      exact this
    subst hx
    have h3 : vl a = vl b := Nat.eq_of_mul_eq_mul_left (by decide : 0 < B) (by omega)
    rw [vl_inj (fun w hw => ha w (by simp [hw])) (fun w hw => hb w (by simp [hw])) (by simpa using hl) h3]

/-- The words of a number, the highest not zero. -/
def wd (n : Nat) : List Nat := if h : n = 0 then [] else (n % B) :: wd (n / B)
  termination_by n
  decreasing_by exact Nat.div_lt_self (Nat.pos_of_ne_zero h) (by decide)

theorem wd_zero : wd 0 = [] := by rw [wd]; simp
theorem wd_pos {n : Nat} (h : n ≠ 0) : wd n = (n % B) :: wd (n / B) := by rw [wd]; simp [h]

theorem vl_wd (n : Nat) : vl (wd n) = n := by
  induction n using Nat.strongRecOn with
  | _ n ih =>
    by_cases h : n = 0
    · subst h; rw [wd_zero]; rfl
    · rw [wd_pos h]
      simp only [vl]
      rw [ih (n / B) (Nat.div_lt_self (Nat.pos_of_ne_zero h) (by decide))]
      exact Nat.mod_add_div n B

theorem wd_lt (n : Nat) : ∀ w ∈ wd n, w < B := by
  induction n using Nat.strongRecOn with
  | _ n ih =>
    by_cases h : n = 0
    · subst h; rw [wd_zero]; simp
    · rw [wd_pos h]
      intro w hw
      cases hw with
      | head => exact Nat.mod_lt _ (by decide)
      | tail _ hw => exact ih (n / B) (Nat.div_lt_self (Nat.pos_of_ne_zero h) (by decide)) w hw

theorem sz_wd (n : Nat) : sz (wd n) = (wd n).length := by
  induction n using Nat.strongRecOn with
  | _ n ih =>
    by_cases h : n = 0
    · subst h; rw [wd_zero]; rfl
    · rw [wd_pos h]
      have := ih (n / B) (Nat.div_lt_self (Nat.pos_of_ne_zero h) (by decide))
      simp only [sz, List.length_cons]
      split
      · rename_i h0
        have h1 : (wd (n / B)).length = 0 := by omega
        have h2 : n / B = 0 := by
          have := vl_wd (n / B)
          rw [List.length_eq_zero_iff.1 h1] at this
          exact this.symm
        have h3 : n % B ≠ 0 := by
          have := Nat.mod_add_div n B
          rw [h2] at this
          omega
        rw [if_neg h3, h1]
      · omega

/-- How many words a number has. -/
def wl (n : Nat) : Nat := (wd n).length

theorem wl_lt (n : Nat) : n < B ^ wl n := by
  have := vl_lt (wd_lt n)
  rw [vl_wd] at this
  exact this

theorem wl_le {n k : Nat} (h : n < B ^ k) : wl n ≤ k := by
  rcases Nat.eq_zero_or_pos (wl n) with h0 | h0
  · omega
  · have h1 : 0 < sz (wd n) := by rw [sz_wd]; exact h0
    have h2 := vl_ge h1
    rw [sz_wd, vl_wd] at h2
    have h3 : B ^ ((wd n).length - 1) < B ^ k := Nat.lt_of_le_of_lt h2 h
    have := (Nat.pow_lt_pow_iff_right (by decide : 1 < B)).1 h3
    unfold wl at *
    omega

theorem wl_mono {a b : Nat} (h : a ≤ b) : wl a ≤ wl b := wl_le (Nat.lt_of_le_of_lt h (wl_lt b))

theorem wl_add (a b : Nat) : wl (a + b) ≤ max (wl a) (wl b) + 1 := by
  apply wl_le
  have h1 := wl_lt a
  have h2 := wl_lt b
  have h3 : B ^ wl a ≤ B ^ max (wl a) (wl b) := Nat.pow_le_pow_right (by decide) (Nat.le_max_left _ _)
  have h4 : B ^ wl b ≤ B ^ max (wl a) (wl b) := Nat.pow_le_pow_right (by decide) (Nat.le_max_right _ _)
  rw [Nat.pow_succ]
  have : B ^ max (wl a) (wl b) * 2 ≤ B ^ max (wl a) (wl b) * B := Nat.mul_le_mul_left _ (by decide)
  omega

theorem wl_mul (a b : Nat) : wl (a * b) ≤ wl a + wl b := by
  apply wl_le
  rw [Nat.pow_add]
  exact Nat.mul_lt_mul'' (wl_lt a) (wl_lt b)

theorem wl_vl {ws : List Nat} (h : ∀ w ∈ ws, w < B) : wl (vl ws) ≤ ws.length := wl_le (vl_lt h)

/-- Words without zeros at the end are the number's words. -/
theorem wd_unique {ws : List Nat} (h : ∀ w ∈ ws, w < B) (hs : sz ws = ws.length) : wd (vl ws) = ws := by
  refine vl_inj (wd_lt _) h ?_ (vl_wd _)
  apply Nat.le_antisymm
  · exact wl_vl h
  · rcases Nat.eq_zero_or_pos ws.length with h0 | h0
    · omega
    · have h1 := vl_ge (ws := ws) (by omega)
      have h2 := wl_lt (vl ws)
      have := (Nat.pow_lt_pow_iff_right (by decide : 1 < B)).1 (Nat.lt_of_le_of_lt h1 h2)
      unfold wl at this
      omega

theorem sz_take (ws : List Nat) : sz (ws.take (sz ws)) = sz ws := by
  have hl : sz ws ≤ ws.length := sz_le ws
  refine (sz_unique (fun i hi => ?_) (fun hp => ?_)).symm
  · simp [List.getD, List.getElem?_take, Nat.not_lt.2 hi]
  · have := sz_top ws hp
    have h1 : sz ws - 1 < sz ws := by omega
    simpa [List.getD, List.getElem?_take, h1] using this

theorem take_sz {ws : List Nat} (h : ∀ w ∈ ws, w < B) : ws.take (sz ws) = wd (vl ws) := by
  have h1 : ∀ w ∈ ws.take (sz ws), w < B := fun w hw => h w (List.mem_of_mem_take hw)
  have h2 : sz (ws.take (sz ws)) = (ws.take (sz ws)).length := by
    have := sz_le ws
    rw [sz_take]; simp; omega
  rw [← wd_unique h1 h2, vl_take_sz]

theorem sz_eq_wl {ws : List Nat} (h : ∀ w ∈ ws, w < B) : sz ws = wl (vl ws) := by
  have := take_sz h
  unfold wl
  rw [← this]
  have := sz_le ws
  simp; omega

theorem vl_take_succ (ws : List Nat) (i : Nat) : vl (ws.take (i + 1)) = vl (ws.take i) + B ^ i * ws.getD i 0 := by
  by_cases h : i < ws.length
  · have e : ws.take (i + 1) = ws.take i ++ [ws[i]] := by rw [List.take_succ_eq_append_getElem h]
    rw [e, vl_append]
    have hl : (ws.take i).length = i := by simp; omega
    rw [hl]
    simp [vl, List.getD, h]
  · rw [List.take_of_length_le (by omega), List.take_of_length_le (by omega)]
    simp [List.getD, List.getElem?_eq_none (by omega : ws.length ≤ i)]

theorem vl_take_ge {ws : List Nat} {i : Nat} (h : sz ws ≤ i) : vl (ws.take i) = vl ws := by
  induction i with
  | zero => rw [← vl_take_sz ws]; have : sz ws = 0 := by omega
            rw [this]
  | succ i ih =>
    by_cases h1 : sz ws ≤ i
    · rw [vl_take_succ, ih h1, sz_zero ws i h1]; simp
    · have : sz ws = i + 1 := by omega
      rw [← this, vl_take_sz]

theorem add_step {p q lo c' x y c V PX PY : Nat} (e : lo + q * c' = x + y + c) (hv : V + p * c = PX + PY) : V + p * lo + p * q * c' = (PX + p * x) + (PY + p * y) := by
  have := congrArg (p * ·) e
  simp only [Nat.mul_add] at this
  rw [Nat.mul_assoc]
  omega
theorem sub_step {p q lo c' x y c V PX PY : Nat} (e : lo + y + c = x + q * c') (hv : V + PY = PX + p * c) : V + p * lo + (PY + p * y) = (PX + p * x) + p * q * c' := by
  have := congrArg (p * ·) e
  simp only [Nat.mul_add] at this
  rw [Nat.mul_assoc]
  omega

theorem vl_snoc (zs : List Nat) (z : Nat) : vl (zs ++ [z]) = vl zs + B ^ zs.length * z := by
  rw [vl_append]; simp [vl]

theorem vl_drop (ws : List Nat) (i : Nat) : vl (ws.drop i) = ws.getD i 0 + B * vl (ws.drop (i + 1)) := by
  by_cases h : i < ws.length
  · rw [List.drop_eq_getElem_cons h]
    simp [vl, List.getD, h]
  · rw [List.drop_of_length_le (by omega), List.drop_of_length_le (by omega)]
    simp [vl, List.getD, List.getElem?_eq_none (by omega : ws.length ≤ i)]

theorem vl_split (ws : List Nat) (i : Nat) : vl ws = vl (ws.take i) + B ^ i * vl (ws.drop i) := by
  by_cases h : i ≤ ws.length
  · have := vl_append (ws.take i) (ws.drop i)
    rw [List.take_append_drop, List.length_take, Nat.min_eq_left h] at this
    exact this
  · rw [List.take_of_length_le (by omega), List.drop_of_length_le (by omega)]
    simp [vl]

theorem vl_take_lt {ws : List Nat} (h : ∀ w ∈ ws, w < B) (i : Nat) : vl (ws.take i) < B ^ i :=
  Nat.lt_of_lt_of_le (vl_lt fun w hw => h w (List.mem_of_mem_take hw)) (Nat.pow_le_pow_right (by decide) (by simp; omega))

theorem vl_drop_sz {ws : List Nat} {i : Nat} (h : sz ws ≤ i) : vl (ws.drop i) = 0 := vl_zero fun j => by
  have := sz_zero ws (i + j) (by omega)
  simpa [List.getD, List.getElem?_drop] using this

theorem vl_cmp {xs ys : List Nat} (hx : ∀ w ∈ xs, w < B) (i : Nat) (hd : vl (xs.drop (i + 1)) = vl (ys.drop (i + 1))) (h : xs.getD i 0 < ys.getD i 0) : vl xs < vl ys := by
  rw [vl_split xs i, vl_split ys i, vl_drop xs i, vl_drop ys i, hd]
  have h1 := vl_take_lt hx i
  have h2 : B ^ i * (xs.getD i 0 + 1 + B * vl (ys.drop (i + 1))) ≤ B ^ i * (ys.getD i 0 + B * vl (ys.drop (i + 1))) := Nat.mul_le_mul_left _ (by omega)
  have h3 : B ^ i * (xs.getD i 0 + 1 + B * vl (ys.drop (i + 1))) = B ^ i + B ^ i * (xs.getD i 0 + B * vl (ys.drop (i + 1))) := by
    rw [show xs.getD i 0 + 1 + B * vl (ys.drop (i + 1)) = 1 + (xs.getD i 0 + B * vl (ys.drop (i + 1))) by omega, Nat.mul_add, Nat.mul_one]
  omega

theorem vl_lt_sz {xs ys : List Nat} (hx : ∀ w ∈ xs, w < B) (h : sz xs < sz ys) : vl xs < vl ys := by
  have h1 := vl_take_lt hx (sz xs)
  rw [vl_take_sz] at h1
  have h2 := vl_ge (ws := ys) (by omega)
  have h3 : B ^ sz xs ≤ B ^ (sz ys - 1) := Nat.pow_le_pow_right (by decide) (by omega)
  omega

/-- How two numbers stand to one another. -/
def cmpN (x y : Nat) : Int := if x < y then -1 else if y < x then 1 else 0

end Go.Proofs.Ytmfafadchpglgaa

/- Pieces of memory: slices as lists of values. No program's text. -/
namespace Go.Proofs.Ytmfafadchpglgaa

theorem i64w {n : Int} (h1 : -9223372036854775808 ≤ n) (h2 : n ≤ 9223372036854775807) : IntKind.i64.wrap n = n := IntWalk.i64_in n ⟨h1, h2⟩
theorem u64w {n : Int} (h1 : 0 ≤ n) (h2 : n ≤ 18446744073709551615) : IntKind.u64.wrap n = n := IntWalk.u64_in n ⟨h1, h2⟩

/-- The slice's cells (sz to an element) are vs. -/
structure Seg (h : Hp) (s : Sl) (sz : Nat) (vs : List Value) : Prop where
  len : vs.length = s.n * sz
  mem : vs ≠ [] → ∃ k off b, s.a = some ⟨k, off, none⟩ ∧ h k = some b ∧ off + vs.length ≤ b.cs.length ∧ (b.cs.drop off).take vs.length = vs

theorem Seg.le {h h' : Hp} {s : Sl} {sz : Nat} {vs : List Value} (g : Seg h s sz vs) (hl : h.le h') : Seg h' s sz vs :=
  ⟨g.len, fun hv => let ⟨k, off, b, h1, h2, h3⟩ := g.mem hv; ⟨k, off, b, h1, hl _ _ h2, h3⟩⟩

theorem Seg.nil {h : Hp} {s : Sl} {sz : Nat} (hn : s.n = 0) : Seg h s sz [] := ⟨by simp [hn], fun e => absurd rfl e⟩

theorem Seg.isS {h : Hp} {s : Sl} {sz : Nat} {vs : List Value} (g : Seg h s sz vs) (hv : 0 < vs.length) : s.a.isSome = true := by
  obtain ⟨k, off, b, h1, _⟩ := g.mem (by intro e; simp [e] at hv)
  simp [h1]

theorem elemA_some {k off : Nat} {j : Int} {sz : Nat} : elemA (some ⟨k, off, none⟩) j sz = ⟨k, off + j.toNat * sz, none⟩ := add_none

theorem drop_take_get {cs vs : List Value} {off j : Nat} (h : (cs.drop off).take vs.length = vs) (hj : j < vs.length) : cs[off + j]? = vs[j]? := by
  have := congrArg (fun l => l[j]?) h
  simp only [List.getElem?_take, hj, if_true, List.getElem?_drop] at this
  exact this

/-- One cell. -/
theorem Seg.ld {h : Hp} {s : Sl} {vs : List Value} (g : Seg h s 1 vs) {j : Int} (h0 : 0 ≤ j) (h1 : j < vs.length) : hld h (elemA s.a j 1) none = vs[j.toNat]? := by
  have hj : j.toNat < vs.length := by omega
  obtain ⟨k, off, b, e1, e2, e3, e4⟩ := g.mem (by intro e; simp [e] at hj)
  rw [e1, elemA_some]
  simp only [hld, if_true, e2, Option.bind_some, cld, Nat.mul_one]
  exact drop_take_get e4 hj

/-- An element of sz cells. -/
theorem Seg.lda {h : Hp} {s : Sl} {sz : Nat} {vs : List Value} (g : Seg h s sz vs) (hz : 0 < sz) {j : Int} (h0 : 0 ≤ j) (h1 : j < s.n) : hld h (elemA s.a j sz) (some sz) = some (.agg ((vs.drop (j.toNat * sz)).take sz).toArray) := by
  have hj : j.toNat < s.n := by omega
  have hm : j.toNat * sz + sz ≤ vs.length := by rw [g.len, ← Nat.succ_mul]; exact Nat.mul_le_mul_right _ hj
  obtain ⟨k, off, b, e1, e2, e3, e4⟩ := g.mem (by intro e; simp [e] at hm; omega)
  rw [e1, elemA_some]
  simp only [hld, if_true, e2, Option.bind_some, cld]
  rw [if_pos (by omega)]
  have : ((b.cs.drop (off + j.toNat * sz)).take sz) = ((vs.drop (j.toNat * sz)).take sz) := by
    rw [← e4, List.drop_take, List.take_take, List.drop_drop]
    congr 1
    omega
  rw [this]

/-- A block of one's own, seen as a slice from its first cell on. -/
theorem Seg.blk {h : Hp} {b n c sz : Nat} {cs : List Value} {wr : Bool} {vs : List Value} (hb : h b = some ⟨cs, wr⟩) (hl : vs.length = n * sz) (ht : cs.take vs.length = vs) (hc : vs.length ≤ cs.length) : Seg h ⟨some (blkA b), n, c⟩ sz vs :=
  ⟨hl, fun _ => ⟨b, 0, _, rfl, hb, by simpa using hc, by simpa using ht⟩⟩

theorem hst_blk {h : Hp} {b : Nat} {cs : List Value} {j : Int} {v : Value} (hb : h b = some ⟨cs, true⟩) (h0 : 0 ≤ j) (h1 : j < cs.length) : hst h (elemA (some (blkA b)) j 1) [v] = some (h.up b ⟨cs.set j.toNat v, true⟩) := by
  have hj : j.toNat < cs.length := by omega
  rw [elemA_some]
  simp only [hst, if_true, hb, Nat.zero_add, Nat.mul_one, List.length_singleton]
  rw [if_pos ⟨trivial, by omega⟩]
  congr 3
  simp only [setAt, List.length_singleton]
  rw [List.set_eq_take_append_cons_drop, if_pos hj]
  simp

theorem up_get (h : Hp) (b : Nat) (x : Blk) : h.up b x b = some x := Hp.up_same h b x

/-- A new block is beside all that was there. -/
theorem le_up_of_none {h h' : Hp} {b : Nat} {x : Blk} (hn : h b = none) (hl : h.le h') : h.le (h'.up b x) := fun k y e => by
  have : k ≠ b := fun e' => by subst e'; rw [hn] at e; cases e
  rw [Hp.up_other _ _ this]; exact hl _ _ e

theorem mkCells_one (v : Opd) (z : Value) (hz : consts [v] = [z]) (n : Nat) : mkCells (consts [v]) (n * 1) = List.replicate n z := by
  rw [hz]
  simp [mkCells]
  rw [List.eq_replicate_iff]
  refine ⟨by simp, fun b hb => ?_⟩
  obtain ⟨i, hi, rfl⟩ := List.mem_map.1 hb
  simp [Nat.mod_one]
theorem mkCells1 (z : Value) (n : Nat) : mkCells [z] (n * 1) = List.replicate n z := by
  simp [mkCells]
  rw [List.eq_replicate_iff]
  refine ⟨by simp, fun b hb => ?_⟩
  obtain ⟨i, hi, rfl⟩ := List.mem_map.1 hb
  simp [Nat.mod_one]

theorem hst_at {h : Hp} {b off : Nat} {cs ys : List Value} (hb : h b = some ⟨cs, true⟩) (h1 : off + ys.length ≤ cs.length) : hst h ⟨b, off, none⟩ ys = some (h.up b ⟨setAt cs off ys, true⟩) := by
  simp only [hst, if_true, hb]
  rw [if_pos ⟨trivial, h1⟩]

def one' (vs : List Value) : Prop := ∀ v ∈ vs, v.oneCell' = true

theorem Seg.first {h : Hp} {s : Sl} {sz m : Nat} {vs : List Value} (g : Seg h s sz vs) (hm : m * sz ≤ vs.length) (hz : 0 < sz) (ho : one' vs) : firstOf h s.a m sz = some (vs.take (m * sz)) := by
  unfold firstOf
  by_cases h0 : m = 0
  · subst h0; simp
  · rw [if_neg h0]
    have hp : 0 < m * sz := Nat.mul_pos (Nat.pos_of_ne_zero h0) hz
    obtain ⟨k, off, b, e1, e2, e3, e4⟩ := g.mem (by intro e; simp [e] at hm; omega)
    rw [e1]
    simp only [hld, if_true, e2, Option.bind_some, cld]
    rw [if_pos (by omega)]
    have : (b.cs.drop off).take (m * sz) = vs.take (m * sz) := by
      rw [← e4, List.take_take, Nat.min_eq_left hm]
    rw [this]
    simp only [Option.bind_some, vcells]
    rw [if_pos]
    rw [List.all_eq_true]
    exact fun v hv => ho v (List.mem_of_mem_take hv)

/-! ## Words -/

def uw (x : Nat) : Value := .int .u64 (x : Int)
theorem one_uw (ws : List Nat) : one' (ws.map uw) := by
  intro v hv
  obtain ⟨w, _, rfl⟩ := List.mem_map.1 hv
  rfl

/-- The slice's words, the lowest first. -/
structure Ws (h : Hp) (s : Sl) (ws : List Nat) : Prop where
  seg : Seg h s 1 (ws.map uw)
  lt : ∀ w ∈ ws, w < B
  cap : s.n ≤ s.c

theorem Ws.le {h h' : Hp} {s : Sl} {ws : List Nat} (g : Ws h s ws) (hl : h.le h') : Ws h' s ws := ⟨g.seg.le hl, g.lt, g.cap⟩
theorem Ws.len {h : Hp} {s : Sl} {ws : List Nat} (g : Ws h s ws) : s.n = ws.length := by have := g.seg.len; simp at this; omega
theorem Ws.ld {h : Hp} {s : Sl} {ws : List Nat} (g : Ws h s ws) {j : Int} (h0 : 0 ≤ j) (h1 : j < ws.length) : hld h (elemA s.a j 1) none = some (.int .u64 ((ws.getD j.toNat 0 : Nat) : Int)) := by
  have hj : j.toNat < ws.length := by omega
  rw [g.seg.ld h0 (by simpa using h1)]
  simp [uw, hj]
theorem Ws.isS {h : Hp} {s : Sl} {ws : List Nat} (g : Ws h s ws) (hv : 0 < ws.length) : s.a.isSome = true := g.seg.isS (by simpa using hv)
theorem Ws.getD_lt {h : Hp} {s : Sl} {ws : List Nat} (g : Ws h s ws) (j : Nat) : ws.getD j 0 < B := by
  by_cases hj : j < ws.length
  · simp [List.getD, hj]; exact g.lt _ (List.getElem_mem hj)
  · simp [List.getD, List.getElem?_eq_none (Nat.le_of_not_lt hj)]
theorem Ws.first {h : Hp} {s : Sl} {ws : List Nat} (g : Ws h s ws) {m : Nat} (hm : m ≤ ws.length) : firstOf h s.a m 1 = some ((ws.take m).map uw) := by
  rw [g.seg.first (by simpa using hm) (by decide) (one_uw _)]
  simp [List.map_take]

/-- A slice of new words in a block of their own: nobody saw the block before; its cells may be written. -/
def Own (h h' : Hp) (s : Sl) (ws : List Nat) : Prop :=
  (s = ⟨none, 0, 0⟩ ∧ ws = []) ∨ ∃ (b : Nat) (cs : List Nat), s.a = some (blkA b) ∧ h b = none ∧ h' b = some ⟨cs.map uw, true⟩ ∧ s.n = ws.length ∧ s.c = cs.length ∧ cs.take ws.length = ws ∧ ws.length ≤ cs.length

theorem Own.ws {h h' : Hp} {s : Sl} {ws : List Nat} (o : Own h h' s ws) (hl : ∀ w ∈ ws, w < B) : Ws h' s ws := by
  rcases o with ⟨rfl, rfl⟩ | ⟨b, cs, h1, h2, h3, h4, h5, h6, h7⟩
  · exact ⟨Seg.nil rfl, hl, Nat.le_refl _⟩
  · refine ⟨⟨by simp [h4], fun _ => ⟨b, 0, _, h1, h3, by simpa using h7, ?_⟩⟩, hl, by omega⟩
    simp only [List.drop_zero, List.length_map]
    rw [← List.map_take, h6]
theorem Own.le {h h' h'' : Hp} {s : Sl} {ws : List Nat} (o : Own h h' s ws) (hl : h'.le h'') : Own h h'' s ws := by
  rcases o with o | ⟨b, cs, h1, h2, h3, h4⟩
  · exact Or.inl o
  · exact Or.inr ⟨b, cs, h1, h2, hl _ _ h3, h4⟩
theorem Own.ge {h0 h h' : Hp} {s : Sl} {ws : List Nat} (o : Own h h' s ws) (hl : h0.le h) : Own h0 h' s ws := by
  rcases o with o | ⟨b, cs, h1, h2, h3, h4⟩
  · exact Or.inl o
  · refine Or.inr ⟨b, cs, h1, ?_, h3, h4⟩
    cases e : h0 b with
    | none => rfl
    | some x => rw [hl _ _ e] at h2; cases h2

/-- A new natural in least form. -/
def NatR (h h' : Hp) (s : Sl) (x : Nat) : Prop := Own h h' s (wd x)

theorem NatR.ws {h h' : Hp} {s : Sl} {x : Nat} (o : NatR h h' s x) : Ws h' s (wd x) := Own.ws o (wd_lt x)

theorem sliceA_zero {a : Addr} {m : Int} {sz : Nat} : sliceA (some a) 0 m sz = some a := by
  unfold sliceA
  split
  · rfl
  · simp [Addr.add]

/-- What is left of a new block's words when the zeros at the end are cut off. -/
theorem NatR.trim {h h' : Hp} {b c : Nat} {l : List Nat} (hb : h b = none) (h1 : h' b = some ⟨l.map uw, true⟩) (hl : ∀ w ∈ l, w < B) (hc : c = l.length) : NatR h h' ⟨some (blkA b), sz l, c⟩ (vl l) := by
  have hs := sz_le l
  unfold NatR
  rw [← take_sz hl]
  exact Or.inr ⟨b, l, rfl, hb, h1, by rw [List.length_take]; dsimp only; omega, hc, by rw [List.length_take, Nat.min_eq_left hs], by rw [List.length_take]; omega⟩

theorem Ws.blk {h : Hp} {b c : Nat} {l : List Nat} (h1 : h b = some ⟨l.map uw, true⟩) (hl : ∀ w ∈ l, w < B) (hc : l.length ≤ c) : Ws h ⟨some (blkA b), l.length, c⟩ l :=
  ⟨⟨by simp, fun _ => ⟨b, 0, _, rfl, h1, by simp, by rw [List.drop_zero, List.take_length]⟩⟩, hl, hc⟩

/-- A word is written into a block of words. -/
theorem hst_word {h : Hp} {b : Nat} {cs : List Nat} {j : Int} {x : Nat} (hb : h b = some ⟨cs.map uw, true⟩) (h0 : 0 ≤ j) (h1 : j < cs.length) : hst h (elemA (some (blkA b)) j 1) [.int .u64 (x : Int)] = some (h.up b ⟨(cs.set j.toNat x).map uw, true⟩) := by
  rw [hst_blk hb h0 (by simpa using h1)]
  rw [List.map_set]
  rfl

theorem set_fill {zs : List Nat} {k x : Nat} : (zs ++ List.replicate (k + 1) 0).set zs.length x = (zs ++ [x]) ++ List.replicate k 0 := by
  rw [List.set_append_right _ _ (Nat.le_refl _)]
  simp [List.replicate_succ]

theorem mkZ (n : Nat) : mkCells [.int .u64 0] (n * 1) = (List.replicate n 0).map uw := by
  rw [mkCells1]; simp [uw]

end Go.Proofs.Ytmfafadchpglgaa

/- The program draws the orders that it may. -/
namespace Go.Proofs.Ytmfafadchpglgaa
theorem mixed : Try.prog.follows .mixedOrders = true := by kernel_rfl
end Go.Proofs.Ytmfafadchpglgaa

/- PRINTED BY vcgen.py: code with hints, the formula to show, the theorem; each check by the kernel. -/
namespace Go.Proofs.Ytmfafadchpglgaa

/- trellis/nat.size -/
def d_nat_size : Vd :=
  .seq (.ops [.op 0 ⟨none, some 2, .mov (.i .i64 0)⟩ false (.no)] [0, 2, 3, 15]) (.seq (.ops [.op 0 ⟨none, some 4, .mov (.t 0)⟩ false (.no), .op 1 ⟨none, some 5, .len (.t 4)⟩ false (.no), .op 2 ⟨none, some 3, .mov (.t 5)⟩ false (.no)] [0, 2, 3, 15]) (.seq (.block 0 (.loop ⟨[0], [], []⟩ [.t 3 (.int .i64)] (.seq (.seq (.ops [.op 0 ⟨none, some 6, .mov (.t 3)⟩ false (.no), .op 1 ⟨none, some 7, .bin .gtr (.t 6) (.i .i64 0)⟩ false (.sh (.one .val)), .op 2 ⟨none, some 8, .mov (.t 7)⟩ false (.no), .grp ⟨[0, 3], [], []⟩ [.t 15 (.bool)] [(3, ⟨some (8, true), some 9, .mov (.t 0)⟩, true, .no), (4, ⟨some (8, true), some 10, .mov (.t 3)⟩, false, .no), (5, ⟨some (8, true), some 11, .bin .sub (.t 10) (.i .i64 1)⟩, false, .sh (.one .val)), (6, ⟨some (8, true), some 12, .ia 1 (.t 9) (.t 11)⟩, false, .no), (7, ⟨some (8, true), some 13, .ldh none (.t 12)⟩, false, .sh (.one (.int .u64))), (8, ⟨some (8, true), some 14, .bin .eql (.t 13) (.i .u64 0)⟩, false, .sh (.one .val)), (9, ⟨none, some 15, .pick (.t 8) (.t 14) (.b false)⟩, false, .no)]] [0, 2, 3, 15]) (.cond (.t 15) (.skip) (.exit 0))) (.block 1 (.ops [.op 0 ⟨none, some 16, .mov (.t 3)⟩ false (.no), .op 1 ⟨none, some 17, .bin .sub (.t 16) (.i .i64 1)⟩ false (.sh (.one .val)), .op 2 ⟨none, some 3, .mov (.t 17)⟩ false (.no)] [0, 2, 3, 15]))))) (.seq (.ops [.op 0 ⟨none, some 18, .mov (.t 3)⟩ false (.no), .op 1 ⟨none, some 2, .mov (.t 18)⟩ false (.no)] [0, 2, 3, 15]) (.ret))))
def v_nat_size (a : Sl) (h : Hp) (R : Value → Hp → Prop) : Prop :=
  ∃ I : Int → Hp → Prop, ∃ mu : Int → Hp → Nat, I (a.n : Int) h ∧ (∀ n : Int, ∀ h1 : Hp, I n h1 →
    ∀ J : Bool → Hp → Prop, (∀ x15 : Bool, ∀ h2 : Hp, (
      (x15 = true →
        ∀ n1 : Int, n1 = IntKind.i64.wrap (n - 1) →
        I n1 h2 ∧ mu n1 h2 < mu n h1
      ) ∧ (x15 = false →
        R (.int .i64 n) h2
      )
    ) → J x15 h2) →
    ((decide (0 < n)) = true →
    ∀ x11 : Int, x11 = IntKind.i64.wrap (n - 1) →
    0 ≤ x11 ∧ x11 < (a.n : Int) ∧ a.a.isSome = true ∧
    ∃ x13 : Int, hld h1 (elemA a.a x11 1) none = some (.int .u64 x13) ∧
    J (decide (x13 = 0)) h1
    ) ∧ ((decide (0 < n)) = false →
    J false h1
    )
  )
set_option maxRecDepth 100000 in
theorem t_nat_size {a : Sl} {h : Hp} {R : Value → Hp → Prop} (hv : v_nat_size a h R) : Tri Try.prog (.func (.func 55) #[] #[]) [a.v] h R :=
  tri_of_vc mixed Try.func55 (d := d_nat_size) (RM := []) (rvs := [.tmp 2]) (args := [a.v]) (caps := []) (by kernel_rfl) Try.ntmps55 (V := v_nat_size a h R) (by kernel_rfl) (by simp) hv

/- trellis/nat.own -/
def d_nat_own : Vd :=
  .seq (.ops [.op 0 ⟨none, some 2, .mov (.nil)⟩ false (.no)] [0, 2, 3, 4]) (.seq (.ops [.op 0 ⟨none, some 5, .mov (.t 0)⟩ false (.no), .op 1 ⟨none, some 6, .call false (.f 55) [.t 5]⟩ false (.sh (.one (.int .i64))), .op 2 ⟨none, some 3, .mov (.t 6)⟩ false (.no)] [0, 2, 3, 4]) (.seq (.ops [.op 0 ⟨none, some 7, .mov (.t 3)⟩ false (.no), .op 1 ⟨none, some 8, .mk [.i .u64 0] 8 (.t 7) (.t 7)⟩ false (.sh (.one .val)), .op 2 ⟨none, some 4, .mov (.t 8)⟩ false (.no)] [0, 2, 3, 4]) (.seq (.ops [.op 0 ⟨none, some 9, .mov (.t 4)⟩ false (.no), .op 1 ⟨none, some 10, .mov (.t 0)⟩ false (.no), .op 2 ⟨none, some 11, .cpy 1 (.t 9) (.t 10)⟩ false (.sh (.one (.int .i64)))] [0, 2, 3, 4]) (.seq (.ops [.op 0 ⟨none, some 12, .mov (.t 4)⟩ false (.no), .op 1 ⟨none, some 2, .mov (.t 12)⟩ false (.no)] [0, 2, 3, 4]) (.ret)))))
def v_nat_own (a : Sl) (h : Hp) (R : Value → Hp → Prop) : Prop :=
  Tri Try.prog (.func (.func 55) #[] #[]) [a.v] h fun r h1 => ∃ x6 : Int, r = .int .i64 x6 ∧
  0 ≤ x6 ∧ x6 ≤ x6 ∧ (8 : Nat) * x6 ≤ 281474976710656 ∧ x6 < 9223372036854775808 ∧ ∀ b : Nat, ∀ h2 : Hp, h1 b = none → h2 = h1.up b ⟨mkCells [.int .u64 0] (Int.toNat x6 * 1), true⟩ →
  ∃ ys : List Value, firstOf h2 a.a (Nat.min a.n (Int.toNat x6)) 1 = some ys ∧ cpyRes h2 (some (blkA b)) (Nat.min a.n (Int.toNat x6)) ys fun r1 h3 => ∃ x11 : Int, r1 = .int .i64 x11 ∧
  R (.slice (some (blkA b)) (Int.toNat x6) (Int.toNat x6)) h3
set_option maxRecDepth 100000 in
theorem t_nat_own {a : Sl} {h : Hp} {R : Value → Hp → Prop} (hv : v_nat_own a h R) : Tri Try.prog (.func (.func 62) #[] #[]) [a.v] h R :=
  tri_of_vc mixed Try.func62 (d := d_nat_own) (RM := []) (rvs := [.tmp 2]) (args := [a.v]) (caps := []) (by kernel_rfl) Try.ntmps62 (V := v_nat_own a h R) (by kernel_rfl) (by simp) hv

/- trellis/nat.Least -/
def d_nat_Least : Vd :=
  .seq (.ops [.op 0 ⟨none, some 2, .mov (.nil)⟩ false (.no)] [0, 2]) (.seq (.ops [.op 0 ⟨none, some 3, .mov (.t 0)⟩ false (.no), .op 1 ⟨none, some 4, .call false (.f 62) [.t 3]⟩ false (.sh (.one (.slice))), .op 2 ⟨none, some 2, .mov (.t 4)⟩ false (.no)] [0, 2]) (.ret))
def v_nat_Least (a : Sl) (h : Hp) (R : Value → Hp → Prop) : Prop :=
  Tri Try.prog (.func (.func 62) #[] #[]) [a.v] h fun r h1 => ∃ x4 : Sl, r = x4.v ∧
  R (x4.v) h1
set_option maxRecDepth 100000 in
theorem t_nat_Least {a : Sl} {h : Hp} {R : Value → Hp → Prop} (hv : v_nat_Least a h R) : Tri Try.prog (.func (.func 35) #[] #[]) [a.v] h R :=
  tri_of_vc mixed Try.func35 (d := d_nat_Least) (RM := []) (rvs := [.tmp 2]) (args := [a.v]) (caps := []) (by kernel_rfl) Try.ntmps35 (V := v_nat_Least a h R) (by kernel_rfl) (by simp) hv

/- trellis/nat.Cmp -/
def d_nat_Cmp : Vd :=
  .seq (.ops [.op 0 ⟨none, some 4, .mov (.i .i64 0)⟩ false (.no)] [0, 1, 4, 5, 6, 7, 14, 17, 21, 32, 41]) (.seq (.ops [.op 0 ⟨none, some 8, .mov (.t 0)⟩ false (.no), .op 1 ⟨none, some 9, .call false (.f 55) [.t 8]⟩ false (.sh (.one (.int .i64))), .op 2 ⟨none, some 5, .mov (.t 9)⟩ false (.no)] [0, 1, 4, 5, 6, 7, 14, 17, 21, 32, 41]) (.seq (.seq (.ops [.op 0 ⟨none, some 10, .mov (.t 1)⟩ false (.no), .op 1 ⟨none, some 11, .call false (.f 55) [.t 10]⟩ false (.sh (.one (.int .i64))), .op 2 ⟨none, some 6, .mov (.t 11)⟩ false (.no)] [0, 1, 4, 5, 6, 7, 14, 17, 21, 32, 41]) (.seq (.ops [.op 0 ⟨none, some 12, .mov (.t 5)⟩ false (.no), .op 1 ⟨none, some 13, .mov (.t 6)⟩ false (.no), .op 2 ⟨none, some 14, .bin .neq (.t 12) (.t 13)⟩ false (.sh (.one .val))] [0, 1, 4, 5, 6, 7, 14, 17, 21, 32, 41]) (.cond (.t 14) (.seq (.seq (.ops [.op 0 ⟨none, some 15, .mov (.t 5)⟩ false (.no), .op 1 ⟨none, some 16, .mov (.t 6)⟩ false (.no), .op 2 ⟨none, some 17, .bin .lss (.t 15) (.t 16)⟩ false (.sh (.one .val))] [0, 1, 4, 5, 6, 7, 14, 17, 21, 32, 41]) (.cond (.t 17) (.seq (.ops [.op 0 ⟨none, some 4, .mov (.i .i64 (-1))⟩ false (.no)] [0, 1, 4, 5, 6, 7, 14, 17, 21, 32, 41]) (.ret)) (.skip))) (.seq (.ops [.op 0 ⟨none, some 4, .mov (.i .i64 1)⟩ false (.no)] [0, 1, 4, 5, 6, 7, 14, 17, 21, 32, 41]) (.ret))) (.skip)))) (.seq (.seq (.ops [.op 0 ⟨none, some 18, .mov (.t 5)⟩ false (.no), .op 1 ⟨none, some 19, .bin .sub (.t 18) (.i .i64 1)⟩ false (.sh (.one .val)), .op 2 ⟨none, some 7, .mov (.t 19)⟩ false (.no)] [0, 1, 4, 5, 6, 7, 14, 17, 21, 32, 41]) (.block 0 (.loop ⟨[0, 1], [], []⟩ [.t 7 (.int .i64)] (.seq (.seq (.ops [.op 0 ⟨none, some 20, .mov (.t 7)⟩ false (.no), .op 1 ⟨none, some 21, .bin .geq (.t 20) (.i .i64 0)⟩ false (.sh (.one .val))] [0, 1, 4, 5, 6, 7, 14, 17, 21, 32, 41]) (.cond (.t 21) (.skip) (.exit 0))) (.seq (.block 1 (.seq (.seq (.ops [.op 0 ⟨none, some 24, .mov (.t 0)⟩ false (.no), .op 1 ⟨none, some 25, .mov (.t 7)⟩ false (.no), .op 2 ⟨none, some 26, .ia 1 (.t 24) (.t 25)⟩ false (.no), .op 4 ⟨none, some 28, .mov (.t 1)⟩ false (.no), .op 5 ⟨none, some 29, .mov (.t 7)⟩ false (.no), .op 6 ⟨none, some 30, .ia 1 (.t 28) (.t 29)⟩ false (.no), .op 3 ⟨none, some 27, .ldh none (.t 26)⟩ false (.sh (.one (.int .u64))), .op 7 ⟨none, some 31, .ldh none (.t 30)⟩ false (.sh (.one (.int .u64))), .op 8 ⟨none, some 32, .bin .lss (.t 27) (.t 31)⟩ false (.sh (.one .val))] [0, 1, 4, 5, 6, 7, 14, 17, 21, 32, 41]) (.cond (.t 32) (.seq (.ops [.op 0 ⟨none, some 4, .mov (.i .i64 (-1))⟩ false (.no)] [0, 1, 4, 5, 6, 7, 14, 17, 21, 32, 41]) (.ret)) (.skip))) (.seq (.ops [.op 0 ⟨none, some 33, .mov (.t 0)⟩ false (.no), .op 1 ⟨none, some 34, .mov (.t 7)⟩ false (.no), .op 2 ⟨none, some 35, .ia 1 (.t 33) (.t 34)⟩ false (.no), .op 4 ⟨none, some 37, .mov (.t 1)⟩ false (.no), .op 5 ⟨none, some 38, .mov (.t 7)⟩ false (.no), .op 6 ⟨none, some 39, .ia 1 (.t 37) (.t 38)⟩ false (.no), .op 3 ⟨none, some 36, .ldh none (.t 35)⟩ false (.sh (.one (.int .u64))), .op 7 ⟨none, some 40, .ldh none (.t 39)⟩ false (.sh (.one (.int .u64))), .op 8 ⟨none, some 41, .bin .gtr (.t 36) (.t 40)⟩ false (.sh (.one .val))] [0, 1, 4, 5, 6, 7, 14, 17, 21, 32, 41]) (.cond (.t 41) (.seq (.ops [.op 0 ⟨none, some 4, .mov (.i .i64 1)⟩ false (.no)] [0, 1, 4, 5, 6, 7, 14, 17, 21, 32, 41]) (.ret)) (.skip))))) (.ops [.op 0 ⟨none, some 22, .mov (.t 7)⟩ false (.no), .op 1 ⟨none, some 23, .bin .sub (.t 22) (.i .i64 1)⟩ false (.sh (.one .val)), .op 2 ⟨none, some 7, .mov (.t 23)⟩ false (.no)] [0, 1, 4, 5, 6, 7, 14, 17, 21, 32, 41])))))) (.seq (.ops [.op 0 ⟨none, some 4, .mov (.i .i64 0)⟩ false (.no)] [0, 1, 4, 5, 6, 7, 14, 17, 21, 32, 41]) (.ret)))))
def v_nat_Cmp (a : Sl) (b : Sl) (h : Hp) (R : Value → Hp → Prop) : Prop :=
  Tri Try.prog (.func (.func 55) #[] #[]) [a.v] h fun r h1 => ∃ x9 : Int, r = .int .i64 x9 ∧
  Tri Try.prog (.func (.func 55) #[] #[]) [b.v] h1 fun r1 h2 => ∃ x11 : Int, r1 = .int .i64 x11 ∧
  ((!decide (x9 = x11)) = true →
    ((decide (x9 < x11)) = true →
      R (.int .i64 (-1)) h2
    ) ∧ ((decide (x9 < x11)) = false →
      R (.int .i64 1) h2
    )
  ) ∧ ((!decide (x9 = x11)) = false →
    ∀ i : Int, i = IntKind.i64.wrap (x9 - 1) →
    ∃ I : Int → Hp → Prop, ∃ mu : Int → Hp → Nat, I i h2 ∧ (∀ i1 : Int, ∀ h3 : Hp, I i1 h3 →
      ((decide (0 ≤ i1)) = true →
        0 ≤ i1 ∧ i1 < (a.n : Int) ∧ a.a.isSome = true ∧
        0 ≤ i1 ∧ i1 < (b.n : Int) ∧ b.a.isSome = true ∧
        ∃ x27 : Int, hld h3 (elemA a.a i1 1) none = some (.int .u64 x27) ∧
        ∃ x31 : Int, hld h3 (elemA b.a i1 1) none = some (.int .u64 x31) ∧
        ((decide (x27 < x31)) = true →
          R (.int .i64 (-1)) h3
        ) ∧ ((decide (x27 < x31)) = false →
          0 ≤ i1 ∧ i1 < (a.n : Int) ∧ a.a.isSome = true ∧
          0 ≤ i1 ∧ i1 < (b.n : Int) ∧ b.a.isSome = true ∧
          ∃ x36 : Int, hld h3 (elemA a.a i1 1) none = some (.int .u64 x36) ∧
          ∃ x40 : Int, hld h3 (elemA b.a i1 1) none = some (.int .u64 x40) ∧
          ((decide (x40 < x36)) = true →
            R (.int .i64 1) h3
          ) ∧ ((decide (x40 < x36)) = false →
            ∀ i2 : Int, i2 = IntKind.i64.wrap (i1 - 1) →
            I i2 h3 ∧ mu i2 h3 < mu i1 h3
          )
        )
      ) ∧ ((decide (0 ≤ i1)) = false →
        R (.int .i64 0) h3
      )
    )
  )
set_option maxRecDepth 100000 in
theorem t_nat_Cmp {a : Sl} {b : Sl} {h : Hp} {R : Value → Hp → Prop} (hv : v_nat_Cmp a b h R) : Tri Try.prog (.func (.func 53) #[] #[]) [a.v, b.v] h R :=
  tri_of_vc mixed Try.func53 (d := d_nat_Cmp) (RM := []) (rvs := [.tmp 4]) (args := [a.v, b.v]) (caps := []) (by kernel_rfl) Try.ntmps53 (V := v_nat_Cmp a b h R) (by kernel_rfl) (by simp) hv

/- trellis/nat.Add -/
def d_nat_Add : Vd :=
  .seq (.ops [.op 0 ⟨none, some 4, .mov (.nil)⟩ false (.no)] [0, 1, 4, 5, 6, 7, 8, 9, 10, 15, 25, 26, 27, 31]) (.join ⟨[], [], []⟩ [.t 0 (.slice), .t 1 (.slice)] (.seq (.ops [.op 0 ⟨none, some 11, .mov (.t 0)⟩ false (.no), .op 1 ⟨none, some 12, .call false (.f 55) [.t 11]⟩ false (.sh (.one (.int .i64))), .op 2 ⟨none, some 13, .mov (.t 1)⟩ false (.no), .op 3 ⟨none, some 14, .call false (.f 55) [.t 13]⟩ false (.sh (.one (.int .i64))), .op 4 ⟨none, some 15, .bin .lss (.t 12) (.t 14)⟩ false (.sh (.one .val))] [0, 1, 4, 5, 6, 7, 8, 9, 10, 15, 25, 26, 27, 31]) (.cond (.t 15) (.ops [.op 0 ⟨none, some 16, .mov (.t 1)⟩ false (.no), .op 1 ⟨none, some 17, .mov (.t 0)⟩ false (.no), .op 2 ⟨none, some 0, .mov (.t 16)⟩ false (.no), .op 3 ⟨none, some 1, .mov (.t 17)⟩ false (.no)] [0, 1, 4, 5, 6, 7, 8, 9, 10, 15, 25, 26, 27, 31]) (.skip))) (.seq (.ops [.op 0 ⟨none, some 18, .mov (.t 0)⟩ false (.no), .op 1 ⟨none, some 19, .call false (.f 55) [.t 18]⟩ false (.sh (.one (.int .i64))), .op 2 ⟨none, some 20, .mov (.t 1)⟩ false (.no), .op 3 ⟨none, some 21, .call false (.f 55) [.t 20]⟩ false (.sh (.one (.int .i64))), .op 4 ⟨none, some 5, .mov (.t 19)⟩ false (.no), .op 5 ⟨none, some 6, .mov (.t 21)⟩ false (.no)] [0, 1, 4, 5, 6, 7, 8, 9, 10, 15, 25, 26, 27, 31]) (.seq (.ops [.op 0 ⟨none, some 22, .mov (.t 5)⟩ false (.no), .op 1 ⟨none, some 23, .bin .add (.t 22) (.i .i64 1)⟩ false (.sh (.one .val)), .op 2 ⟨none, some 24, .mk [.i .u64 0] 8 (.t 23) (.t 23)⟩ false (.sh (.one .val)), .op 3 ⟨none, some 7, .mov (.t 24)⟩ false (.no)] [0, 1, 4, 5, 6, 7, 8, 9, 10, 15, 25, 26, 27, 31]) (.seq (.ops [.op 0 ⟨none, some 8, .mov (.i .u64 0)⟩ false (.no)] [0, 1, 4, 5, 6, 7, 8, 9, 10, 15, 25, 26, 27, 31]) (.seq (.seq (.ops [.op 0 ⟨none, some 25, .mov (.t 5)⟩ false (.no), .op 1 ⟨none, some 26, .mov (.i .i64 0)⟩ false (.no)] [0, 1, 4, 5, 6, 7, 8, 9, 10, 15, 25, 26, 27, 31]) (.block 0 (.loop ⟨[0, 1, 5, 6, 7, 25], [], []⟩ [.t 8 (.int .u64), .t 26 (.int .i64)] (.seq (.ops [.op 0 ⟨none, some 27, .bin .lss (.t 26) (.t 25)⟩ false (.sh (.one .val))] [0, 1, 4, 5, 6, 7, 8, 9, 10, 15, 25, 26, 27, 31]) (.seq (.cond (.t 27) (.skip) (.exit 0)) (.seq (.block 1 (.seq (.ops [.op 0 ⟨none, some 28, .mov (.t 26)⟩ false (.no), .op 1 ⟨none, some 9, .mov (.t 28)⟩ false (.no)] [0, 1, 4, 5, 6, 7, 8, 9, 10, 15, 25, 26, 27, 31]) (.seq (.ops [.op 0 ⟨none, some 10, .mov (.i .u64 0)⟩ false (.no)] [0, 1, 4, 5, 6, 7, 8, 9, 10, 15, 25, 26, 27, 31]) (.join ⟨[0, 1, 5, 6, 7, 8, 9, 25, 26], [], []⟩ [.t 10 (.int .u64)] (.seq (.ops [.op 0 ⟨none, some 29, .mov (.t 9)⟩ false (.no), .op 1 ⟨none, some 30, .mov (.t 6)⟩ false (.no), .op 2 ⟨none, some 31, .bin .lss (.t 29) (.t 30)⟩ false (.sh (.one .val))] [0, 1, 4, 5, 6, 7, 8, 9, 10, 15, 25, 26, 27, 31]) (.cond (.t 31) (.ops [.op 0 ⟨none, some 32, .mov (.t 1)⟩ false (.no), .op 1 ⟨none, some 33, .mov (.t 9)⟩ false (.no), .op 2 ⟨none, some 34, .ia 1 (.t 32) (.t 33)⟩ false (.no), .op 3 ⟨none, some 35, .ldh none (.t 34)⟩ false (.sh (.one (.int .u64))), .op 4 ⟨none, some 10, .mov (.t 35)⟩ false (.no)] [0, 1, 4, 5, 6, 7, 8, 9, 10, 15, 25, 26, 27, 31]) (.skip))) (.ops [.op 0 ⟨none, some 37, .mov (.t 7)⟩ false (.no), .op 1 ⟨none, some 38, .mov (.t 9)⟩ false (.no), .op 2 ⟨none, some 39, .mov (.t 0)⟩ false (.no), .op 3 ⟨none, some 40, .mov (.t 9)⟩ false (.no), .op 4 ⟨none, some 41, .ia 1 (.t 39) (.t 40)⟩ false (.no), .op 5 ⟨none, some 42, .ldh none (.t 41)⟩ false (.sh (.one (.int .u64))), .op 6 ⟨none, some 43, .mov (.t 10)⟩ false (.no), .op 7 ⟨none, some 44, .mov (.t 8)⟩ false (.no), .op 8 ⟨none, some 45, .call false (.f 90) [.t 42, .t 43, .t 44]⟩ false (.sh (.tup [(none, .int .u64), (none, .int .u64)])), .op 9 ⟨none, some 36, .mov (.t 45)⟩ false (.no), .op 10 ⟨none, some 46, .ext (.t 36) 0⟩ false (.no), .op 11 ⟨none, some 47, .ext (.t 36) 1⟩ false (.no), .op 12 ⟨none, some 48, .ia 1 (.t 37) (.t 38)⟩ false (.no), .op 13 ⟨none, none, .sth 1 (.t 48) (.t 46)⟩ false (.sh (.one .val)), .op 14 ⟨none, some 8, .mov (.t 47)⟩ false (.no)] [0, 1, 4, 5, 6, 7, 8, 9, 10, 15, 25, 26, 27, 31]))))) (.ops [.op 0 ⟨none, some 49, .bin .add (.t 26) (.i .i64 1)⟩ false (.sh (.one .val)), .op 1 ⟨none, some 26, .mov (.t 49)⟩ false (.no)] [0, 1, 4, 5, 6, 7, 8, 9, 10, 15, 25, 26, 27, 31]))))))) (.seq (.ops [.op 0 ⟨none, some 50, .mov (.t 7)⟩ false (.no), .op 1 ⟨none, some 51, .mov (.t 5)⟩ false (.no), .op 2 ⟨none, some 52, .mov (.t 8)⟩ false (.no), .op 3 ⟨none, some 53, .ia 1 (.t 50) (.t 51)⟩ false (.no), .op 4 ⟨none, none, .sth 1 (.t 53) (.t 52)⟩ false (.sh (.one .val))] [0, 1, 4, 5, 6, 7, 8, 9, 10, 15, 25, 26, 27, 31]) (.seq (.ops [.op 0 ⟨none, some 54, .mov (.t 7)⟩ false (.no), .op 1 ⟨none, some 55, .mov (.t 7)⟩ false (.no), .op 2 ⟨none, some 56, .call false (.f 55) [.t 55]⟩ false (.sh (.one (.int .i64))), .op 3 ⟨none, some 57, .sl 1 (.t 54) none (some (.t 56)) none⟩ false (.no), .op 4 ⟨none, some 4, .mov (.t 57)⟩ false (.no)] [0, 1, 4, 5, 6, 7, 8, 9, 10, 15, 25, 26, 27, 31]) (.ret))))))))
def v_nat_Add (a : Sl) (b : Sl) (h : Hp) (R : Value → Hp → Prop) : Prop :=
  ∀ J : Sl → Sl → Hp → Prop, (∀ a1 : Sl, ∀ b1 : Sl, ∀ h1 : Hp, (
    Tri Try.prog (.func (.func 55) #[] #[]) [a1.v] h1 fun r h2 => ∃ x19 : Int, r = .int .i64 x19 ∧
    Tri Try.prog (.func (.func 55) #[] #[]) [b1.v] h2 fun r1 h3 => ∃ x21 : Int, r1 = .int .i64 x21 ∧
    ∀ x23 : Int, x23 = IntKind.i64.wrap (x19 + 1) →
    0 ≤ x23 ∧ x23 ≤ x23 ∧ (8 : Nat) * x23 ≤ 281474976710656 ∧ x23 < 9223372036854775808 ∧ ∀ b2 : Nat, ∀ h4 : Hp, h3 b2 = none → h4 = h3.up b2 ⟨mkCells [.int .u64 0] (Int.toNat x23 * 1), true⟩ →
    ∃ I : Int → Int → Hp → Prop, ∃ mu : Int → Int → Hp → Nat, I 0 0 h4 ∧ (∀ carry : Int, ∀ x26 : Int, ∀ h5 : Hp, I carry x26 h5 →
      ((decide (x26 < x19)) = true →
        ∀ J1 : Int → Hp → Prop, (∀ w : Int, ∀ h6 : Hp, (
          0 ≤ x26 ∧ x26 < (a1.n : Int) ∧ a1.a.isSome = true ∧
          ∃ x42 : Int, hld h6 (elemA a1.a x26 1) none = some (.int .u64 x42) ∧
          Tri Try.prog (.func (.func 90) #[] #[]) [.int .u64 x42, .int .u64 w, .int .u64 carry] h6 fun r2 h7 => ∃ x45a : Int, ∃ x45b : Int, r2 = .tuple #[.int .u64 x45a, .int .u64 x45b] ∧
          0 ≤ x26 ∧ x26 < (Int.toNat x23 : Int) ∧ (some (blkA b2)).isSome = true ∧
          ∃ h8 : Hp, hst h7 (elemA (some (blkA b2)) x26 1) [.int .u64 x45a] = some h8 ∧
          ∀ x49 : Int, x49 = IntKind.i64.wrap (x26 + 1) →
          I x45b x49 h8 ∧ mu x45b x49 h8 < mu carry x26 h5
        ) → J1 w h6) →
        ((decide (x26 < x21)) = true →
          0 ≤ x26 ∧ x26 < (b1.n : Int) ∧ b1.a.isSome = true ∧
          ∃ x35 : Int, hld h5 (elemA b1.a x26 1) none = some (.int .u64 x35) ∧
          J1 x35 h5
        ) ∧ ((decide (x26 < x21)) = false →
          J1 0 h5
        )
      ) ∧ ((decide (x26 < x19)) = false →
        0 ≤ x19 ∧ x19 < (Int.toNat x23 : Int) ∧ (some (blkA b2)).isSome = true ∧
        ∃ h9 : Hp, hst h5 (elemA (some (blkA b2)) x19 1) [.int .u64 carry] = some h9 ∧
        Tri Try.prog (.func (.func 55) #[] #[]) [.slice (some (blkA b2)) (Int.toNat x23) (Int.toNat x23)] h9 fun r3 h10 => ∃ x56 : Int, r3 = .int .i64 x56 ∧
        0 ≤ (0 : Int) ∧ (0 : Int) ≤ x56 ∧ x56 ≤ (Int.toNat x23 : Int) ∧ (Int.toNat x23 : Int) ≤ (Int.toNat x23 : Int) ∧
        R (.slice (sliceA (some (blkA b2)) (0 : Int) (Int.toNat x23 : Int) 1) ((x56 - (0 : Int)).toNat) (((Int.toNat x23 : Int) - (0 : Int)).toNat)) h10
      )
    )
  ) → J a1 b1 h1) →
  Tri Try.prog (.func (.func 55) #[] #[]) [a.v] h fun r4 h11 => ∃ x12 : Int, r4 = .int .i64 x12 ∧
  Tri Try.prog (.func (.func 55) #[] #[]) [b.v] h11 fun r5 h12 => ∃ x14 : Int, r5 = .int .i64 x14 ∧
  ((decide (x12 < x14)) = true →
    J b a h12
  ) ∧ ((decide (x12 < x14)) = false →
    J a b h12
  )
set_option maxRecDepth 100000 in
theorem t_nat_Add {a : Sl} {b : Sl} {h : Hp} {R : Value → Hp → Prop} (hv : v_nat_Add a b h R) : Tri Try.prog (.func (.func 75) #[] #[]) [a.v, b.v] h R :=
  tri_of_vc mixed Try.func75 (d := d_nat_Add) (RM := []) (rvs := [.tmp 4]) (args := [a.v, b.v]) (caps := []) (by kernel_rfl) Try.ntmps75 (V := v_nat_Add a b h R) (by kernel_rfl) (by simp) hv

/- trellis/nat.Sub -/
def d_nat_Sub : Vd :=
  .seq (.ops [.op 0 ⟨none, some 4, .mov (.nil)⟩ false (.no), .op 1 ⟨none, some 5, .mov (.i .i64 0)⟩ false (.no)] [0, 1, 4, 5, 6, 7, 8, 9, 10, 11, 15, 22, 23, 24, 28]) (.seq (.seq (.ops [.op 0 ⟨none, some 12, .mov (.t 0)⟩ false (.no), .op 1 ⟨none, some 13, .mov (.t 1)⟩ false (.no), .op 2 ⟨none, some 14, .call false (.f 53) [.t 12, .t 13]⟩ false (.sh (.one (.int .i64))), .op 3 ⟨none, some 15, .bin .lss (.t 14) (.i .i64 0)⟩ false (.sh (.one .val))] [0, 1, 4, 5, 6, 7, 8, 9, 10, 11, 15, 22, 23, 24, 28]) (.cond (.t 15) (.seq (.ops [.op 0 ⟨none, some 4, .mov (.nil)⟩ false (.no), .op 1 ⟨none, some 5, .mov (.i .i64 3)⟩ false (.no)] [0, 1, 4, 5, 6, 7, 8, 9, 10, 11, 15, 22, 23, 24, 28]) (.ret)) (.skip))) (.seq (.ops [.op 0 ⟨none, some 16, .mov (.t 0)⟩ false (.no), .op 1 ⟨none, some 17, .call false (.f 55) [.t 16]⟩ false (.sh (.one (.int .i64))), .op 2 ⟨none, some 18, .mov (.t 1)⟩ false (.no), .op 3 ⟨none, some 19, .call false (.f 55) [.t 18]⟩ false (.sh (.one (.int .i64))), .op 4 ⟨none, some 6, .mov (.t 17)⟩ false (.no), .op 5 ⟨none, some 7, .mov (.t 19)⟩ false (.no)] [0, 1, 4, 5, 6, 7, 8, 9, 10, 11, 15, 22, 23, 24, 28]) (.seq (.ops [.op 0 ⟨none, some 20, .mov (.t 6)⟩ false (.no), .op 1 ⟨none, some 21, .mk [.i .u64 0] 8 (.t 20) (.t 20)⟩ false (.sh (.one .val)), .op 2 ⟨none, some 8, .mov (.t 21)⟩ false (.no)] [0, 1, 4, 5, 6, 7, 8, 9, 10, 11, 15, 22, 23, 24, 28]) (.seq (.ops [.op 0 ⟨none, some 9, .mov (.i .u64 0)⟩ false (.no)] [0, 1, 4, 5, 6, 7, 8, 9, 10, 11, 15, 22, 23, 24, 28]) (.seq (.seq (.ops [.op 0 ⟨none, some 22, .mov (.t 6)⟩ false (.no), .op 1 ⟨none, some 23, .mov (.i .i64 0)⟩ false (.no)] [0, 1, 4, 5, 6, 7, 8, 9, 10, 11, 15, 22, 23, 24, 28]) (.block 0 (.loop ⟨[0, 1, 7, 8, 22], [], []⟩ [.t 9 (.int .u64), .t 23 (.int .i64)] (.seq (.ops [.op 0 ⟨none, some 24, .bin .lss (.t 23) (.t 22)⟩ false (.sh (.one .val))] [0, 1, 4, 5, 6, 7, 8, 9, 10, 11, 15, 22, 23, 24, 28]) (.seq (.cond (.t 24) (.skip) (.exit 0)) (.seq (.block 1 (.seq (.ops [.op 0 ⟨none, some 25, .mov (.t 23)⟩ false (.no), .op 1 ⟨none, some 10, .mov (.t 25)⟩ false (.no)] [0, 1, 4, 5, 6, 7, 8, 9, 10, 11, 15, 22, 23, 24, 28]) (.seq (.ops [.op 0 ⟨none, some 11, .mov (.i .u64 0)⟩ false (.no)] [0, 1, 4, 5, 6, 7, 8, 9, 10, 11, 15, 22, 23, 24, 28]) (.join ⟨[0, 1, 7, 8, 9, 10, 22, 23], [], []⟩ [.t 11 (.int .u64)] (.seq (.ops [.op 0 ⟨none, some 26, .mov (.t 10)⟩ false (.no), .op 1 ⟨none, some 27, .mov (.t 7)⟩ false (.no), .op 2 ⟨none, some 28, .bin .lss (.t 26) (.t 27)⟩ false (.sh (.one .val))] [0, 1, 4, 5, 6, 7, 8, 9, 10, 11, 15, 22, 23, 24, 28]) (.cond (.t 28) (.ops [.op 0 ⟨none, some 29, .mov (.t 1)⟩ false (.no), .op 1 ⟨none, some 30, .mov (.t 10)⟩ false (.no), .op 2 ⟨none, some 31, .ia 1 (.t 29) (.t 30)⟩ false (.no), .op 3 ⟨none, some 32, .ldh none (.t 31)⟩ false (.sh (.one (.int .u64))), .op 4 ⟨none, some 11, .mov (.t 32)⟩ false (.no)] [0, 1, 4, 5, 6, 7, 8, 9, 10, 11, 15, 22, 23, 24, 28]) (.skip))) (.ops [.op 0 ⟨none, some 34, .mov (.t 8)⟩ false (.no), .op 1 ⟨none, some 35, .mov (.t 10)⟩ false (.no), .op 2 ⟨none, some 36, .mov (.t 0)⟩ false (.no), .op 3 ⟨none, some 37, .mov (.t 10)⟩ false (.no), .op 4 ⟨none, some 38, .ia 1 (.t 36) (.t 37)⟩ false (.no), .op 5 ⟨none, some 39, .ldh none (.t 38)⟩ false (.sh (.one (.int .u64))), .op 6 ⟨none, some 40, .mov (.t 11)⟩ false (.no), .op 7 ⟨none, some 41, .mov (.t 9)⟩ false (.no), .op 8 ⟨none, some 42, .call false (.f 91) [.t 39, .t 40, .t 41]⟩ false (.sh (.tup [(none, .int .u64), (none, .int .u64)])), .op 9 ⟨none, some 33, .mov (.t 42)⟩ false (.no), .op 10 ⟨none, some 43, .ext (.t 33) 0⟩ false (.no), .op 11 ⟨none, some 44, .ext (.t 33) 1⟩ false (.no), .op 12 ⟨none, some 45, .ia 1 (.t 34) (.t 35)⟩ false (.no), .op 13 ⟨none, none, .sth 1 (.t 45) (.t 43)⟩ false (.sh (.one .val)), .op 14 ⟨none, some 9, .mov (.t 44)⟩ false (.no)] [0, 1, 4, 5, 6, 7, 8, 9, 10, 11, 15, 22, 23, 24, 28]))))) (.ops [.op 0 ⟨none, some 46, .bin .add (.t 23) (.i .i64 1)⟩ false (.sh (.one .val)), .op 1 ⟨none, some 23, .mov (.t 46)⟩ false (.no)] [0, 1, 4, 5, 6, 7, 8, 9, 10, 11, 15, 22, 23, 24, 28]))))))) (.seq (.ops [.op 0 ⟨none, some 47, .mov (.t 8)⟩ false (.no), .op 1 ⟨none, some 48, .mov (.t 8)⟩ false (.no), .op 2 ⟨none, some 49, .call false (.f 55) [.t 48]⟩ false (.sh (.one (.int .i64))), .op 3 ⟨none, some 50, .sl 1 (.t 47) none (some (.t 49)) none⟩ false (.no), .op 4 ⟨none, some 4, .mov (.t 50)⟩ false (.no), .op 5 ⟨none, some 5, .mov (.i .i64 0)⟩ false (.no)] [0, 1, 4, 5, 6, 7, 8, 9, 10, 11, 15, 22, 23, 24, 28]) (.ret)))))))
def v_nat_Sub (a : Sl) (b : Sl) (h : Hp) (R : Value → Hp → Prop) : Prop :=
  Tri Try.prog (.func (.func 53) #[] #[]) [a.v, b.v] h fun r h1 => ∃ x14 : Int, r = .int .i64 x14 ∧
  ((decide (x14 < 0)) = true →
    R (.tuple #[.slice none 0 0, .int .i64 3]) h1
  ) ∧ ((decide (x14 < 0)) = false →
    Tri Try.prog (.func (.func 55) #[] #[]) [a.v] h1 fun r1 h2 => ∃ x17 : Int, r1 = .int .i64 x17 ∧
    Tri Try.prog (.func (.func 55) #[] #[]) [b.v] h2 fun r2 h3 => ∃ x19 : Int, r2 = .int .i64 x19 ∧
    0 ≤ x17 ∧ x17 ≤ x17 ∧ (8 : Nat) * x17 ≤ 281474976710656 ∧ x17 < 9223372036854775808 ∧ ∀ b1 : Nat, ∀ h4 : Hp, h3 b1 = none → h4 = h3.up b1 ⟨mkCells [.int .u64 0] (Int.toNat x17 * 1), true⟩ →
    ∃ I : Int → Int → Hp → Prop, ∃ mu : Int → Int → Hp → Nat, I 0 0 h4 ∧ (∀ lent : Int, ∀ x23 : Int, ∀ h5 : Hp, I lent x23 h5 →
      ((decide (x23 < x17)) = true →
        ∀ J : Int → Hp → Prop, (∀ w : Int, ∀ h6 : Hp, (
          0 ≤ x23 ∧ x23 < (a.n : Int) ∧ a.a.isSome = true ∧
          ∃ x39 : Int, hld h6 (elemA a.a x23 1) none = some (.int .u64 x39) ∧
          Tri Try.prog (.func (.func 91) #[] #[]) [.int .u64 x39, .int .u64 w, .int .u64 lent] h6 fun r3 h7 => ∃ x42a : Int, ∃ x42b : Int, r3 = .tuple #[.int .u64 x42a, .int .u64 x42b] ∧
          0 ≤ x23 ∧ x23 < (Int.toNat x17 : Int) ∧ (some (blkA b1)).isSome = true ∧
          ∃ h8 : Hp, hst h7 (elemA (some (blkA b1)) x23 1) [.int .u64 x42a] = some h8 ∧
          ∀ x46 : Int, x46 = IntKind.i64.wrap (x23 + 1) →
          I x42b x46 h8 ∧ mu x42b x46 h8 < mu lent x23 h5
        ) → J w h6) →
        ((decide (x23 < x19)) = true →
          0 ≤ x23 ∧ x23 < (b.n : Int) ∧ b.a.isSome = true ∧
          ∃ x32 : Int, hld h5 (elemA b.a x23 1) none = some (.int .u64 x32) ∧
          J x32 h5
        ) ∧ ((decide (x23 < x19)) = false →
          J 0 h5
        )
      ) ∧ ((decide (x23 < x17)) = false →
        Tri Try.prog (.func (.func 55) #[] #[]) [.slice (some (blkA b1)) (Int.toNat x17) (Int.toNat x17)] h5 fun r4 h9 => ∃ x49 : Int, r4 = .int .i64 x49 ∧
        0 ≤ (0 : Int) ∧ (0 : Int) ≤ x49 ∧ x49 ≤ (Int.toNat x17 : Int) ∧ (Int.toNat x17 : Int) ≤ (Int.toNat x17 : Int) ∧
        R (.tuple #[.slice (sliceA (some (blkA b1)) (0 : Int) (Int.toNat x17 : Int) 1) ((x49 - (0 : Int)).toNat) (((Int.toNat x17 : Int) - (0 : Int)).toNat), .int .i64 0]) h9
      )
    )
  )
set_option maxRecDepth 100000 in
theorem t_nat_Sub {a : Sl} {b : Sl} {h : Hp} {R : Value → Hp → Prop} (hv : v_nat_Sub a b h R) : Tri Try.prog (.func (.func 76) #[] #[]) [a.v, b.v] h R :=
  tri_of_vc mixed Try.func76 (d := d_nat_Sub) (RM := []) (rvs := [.tmp 4, .tmp 5]) (args := [a.v, b.v]) (caps := []) (by kernel_rfl) Try.ntmps76 (V := v_nat_Sub a b h R) (by kernel_rfl) (by simp) hv

/- trellis/nat.Shr -/
def d_nat_Shr : Vd :=
  .seq (.ops [.op 0 ⟨none, some 4, .mov (.nil)⟩ false (.no), .op 1 ⟨none, some 5, .mov (.i .i64 0)⟩ false (.no)] [0, 1, 4, 5, 6, 7, 8, 9, 10, 12, 22, 28, 29, 30, 48]) (.seq (.seq (.ops [.op 0 ⟨none, some 11, .mov (.t 1)⟩ false (.no), .op 1 ⟨none, some 12, .bin .lss (.t 11) (.i .i64 0)⟩ false (.sh (.one .val))] [0, 1, 4, 5, 6, 7, 8, 9, 10, 12, 22, 28, 29, 30, 48]) (.cond (.t 12) (.seq (.ops [.op 0 ⟨none, some 4, .mov (.nil)⟩ false (.no), .op 1 ⟨none, some 5, .mov (.i .i64 3)⟩ false (.no)] [0, 1, 4, 5, 6, 7, 8, 9, 10, 12, 22, 28, 29, 30, 48]) (.ret)) (.skip))) (.seq (.ops [.op 0 ⟨none, some 13, .mov (.t 0)⟩ false (.no), .op 1 ⟨none, some 14, .call false (.f 55) [.t 13]⟩ false (.sh (.one (.int .i64))), .op 2 ⟨none, some 15, .mov (.t 1)⟩ false (.no), .op 3 ⟨none, some 16, .bin .quo (.t 15) (.i .i64 64)⟩ false (.sh (.one .val)), .op 4 ⟨none, some 17, .mov (.t 1)⟩ false (.no), .op 5 ⟨none, some 18, .bin .rem (.t 17) (.i .i64 64)⟩ false (.sh (.one .val)), .op 6 ⟨none, some 19, .cv .u64 (.t 18)⟩ false (.sh (.one .val)), .op 7 ⟨none, some 6, .mov (.t 14)⟩ false (.no), .op 8 ⟨none, some 7, .mov (.t 16)⟩ false (.no), .op 9 ⟨none, some 8, .mov (.t 19)⟩ false (.no)] [0, 1, 4, 5, 6, 7, 8, 9, 10, 12, 22, 28, 29, 30, 48]) (.seq (.seq (.ops [.op 0 ⟨none, some 20, .mov (.t 7)⟩ false (.no), .op 1 ⟨none, some 21, .mov (.t 6)⟩ false (.no), .op 2 ⟨none, some 22, .bin .geq (.t 20) (.t 21)⟩ false (.sh (.one .val))] [0, 1, 4, 5, 6, 7, 8, 9, 10, 12, 22, 28, 29, 30, 48]) (.cond (.t 22) (.seq (.ops [.op 0 ⟨none, some 4, .mov (.nil)⟩ false (.no), .op 1 ⟨none, some 5, .mov (.i .i64 0)⟩ false (.no)] [0, 1, 4, 5, 6, 7, 8, 9, 10, 12, 22, 28, 29, 30, 48]) (.ret)) (.skip))) (.seq (.ops [.op 0 ⟨none, some 23, .mov (.t 6)⟩ false (.no), .op 1 ⟨none, some 24, .mov (.t 7)⟩ false (.no), .op 2 ⟨none, some 25, .bin .sub (.t 23) (.t 24)⟩ false (.sh (.one .val)), .op 3 ⟨none, some 26, .mk [.i .u64 0] 8 (.t 25) (.t 25)⟩ false (.sh (.one .val)), .op 4 ⟨none, some 9, .mov (.t 26)⟩ false (.no)] [0, 1, 4, 5, 6, 7, 8, 9, 10, 12, 22, 28, 29, 30, 48]) (.seq (.seq (.ops [.op 0 ⟨none, some 27, .mov (.t 9)⟩ false (.no), .op 1 ⟨none, some 28, .len (.t 27)⟩ false (.no), .op 2 ⟨none, some 29, .mov (.i .i64 0)⟩ false (.no)] [0, 1, 4, 5, 6, 7, 8, 9, 10, 12, 22, 28, 29, 30, 48]) (.block 0 (.loop ⟨[0, 6, 7, 8, 9, 28], [], []⟩ [.t 29 (.int .i64)] (.seq (.ops [.op 0 ⟨none, some 30, .bin .lss (.t 29) (.t 28)⟩ false (.sh (.one .val))] [0, 1, 4, 5, 6, 7, 8, 9, 10, 12, 22, 28, 29, 30, 48]) (.seq (.cond (.t 30) (.skip) (.exit 0)) (.join ⟨[0, 6, 7, 8, 9, 28, 29], [], []⟩ [] (.block 1 (.seq (.ops [.op 0 ⟨none, some 31, .mov (.t 29)⟩ false (.no), .op 1 ⟨none, some 10, .mov (.t 31)⟩ false (.no)] [0, 1, 4, 5, 6, 7, 8, 9, 10, 12, 22, 28, 29, 30, 48]) (.seq (.ops [.op 0 ⟨none, some 32, .mov (.t 9)⟩ false (.no), .op 1 ⟨none, some 33, .mov (.t 10)⟩ false (.no), .op 2 ⟨none, some 34, .mov (.t 0)⟩ false (.no), .op 3 ⟨none, some 35, .mov (.t 7)⟩ false (.no), .op 4 ⟨none, some 36, .mov (.t 10)⟩ false (.no), .op 5 ⟨none, some 37, .bin .add (.t 35) (.t 36)⟩ false (.sh (.one .val)), .op 6 ⟨none, some 38, .ia 1 (.t 34) (.t 37)⟩ false (.no), .op 7 ⟨none, some 39, .ldh none (.t 38)⟩ false (.sh (.one (.int .u64))), .op 8 ⟨none, some 40, .mov (.t 8)⟩ false (.no), .op 9 ⟨none, some 41, .bin .shr (.t 39) (.t 40)⟩ false (.sh (.one .val)), .op 10 ⟨none, some 42, .ia 1 (.t 32) (.t 33)⟩ false (.no), .op 11 ⟨none, none, .sth 1 (.t 42) (.t 41)⟩ false (.sh (.one .val))] [0, 1, 4, 5, 6, 7, 8, 9, 10, 12, 22, 28, 29, 30, 48]) (.seq (.ops [.op 0 ⟨none, some 43, .mov (.t 7)⟩ false (.no), .op 1 ⟨none, some 44, .mov (.t 10)⟩ false (.no), .op 2 ⟨none, some 45, .bin .add (.t 43) (.t 44)⟩ false (.sh (.one .val)), .op 3 ⟨none, some 46, .bin .add (.t 45) (.i .i64 1)⟩ false (.sh (.one .val)), .op 4 ⟨none, some 47, .mov (.t 6)⟩ false (.no), .op 5 ⟨none, some 48, .bin .lss (.t 46) (.t 47)⟩ false (.sh (.one .val))] [0, 1, 4, 5, 6, 7, 8, 9, 10, 12, 22, 28, 29, 30, 48]) (.cond (.t 48) (.ops [.op 0 ⟨none, some 49, .mov (.t 9)⟩ false (.no), .op 1 ⟨none, some 50, .mov (.t 10)⟩ false (.no), .op 2 ⟨none, some 51, .ia 1 (.t 49) (.t 50)⟩ false (.no), .op 4 ⟨none, some 53, .mov (.t 0)⟩ false (.no), .op 5 ⟨none, some 54, .mov (.t 7)⟩ false (.no), .op 6 ⟨none, some 55, .mov (.t 10)⟩ false (.no), .op 7 ⟨none, some 56, .bin .add (.t 54) (.t 55)⟩ false (.sh (.one .val)), .op 8 ⟨none, some 57, .bin .add (.t 56) (.i .i64 1)⟩ false (.sh (.one .val)), .op 9 ⟨none, some 58, .ia 1 (.t 53) (.t 57)⟩ false (.no), .op 11 ⟨none, some 60, .mov (.t 8)⟩ false (.no), .op 12 ⟨none, some 61, .bin .sub (.i .u64 64) (.t 60)⟩ false (.sh (.one .val)), .op 3 ⟨none, some 52, .ldh none (.t 51)⟩ false (.sh (.one (.int .u64))), .op 10 ⟨none, some 59, .ldh none (.t 58)⟩ false (.sh (.one (.int .u64))), .op 13 ⟨none, some 62, .bin .shl (.t 59) (.t 61)⟩ false (.sh (.one .val)), .op 14 ⟨none, some 63, .bin .or (.t 52) (.t 62)⟩ false (.sh (.one .val)), .op 15 ⟨none, some 64, .ia 1 (.t 49) (.t 50)⟩ false (.no), .op 16 ⟨none, none, .sth 1 (.t 64) (.t 63)⟩ false (.sh (.one .val))] [0, 1, 4, 5, 6, 7, 8, 9, 10, 12, 22, 28, 29, 30, 48]) (.skip)))))) (.ops [.op 0 ⟨none, some 65, .bin .add (.t 29) (.i .i64 1)⟩ false (.sh (.one .val)), .op 1 ⟨none, some 29, .mov (.t 65)⟩ false (.no)] [0, 1, 4, 5, 6, 7, 8, 9, 10, 12, 22, 28, 29, 30, 48]))))))) (.seq (.ops [.op 0 ⟨none, some 66, .mov (.t 9)⟩ false (.no), .op 1 ⟨none, some 67, .mov (.t 9)⟩ false (.no), .op 2 ⟨none, some 68, .call false (.f 55) [.t 67]⟩ false (.sh (.one (.int .i64))), .op 3 ⟨none, some 69, .sl 1 (.t 66) none (some (.t 68)) none⟩ false (.no), .op 4 ⟨none, some 4, .mov (.t 69)⟩ false (.no), .op 5 ⟨none, some 5, .mov (.i .i64 0)⟩ false (.no)] [0, 1, 4, 5, 6, 7, 8, 9, 10, 12, 22, 28, 29, 30, 48]) (.ret)))))))
def v_nat_Shr (x0 : Sl) (x1 : Int) (h : Hp) (R : Value → Hp → Prop) : Prop :=
  ((decide (x1 < 0)) = true →
    R (.tuple #[.slice none 0 0, .int .i64 3]) h
  ) ∧ ((decide (x1 < 0)) = false →
    Tri Try.prog (.func (.func 55) #[] #[]) [x0.v] h fun r h1 => ∃ x14 : Int, r = .int .i64 x14 ∧
    (64 : Int) ≠ 0 ∧
    ∀ x16 : Int, x16 = IntKind.i64.wrap (x1.tdiv (64 : Int)) →
    (64 : Int) ≠ 0 ∧
    ∀ x18 : Int, x18 = x1.tmod (64 : Int) →
    ∀ x19 : Int, x19 = IntKind.u64.wrap x18 →
    ((decide (x14 ≤ x16)) = true →
      R (.tuple #[.slice none 0 0, .int .i64 0]) h1
    ) ∧ ((decide (x14 ≤ x16)) = false →
      ∀ x25 : Int, x25 = IntKind.i64.wrap (x14 - x16) →
      0 ≤ x25 ∧ x25 ≤ x25 ∧ (8 : Nat) * x25 ≤ 281474976710656 ∧ x25 < 9223372036854775808 ∧ ∀ b : Nat, ∀ h2 : Hp, h1 b = none → h2 = h1.up b ⟨mkCells [.int .u64 0] (Int.toNat x25 * 1), true⟩ →
      ∃ I : Int → Hp → Prop, ∃ mu : Int → Hp → Nat, I 0 h2 ∧ (∀ x29 : Int, ∀ h3 : Hp, I x29 h3 →
        ((decide (x29 < (Int.toNat x25 : Int))) = true →
          ∀ J : Hp → Prop, (∀ h4 : Hp, (
            ∀ x65 : Int, x65 = IntKind.i64.wrap (x29 + 1) →
            I x65 h4 ∧ mu x65 h4 < mu x29 h3
          ) → J h4) →
          ∀ x37 : Int, x37 = IntKind.i64.wrap (x16 + x29) →
          0 ≤ x37 ∧ x37 < (x0.n : Int) ∧ x0.a.isSome = true ∧
          ∃ x39 : Int, hld h3 (elemA x0.a x37 1) none = some (.int .u64 x39) ∧
          (0 : Int) ≤ x19 ∧
          ∀ x41 : Int, x41 = Int.fdiv x39 (2 ^ (min (Int.toNat x19) IntKind.u64.bits)) →
          0 ≤ x29 ∧ x29 < (Int.toNat x25 : Int) ∧ (some (blkA b)).isSome = true ∧
          ∃ h5 : Hp, hst h3 (elemA (some (blkA b)) x29 1) [.int .u64 x41] = some h5 ∧
          ∀ x45 : Int, x45 = IntKind.i64.wrap (x16 + x29) →
          ∀ x46 : Int, x46 = IntKind.i64.wrap (x45 + 1) →
          ((decide (x46 < x14)) = true →
            0 ≤ x29 ∧ x29 < (Int.toNat x25 : Int) ∧ (some (blkA b)).isSome = true ∧
            ∀ x56 : Int, x56 = IntKind.i64.wrap (x16 + x29) →
            ∀ x57 : Int, x57 = IntKind.i64.wrap (x56 + 1) →
            0 ≤ x57 ∧ x57 < (x0.n : Int) ∧ x0.a.isSome = true ∧
            ∀ x61 : Int, x61 = IntKind.u64.wrap ((64 : Int) - x19) →
            ∃ x52 : Int, hld h5 (elemA (some (blkA b)) x29 1) none = some (.int .u64 x52) ∧
            ∃ x59 : Int, hld h5 (elemA x0.a x57 1) none = some (.int .u64 x59) ∧
            (0 : Int) ≤ x61 ∧
            ∀ x62 : Int, x62 = IntKind.u64.wrap (x59 * 2 ^ (min (Int.toNat x61) IntKind.u64.bits)) →
            ∀ x63 : Int, x63 = IntKind.u64.wrap (((BitVec.ofInt IntKind.u64.bits x52 ||| BitVec.ofInt IntKind.u64.bits x62).toNat : Int)) →
            0 ≤ x29 ∧ x29 < (Int.toNat x25 : Int) ∧ (some (blkA b)).isSome = true ∧
            ∃ h6 : Hp, hst h5 (elemA (some (blkA b)) x29 1) [.int .u64 x63] = some h6 ∧
            J h6
          ) ∧ ((decide (x46 < x14)) = false →
            J h5
          )
        ) ∧ ((decide (x29 < (Int.toNat x25 : Int))) = false →
          Tri Try.prog (.func (.func 55) #[] #[]) [.slice (some (blkA b)) (Int.toNat x25) (Int.toNat x25)] h3 fun r1 h7 => ∃ x68 : Int, r1 = .int .i64 x68 ∧
          0 ≤ (0 : Int) ∧ (0 : Int) ≤ x68 ∧ x68 ≤ (Int.toNat x25 : Int) ∧ (Int.toNat x25 : Int) ≤ (Int.toNat x25 : Int) ∧
          R (.tuple #[.slice (sliceA (some (blkA b)) (0 : Int) (Int.toNat x25 : Int) 1) ((x68 - (0 : Int)).toNat) (((Int.toNat x25 : Int) - (0 : Int)).toNat), .int .i64 0]) h7
        )
      )
    )
  )
set_option maxRecDepth 100000 in
theorem t_nat_Shr {x0 : Sl} {x1 : Int} {h : Hp} {R : Value → Hp → Prop} (hv : v_nat_Shr x0 x1 h R) : Tri Try.prog (.func (.func 105) #[] #[]) [x0.v, .int .i64 x1] h R :=
  tri_of_vc mixed Try.func105 (d := d_nat_Shr) (RM := []) (rvs := [.tmp 4, .tmp 5]) (args := [x0.v, .int .i64 x1]) (caps := []) (by kernel_rfl) Try.ntmps105 (V := v_nat_Shr x0 x1 h R) (by kernel_rfl) (by simp) hv

/- trellis/nat.BitLen -/
def d_nat_BitLen : Vd :=
  .seq (.ops [.op 0 ⟨none, some 2, .mov (.i .i64 0)⟩ false (.no)] [0, 2, 3, 7]) (.seq (.ops [.op 0 ⟨none, some 4, .mov (.t 0)⟩ false (.no), .op 1 ⟨none, some 5, .call false (.f 55) [.t 4]⟩ false (.sh (.one (.int .i64))), .op 2 ⟨none, some 3, .mov (.t 5)⟩ false (.no)] [0, 2, 3, 7]) (.seq (.seq (.ops [.op 0 ⟨none, some 6, .mov (.t 3)⟩ false (.no), .op 1 ⟨none, some 7, .bin .eql (.t 6) (.i .i64 0)⟩ false (.sh (.one .val))] [0, 2, 3, 7]) (.cond (.t 7) (.seq (.ops [.op 0 ⟨none, some 2, .mov (.i .i64 0)⟩ false (.no)] [0, 2, 3, 7]) (.ret)) (.skip))) (.seq (.ops [.op 0 ⟨none, some 8, .mov (.t 3)⟩ false (.no), .op 1 ⟨none, some 9, .bin .sub (.t 8) (.i .i64 1)⟩ false (.sh (.one .val)), .op 2 ⟨none, some 10, .bin .mul (.i .i64 64) (.t 9)⟩ false (.sh (.one .val)), .op 3 ⟨none, some 11, .mov (.t 0)⟩ false (.no), .op 4 ⟨none, some 12, .mov (.t 3)⟩ false (.no), .op 5 ⟨none, some 13, .bin .sub (.t 12) (.i .i64 1)⟩ false (.sh (.one .val)), .op 6 ⟨none, some 14, .ia 1 (.t 11) (.t 13)⟩ false (.no), .op 7 ⟨none, some 15, .ldh none (.t 14)⟩ false (.sh (.one (.int .u64))), .op 8 ⟨none, some 16, .call false (.f 56) [.t 15]⟩ false (.sh (.one (.int .i64))), .op 9 ⟨none, some 17, .bin .add (.t 10) (.t 16)⟩ false (.sh (.one .val)), .op 10 ⟨none, some 2, .mov (.t 17)⟩ false (.no)] [0, 2, 3, 7]) (.ret))))
def v_nat_BitLen (a : Sl) (h : Hp) (R : Value → Hp → Prop) : Prop :=
  Tri Try.prog (.func (.func 55) #[] #[]) [a.v] h fun r h1 => ∃ x5 : Int, r = .int .i64 x5 ∧
  ((decide (x5 = 0)) = true →
    R (.int .i64 0) h1
  ) ∧ ((decide (x5 = 0)) = false →
    ∀ x9 : Int, x9 = IntKind.i64.wrap (x5 - 1) →
    ∀ x10 : Int, x10 = IntKind.i64.wrap ((64 : Int) * x9) →
    ∀ x13 : Int, x13 = IntKind.i64.wrap (x5 - 1) →
    0 ≤ x13 ∧ x13 < (a.n : Int) ∧ a.a.isSome = true ∧
    ∃ x15 : Int, hld h1 (elemA a.a x13 1) none = some (.int .u64 x15) ∧
    Tri Try.prog (.func (.func 56) #[] #[]) [.int .u64 x15] h1 fun r1 h2 => ∃ x16 : Int, r1 = .int .i64 x16 ∧
    ∀ x17 : Int, x17 = IntKind.i64.wrap (x10 + x16) →
    R (.int .i64 x17) h2
  )
set_option maxRecDepth 100000 in
theorem t_nat_BitLen {a : Sl} {h : Hp} {R : Value → Hp → Prop} (hv : v_nat_BitLen a h R) : Tri Try.prog (.func (.func 28) #[] #[]) [a.v] h R :=
  tri_of_vc mixed Try.func28 (d := d_nat_BitLen) (RM := []) (rvs := [.tmp 2]) (args := [a.v]) (caps := []) (by kernel_rfl) Try.ntmps28 (V := v_nat_BitLen a h R) (by kernel_rfl) (by simp) hv

end Go.Proofs.Ytmfafadchpglgaa

/- bits.Add64, bits.Sub64: the model stands in for both. -/
namespace Go.Proofs.Ytmfafadchpglgaa
set_option maxRecDepth 20000

theorem tri_value {P : Program} {f : Nat} {args : List Value} {v : Value} (he : ∀ w, (callFunc f args.toArray).run P w = .ok (.value v) w) {h : Hp} : Tri P (.func (.func f) #[] #[]) args h fun u h' => h' = h ∧ u = v := by
  intro w hs _
  have : (Deferred.ofValue (.func (.func f) #[] #[]) args.toArray >>= fun d => invoke d.target d.args).run P w = .ok (.value v) w := by
    simpa [Deferred.ofValue, invoke] using he w
  show CallV P _ _ _ _
  unfold CallV
  rw [this]
  exact ⟨h, ⟨rfl, rfl⟩, Fr.refl hs⟩

theorem bits_Add64 (x y c : Nat) (hc : c ≤ 1) {h : Hp} : Tri Try.prog (.func (.func 90) #[] #[]) [.int .u64 x, .int .u64 y, .int .u64 c] h
    fun v h' => h' = h ∧ v = .tuple #[.int .u64 (((x + y + c) % B : Nat) : Int), .int .u64 (((x + y + c) / B : Nat) : Int)] := by
  refine tri_value fun w => ?_
  rw [run_callFunc_extern Try.func90 (by kernel_rfl) (by kernel_rfl) (by kernel_rfl) (e := (Extern.MathBitsCarry.rows.getD 0 ("", fun _ => pure .nilFunc)).2) (by kernel_rfl)]
  have : c = 0 ∨ c = 1 := by omega
  rcases this with rfl | rfl <;> rfl

theorem bits_Sub64 (x y b : Nat) (hb : b ≤ 1) {h : Hp} : Tri Try.prog (.func (.func 91) #[] #[]) [.int .u64 x, .int .u64 y, .int .u64 b] h
    fun v h' => h' = h ∧ v = .tuple #[.int .u64 (((x + B - y - b) % B : Nat) : Int), .int .u64 ((if x < y + b then 1 else 0 : Nat) : Int)] := by
  refine tri_value fun w => ?_
  rw [run_callFunc_extern Try.func91 (by kernel_rfl) (by kernel_rfl) (by kernel_rfl) (e := (Extern.MathBitsCarry.rows.getD 1 ("", fun _ => pure .nilFunc)).2) (by kernel_rfl)]
  have : b = 0 ∨ b = 1 := by omega
  rcases this with rfl | rfl <;> rfl

end Go.Proofs.Ytmfafadchpglgaa

/- nat: what the functions make of words. -/
namespace Go.Proofs.Ytmfafadchpglgaa
set_option maxRecDepth 20000

theorem nat_size {h : Hp} {a : Sl} {ws : List Nat} (g : Ws h a ws) (hl : ws.length < 4611686018427387904) : Tri Try.prog (.func (.func 55) #[] #[]) [a.v] h fun v h' => h' = h ∧ v = .int .i64 (sz ws : Int) := by
  refine t_nat_size ?_
  have hn := g.len
  refine ⟨fun n h1 => h1 = h ∧ 0 ≤ n ∧ n ≤ ws.length ∧ ∀ i, n.toNat ≤ i → ws.getD i 0 = 0, fun n _ => n.toNat, ⟨rfl, by omega, by omega, fun i hi => ?_⟩, ?_⟩
  · have : ws.length ≤ i := by omega
    simp [List.getD, List.getElem?_eq_none this]
  · rintro n h1 ⟨rfl, h0, h2, h3⟩ J hJ
    have key : ∀ x, (x = true ↔ 0 < n ∧ ws.getD (n - 1).toNat 0 = 0) → J x h1 := by
      intro x hx
      refine hJ x h1 ⟨fun e n1 e1 => ?_, fun e => ?_⟩
      · obtain ⟨p1, p2⟩ := hx.1 e
        rw [i64w (by omega) (by omega)] at e1
        refine ⟨⟨rfl, by omega, by omega, fun i hi => ?_⟩, by dsimp only; omega⟩
        by_cases hin : n.toNat ≤ i
        · exact h3 i hin
        · have : i = (n - 1).toNat := by omega
          rw [this]; exact p2
      · refine ⟨rfl, ?_⟩
        have : n.toNat = sz ws := sz_unique h3 (fun hp hz => by
          have e2 : (n - 1).toNat = n.toNat - 1 := by omega
          have := hx.2 ⟨by omega, by rw [e2]; exact hz⟩
          rw [e] at this; cases this)
        rw [← this]
        congr 1
        omega
    refine ⟨fun hc x11 e1 => ?_, fun hc => ?_⟩
    · simp only [decide_eq_true_eq] at hc
      rw [i64w (by omega) (by omega)] at e1
      subst e1
      refine ⟨by omega, by omega, g.isS (by omega), _, g.ld (by omega) (by omega), key _ ?_⟩
      simp only [decide_eq_true_eq]
      constructor
      · intro h; exact ⟨hc, by omega⟩
      · intro h; omega
    · simp only [decide_eq_false_iff_not] at hc
      exact key _ (by simp; omega)

theorem nat_own {h : Hp} {a : Sl} {ws : List Nat} (g : Ws h a ws) (hl : ws.length < 1099511627776) : Tri Try.prog (.func (.func 62) #[] #[]) [a.v] h fun v h' => h.le h' ∧ ∃ s : Sl, v = s.v ∧ NatR h h' s (vl ws) := by
  refine t_nat_own ((nat_size g (by omega)).mono ?_)
  rintro r h1 ⟨rfl, rfl⟩
  have hs := sz_le ws
  refine ⟨_, rfl, by omega, by omega, by omega, by omega, ?_⟩
  rintro b h2 hb rfl
  have hle : h1.le (h1.up b ⟨mkCells [.int .u64 0] (Int.toNat (sz ws : Int) * 1), true⟩) := Hp.le_up _ hb
  have g2 := g.le hle
  have hm : Nat.min a.n (Int.toNat (sz ws : Int)) = sz ws := by rw [g.len]; exact Nat.min_eq_right (by simpa using hs)
  rw [hm]
  refine ⟨_, g2.first hs, ?_⟩
  have hlen : (mkCells [.int .u64 0] (Int.toNat (sz ws : Int) * 1)).length = sz ws := by simp [mkCells]
  have hyl : ((ws.take (sz ws)).map uw).length = sz ws := by simp; omega
  simp only [cpyRes]
  rw [hst_at (up_get _ _ _) (by rw [hlen, hyl]; omega)]
  refine ⟨_, rfl, ?_⟩
  have hset : setAt (mkCells [.int .u64 0] (Int.toNat (sz ws : Int) * 1)) 0 ((ws.take (sz ws)).map uw) = (ws.take (sz ws)).map uw := by
    simp only [setAt, List.take_zero, List.nil_append, Nat.zero_add, hyl]
    rw [List.drop_of_length_le (by omega)]
    simp
  rw [hset, Hp.up_up]
  refine ⟨Hp.le_up _ hb, ⟨some (blkA b), sz ws, sz ws⟩, by simp [Sl.v], ?_⟩
  unfold NatR
  rw [← take_sz g.lt]
  refine Or.inr ⟨b, ws.take (sz ws), rfl, hb, up_get _ _ _, by rw [List.length_take]; dsimp only; omega, by rw [List.length_take]; dsimp only; omega, by rw [List.take_of_length_le (Nat.le_refl _)], Nat.le_refl _⟩

theorem nat_Least {h : Hp} {a : Sl} {ws : List Nat} (g : Ws h a ws) (hl : ws.length < 1099511627776) : Tri Try.prog (.func (.func 35) #[] #[]) [a.v] h fun v h' => h.le h' ∧ ∃ s : Sl, v = s.v ∧ NatR h h' s (vl ws) :=
  t_nat_Least ((nat_own g hl).mono fun _ _ ⟨hle, s, hv, hr⟩ => ⟨s, hv, hle, s, rfl, hr⟩)

theorem nat_Add {h : Hp} {a b : Sl} {xs ys : List Nat} (ga : Ws h a xs) (gb : Ws h b ys) (hx : xs.length < 1099511627776) (hy : ys.length < 1099511627776) :
    Tri Try.prog (.func (.func 75) #[] #[]) [a.v, b.v] h fun v h' => h.le h' ∧ ∃ s : Sl, v = s.v ∧ NatR h h' s (vl xs + vl ys) := by
  refine t_nat_Add ?_
  intro J hJ
  have hB : B = 18446744073709551616 := rfl
  have main : ∀ (a1 b1 : Sl) (us ws : List Nat), Ws h a1 us → Ws h b1 ws → us.length < 1099511627776 → ws.length < 1099511627776 → sz ws ≤ sz us → vl us + vl ws = vl xs + vl ys → J a1 b1 h := by
    intro a1 b1 us ws g1 g2 hu hw hs ht
    refine hJ a1 b1 h ((nat_size g1 (by omega)).mono ?_)
    rintro _ _ ⟨rfl, rfl⟩
    refine ⟨_, rfl, (nat_size g2 (by omega)).mono ?_⟩
    rintro _ h0 ⟨rfl, rfl⟩
    have hsu := sz_le us
    have hsw := sz_le ws
    refine ⟨_, rfl, fun x22 e22 => ?_⟩
    rw [i64w (by omega) (by omega)] at e22
    subst e22
    refine ⟨by omega, by omega, by omega, by omega, ?_⟩
    rintro b2 h4 hb2 rfl
    have e1 : Int.toNat ((sz us : Int) + 1) = sz us + 1 := by omega
    rw [e1, mkZ]
    have hle : ∀ x, h0.le (h0.up b2 x) := fun x => Hp.le_up _ hb2
    refine ⟨fun carry i h5 => ∃ (zs : List Nat) (c : Nat), i = zs.length ∧ zs.length ≤ sz us ∧ carry = c ∧ c ≤ 1 ∧ h5 = h0.up b2 ⟨(zs ++ List.replicate (sz us + 1 - zs.length) 0).map uw, true⟩ ∧ (∀ z ∈ zs, z < B) ∧
      vl zs + B ^ zs.length * c = vl (us.take zs.length) + vl (ws.take zs.length), fun _ i _ => sz us - i.toNat, ⟨[], 0, rfl, by simp, rfl, by omega, by simp, by simp, by simp [vl]⟩, ?_⟩
    rintro carry i h5 ⟨zs, c, rfl, hz, rfl, hc, rfl, hlt, hv⟩
    refine ⟨fun hi J1 hJ1 => ?_, fun hi => ?_⟩
    · simp only [decide_eq_true_eq] at hi
      have hi' : zs.length < sz us := by omega
      have g1' := g1.le (hle ⟨(zs ++ List.replicate (sz us + 1 - zs.length) 0).map uw, true⟩)
      have g2' := g2.le (hle ⟨(zs ++ List.replicate (sz us + 1 - zs.length) 0).map uw, true⟩)
      have k1 : ∀ w : Int, w = (ws.getD zs.length 0 : Nat) → J1 w (h0.up b2 ⟨(zs ++ List.replicate (sz us + 1 - zs.length) 0).map uw, true⟩) := by
        rintro w rfl
        refine hJ1 _ _ ⟨by omega, by rw [g1.len]; omega, g1.isS (by omega), _, g1'.ld (by omega) (by omega), ?_⟩
        simp only [Int.toNat_natCast]
        refine (bits_Add64 _ _ _ hc).mono ?_
        rintro _ h7 ⟨rfl, rfl⟩
        refine ⟨_, _, rfl, by omega, by omega, rfl, _, hst_word (up_get _ _ _) (by omega) (by simp; omega), ?_⟩
        intro x50 e50
        rw [i64w (by omega) (by omega)] at e50
        subst e50
        have hx1 := g1.getD_lt zs.length
        have hx2 := g2.getD_lt zs.length
        obtain ⟨k, hk⟩ : ∃ k, sz us + 1 - zs.length = k + 1 := ⟨sz us - zs.length, by omega⟩
        have hk2 : sz us + 1 - (zs ++ [(us.getD zs.length 0 + ws.getD zs.length 0 + c) % B]).length = k := by simp; omega
        refine ⟨⟨zs ++ [(us.getD zs.length 0 + ws.getD zs.length 0 + c) % B], (us.getD zs.length 0 + ws.getD zs.length 0 + c) / B, by simp, by simp; omega, rfl, ?_, ?_, ?_, ?_⟩, by omega⟩
        · exact Nat.lt_succ_iff.1 (Nat.div_lt_of_lt_mul (by omega))
        · rw [Hp.up_up, hk2, hk, Int.toNat_natCast, set_fill]
        · intro z hz
          rw [List.mem_append, List.mem_singleton] at hz
          rcases hz with h | rfl
          · exact hlt z h
          · exact Nat.mod_lt _ (by decide)
        · rw [vl_snoc, List.length_append, List.length_singleton, vl_take_succ, vl_take_succ, Nat.pow_succ]
          exact add_step (Nat.mod_add_div _ _) hv
      refine ⟨fun hm => ?_, fun hm => ?_⟩
      · simp only [decide_eq_true_eq] at hm
        exact ⟨by omega, by rw [g2.len]; omega, g2.isS (by omega), _, g2'.ld (by omega) (by omega), k1 _ (by simp)⟩
      · simp only [decide_eq_false_iff_not] at hm
        exact k1 0 (by rw [sz_zero ws zs.length (by omega)]; rfl)
    · simp only [decide_eq_false_iff_not] at hi
      have hzl : zs.length = sz us := by omega
      have hk : sz us + 1 - zs.length = 0 + 1 := by omega
      refine ⟨by omega, by omega, rfl, _, hst_word (up_get _ _ _) (by omega) (by simp; omega), ?_⟩
      rw [Hp.up_up, Int.toNat_natCast, hk, ← hzl, set_fill]
      simp only [List.replicate_zero, List.append_nil]
      have hltc : ∀ w ∈ zs ++ [c], w < B := by
        intro z hz
        rw [List.mem_append, List.mem_singleton] at hz
        rcases hz with h | rfl
        · exact hlt z h
        · exact Nat.lt_of_le_of_lt hc (by decide)
      have hlen : (zs ++ [c]).length = zs.length + 1 := by simp
      have gz : Ws (h0.up b2 ⟨(zs ++ [c]).map uw, true⟩) ⟨some (blkA b2), zs.length + 1, zs.length + 1⟩ (zs ++ [c]) := by
        rw [← hlen]; exact Ws.blk (up_get _ _ _) hltc (Nat.le_refl _)
      refine (nat_size gz (by omega)).mono ?_
      rintro _ h10 ⟨rfl, rfl⟩
      have hsl := sz_le (zs ++ [c])
      refine ⟨_, rfl, by omega, by omega, by omega, by omega, hle _, ⟨some (blkA b2), sz (zs ++ [c]), zs.length + 1⟩, ?_, ?_⟩
      · rw [sliceA_zero]; simp [Sl.v]
      · have hvl : vl (zs ++ [c]) = vl xs + vl ys := by
          rw [vl_snoc, hv, hzl, vl_take_sz, vl_take_ge (by omega)]
          exact ht
        rw [← hvl]
        exact NatR.trim hb2 (up_get _ _ _) hltc hlen.symm
  refine (nat_size ga (by omega)).mono ?_
  rintro _ _ ⟨rfl, rfl⟩
  refine ⟨_, rfl, (nat_size gb (by omega)).mono ?_⟩
  rintro _ h0 ⟨rfl, rfl⟩
  refine ⟨_, rfl, fun hc => ?_, fun hc => ?_⟩
  · simp only [decide_eq_true_eq] at hc
    exact main b a ys xs gb ga hy hx (by omega) (by omega)
  · simp only [decide_eq_false_iff_not] at hc
    exact main a b xs ys ga gb hx hy (by omega) rfl

theorem nat_Cmp {h : Hp} {a b : Sl} {xs ys : List Nat} (ga : Ws h a xs) (gb : Ws h b ys) (hx : xs.length < 1099511627776) (hy : ys.length < 1099511627776) :
    Tri Try.prog (.func (.func 53) #[] #[]) [a.v, b.v] h fun v h' => h' = h ∧ v = .int .i64 (cmpN (vl xs) (vl ys)) := by
  have hB : B = 18446744073709551616 := rfl
  refine t_nat_Cmp ((nat_size ga (by omega)).mono ?_)
  rintro _ _ ⟨rfl, rfl⟩
  refine ⟨_, rfl, (nat_size gb (by omega)).mono ?_⟩
  rintro _ h0 ⟨rfl, rfl⟩
  have hsx := sz_le xs
  have hsy := sz_le ys
  have lt : vl xs < vl ys → cmpN (vl xs) (vl ys) = -1 := fun h => by simp [cmpN, h]
  have gt : vl ys < vl xs → cmpN (vl xs) (vl ys) = 1 := fun h => by simp [cmpN, h, Nat.lt_asymm h]
  refine ⟨_, rfl, fun hne => ⟨fun hc => ⟨rfl, ?_⟩, fun hc => ⟨rfl, ?_⟩⟩, fun he => ?_⟩
  · simp only [decide_eq_true_eq] at hc
    rw [lt (vl_lt_sz ga.lt (by omega))]
  · simp at hc hne
    rw [gt (vl_lt_sz gb.lt (by omega))]
  · simp at he
    intro x17 e17
    rw [i64w (by omega) (by omega)] at e17
    refine ⟨fun i h' => h' = h0 ∧ -1 ≤ i ∧ i < sz xs ∧ vl (xs.drop (i + 1).toNat) = vl (ys.drop (i + 1).toNat), fun i _ => (i + 1).toNat, ⟨rfl, by omega, by omega, ?_⟩, ?_⟩
    · rw [vl_drop_sz (by omega), vl_drop_sz (by omega)]
    · rintro i h' ⟨rfl, h1, h2, h3⟩
      refine ⟨fun hi => ?_, fun hi => ⟨rfl, ?_⟩⟩
      · simp only [decide_eq_true_eq] at hi
        have e1 : (i + 1).toNat = i.toNat + 1 := by omega
        rw [e1] at h3
        refine ⟨hi, by rw [ga.len]; omega, ga.isS (by omega), hi, by rw [gb.len]; omega, gb.isS (by omega), _, ga.ld hi (by omega), _, gb.ld hi (by omega), fun hc => ⟨rfl, ?_⟩, fun hc => ?_⟩
        · simp only [decide_eq_true_eq] at hc
          rw [lt (vl_cmp ga.lt i.toNat h3 (by omega))]
        · simp only [decide_eq_false_iff_not] at hc
          refine ⟨hi, by rw [ga.len]; omega, ga.isS (by omega), hi, by rw [gb.len]; omega, gb.isS (by omega), _, ga.ld hi (by omega), _, gb.ld hi (by omega), fun hd => ⟨rfl, ?_⟩, fun hd => ?_⟩
          · simp only [decide_eq_true_eq] at hd
            rw [gt (vl_cmp gb.lt i.toNat h3.symm (by omega))]
          · simp only [decide_eq_false_iff_not] at hd
            intro i1 e
            rw [i64w (by omega) (by omega)] at e
            subst e
            refine ⟨⟨rfl, by omega, by omega, ?_⟩, by dsimp only; omega⟩
            have e2 : (i - 1 + 1).toNat = i.toNat := by omega
            rw [e2, vl_drop, vl_drop ys, h3]
            omega
      · simp only [decide_eq_false_iff_not] at hi
        have e1 : (i + 1).toNat = 0 := by omega
        rw [e1] at h3
        simp at h3
        simp [cmpN, h3]

theorem nat_Sub {h : Hp} {a b : Sl} {xs ys : List Nat} (ga : Ws h a xs) (gb : Ws h b ys) (hx : xs.length < 1099511627776) (hy : ys.length < 1099511627776) :
    Tri Try.prog (.func (.func 76) #[] #[]) [a.v, b.v] h fun v h' =>
      (vl xs < vl ys ∧ h' = h ∧ v = .tuple #[.slice none 0 0, .int .i64 3]) ∨ (vl ys ≤ vl xs ∧ h.le h' ∧ ∃ s : Sl, v = .tuple #[s.v, .int .i64 0] ∧ NatR h h' s (vl xs - vl ys)) := by
  have hB : B = 18446744073709551616 := rfl
  refine t_nat_Sub ((nat_Cmp ga gb hx hy).mono ?_)
  rintro _ _ ⟨rfl, rfl⟩
  refine ⟨_, rfl, fun hc => ?_, fun hc => ?_⟩
  · simp only [decide_eq_true_eq] at hc
    refine Or.inl ⟨?_, rfl, rfl⟩
    unfold cmpN at hc
    split at hc
    · assumption
    · split at hc <;> omega
  · simp only [decide_eq_false_iff_not] at hc
    have hge : vl ys ≤ vl xs := by
      unfold cmpN at hc
      split at hc
      · omega
      · omega
    refine (nat_size ga (by omega)).mono ?_
    rintro _ _ ⟨rfl, rfl⟩
    refine ⟨_, rfl, (nat_size gb (by omega)).mono ?_⟩
    rintro _ h0 ⟨rfl, rfl⟩
    have hsu := sz_le xs
    have hsw := sz_le ys
    have hs : sz ys ≤ sz xs := by
      rcases Nat.lt_or_ge (sz xs) (sz ys) with h | h
      · have := vl_lt_sz ga.lt h; omega
      · exact h
    refine ⟨_, rfl, by omega, by omega, by omega, by omega, ?_⟩
    rintro b2 h4 hb2 rfl
    rw [Int.toNat_natCast, mkZ]
    have hle : ∀ x, h0.le (h0.up b2 x) := fun x => Hp.le_up _ hb2
    refine ⟨fun lent i h5 => ∃ (zs : List Nat) (c : Nat), i = zs.length ∧ zs.length ≤ sz xs ∧ lent = c ∧ c ≤ 1 ∧ h5 = h0.up b2 ⟨(zs ++ List.replicate (sz xs - zs.length) 0).map uw, true⟩ ∧ (∀ z ∈ zs, z < B) ∧
      vl zs + vl (ys.take zs.length) = vl (xs.take zs.length) + B ^ zs.length * c, fun _ i _ => sz xs - i.toNat, ⟨[], 0, rfl, by simp, rfl, by omega, by simp, by simp, by simp [vl]⟩, ?_⟩
    rintro lent i h5 ⟨zs, c, rfl, hz, rfl, hc', rfl, hlt, hv⟩
    refine ⟨fun hi J1 hJ1 => ?_, fun hi => ?_⟩
    · simp only [decide_eq_true_eq] at hi
      have hi' : zs.length < sz xs := by omega
      have g1' := ga.le (hle ⟨(zs ++ List.replicate (sz xs - zs.length) 0).map uw, true⟩)
      have g2' := gb.le (hle ⟨(zs ++ List.replicate (sz xs - zs.length) 0).map uw, true⟩)
      have k1 : ∀ w : Int, w = (ys.getD zs.length 0 : Nat) → J1 w (h0.up b2 ⟨(zs ++ List.replicate (sz xs - zs.length) 0).map uw, true⟩) := by
        rintro w rfl
        refine hJ1 _ _ ⟨by omega, by rw [ga.len]; omega, ga.isS (by omega), _, g1'.ld (by omega) (by omega), ?_⟩
        simp only [Int.toNat_natCast]
        refine (bits_Sub64 _ _ _ hc').mono ?_
        rintro _ h7 ⟨rfl, rfl⟩
        refine ⟨_, _, rfl, by omega, by omega, rfl, _, hst_word (up_get _ _ _) (by omega) (by simp; omega), ?_⟩
        intro x50 e50
        rw [i64w (by omega) (by omega)] at e50
        subst e50
        have hx1 := ga.getD_lt zs.length
        have hx2 := gb.getD_lt zs.length
        obtain ⟨k, hk⟩ : ∃ k, sz xs - zs.length = k + 1 := ⟨sz xs - zs.length - 1, by omega⟩
        have hk2 : sz xs - (zs ++ [(xs.getD zs.length 0 + B - ys.getD zs.length 0 - c) % B]).length = k := by simp; omega
        refine ⟨⟨zs ++ [(xs.getD zs.length 0 + B - ys.getD zs.length 0 - c) % B], (if xs.getD zs.length 0 < ys.getD zs.length 0 + c then 1 else 0), by simp, by simp; omega, rfl, ?_, ?_, ?_, ?_⟩, by omega⟩
        · split <;> omega
        · rw [Hp.up_up, hk2, hk, Int.toNat_natCast, set_fill]
        · intro z hz
          rw [List.mem_append, List.mem_singleton] at hz
          rcases hz with h | rfl
          · exact hlt z h
          · exact Nat.mod_lt _ (by decide)
        · rw [vl_snoc, List.length_append, List.length_singleton, vl_take_succ, vl_take_succ, Nat.pow_succ]
          refine sub_step ?_ hv
          generalize xs.getD zs.length 0 = x at *
          generalize ys.getD zs.length 0 = y at *
          split
          · rw [Nat.mod_eq_of_lt (by omega)]; omega
          · have : x + B - y - c = (x - y - c) + B := by omega
            rw [this, Nat.add_mod_right, Nat.mod_eq_of_lt (by omega)]; omega
      refine ⟨fun hm => ?_, fun hm => ?_⟩
      · simp only [decide_eq_true_eq] at hm
        exact ⟨by omega, by rw [gb.len]; omega, gb.isS (by omega), _, g2'.ld (by omega) (by omega), k1 _ (by simp)⟩
      · simp only [decide_eq_false_iff_not] at hm
        exact k1 0 (by rw [sz_zero ys zs.length (by omega)]; rfl)
    · simp only [decide_eq_false_iff_not] at hi
      have hzl : zs.length = sz xs := by omega
      have hk : sz xs - zs.length = 0 := by omega
      rw [hk, ← hzl]
      simp only [List.replicate_zero, List.append_nil]
      have gz : Ws (h0.up b2 ⟨zs.map uw, true⟩) ⟨some (blkA b2), zs.length, zs.length⟩ zs := Ws.blk (up_get _ _ _) hlt (Nat.le_refl _)
      refine (nat_size gz (by omega)).mono ?_
      rintro _ h10 ⟨rfl, rfl⟩
      have hsl := sz_le zs
      refine ⟨_, rfl, by omega, by omega, by omega, by omega, Or.inr ⟨hge, hle _, ⟨some (blkA b2), sz zs, zs.length⟩, ?_, ?_⟩⟩
      · rw [sliceA_zero]; simp [Sl.v]
      · have hvl : vl zs = vl xs - vl ys := by
          rw [hzl, vl_take_sz, vl_take_ge (by omega)] at hv
          have hzb := vl_lt hlt
          rw [hzl] at hzb
          have : c = 0 := by
            rcases Nat.eq_zero_or_pos c with h | h
            · exact h
            · have : c = 1 := by omega
              subst this
              omega
          subst this
          omega
        rw [← hvl]
        exact NatR.trim hb2 (up_get _ _ _) hlt rfl

end Go.Proofs.Ytmfafadchpglgaa

/- PRINTED BY vcgen.py: code with hints, the formula to show, the theorem; each check by the kernel. -/
namespace Go.Proofs.Ytmfafadchpglgaa

/- math/bits.Mul64 -/
def d_math_bits_Mul64 : Vd :=
  .seq (.ops [.op 0 ⟨none, some 4, .mov (.i .u64 0)⟩ false (.no), .op 1 ⟨none, some 5, .mov (.i .u64 0)⟩ false (.no)] [0, 1, 4, 5, 6, 7, 8, 9, 10, 11, 12, 13]) (.seq (.ops [.op 0 ⟨none, some 14, .mov (.t 0)⟩ false (.no), .op 1 ⟨none, some 15, .bin .and (.t 14) (.i .u64 4294967295)⟩ false (.sh (.one .val)), .op 2 ⟨none, some 6, .mov (.t 15)⟩ false (.no)] [0, 1, 4, 5, 6, 7, 8, 9, 10, 11, 12, 13]) (.seq (.ops [.op 0 ⟨none, some 16, .mov (.t 0)⟩ false (.no), .op 1 ⟨none, some 17, .bin .shr (.t 16) (.i .u64 32)⟩ false (.sh (.one .val)), .op 2 ⟨none, some 7, .mov (.t 17)⟩ false (.no)] [0, 1, 4, 5, 6, 7, 8, 9, 10, 11, 12, 13]) (.seq (.ops [.op 0 ⟨none, some 18, .mov (.t 1)⟩ false (.no), .op 1 ⟨none, some 19, .bin .and (.t 18) (.i .u64 4294967295)⟩ false (.sh (.one .val)), .op 2 ⟨none, some 8, .mov (.t 19)⟩ false (.no)] [0, 1, 4, 5, 6, 7, 8, 9, 10, 11, 12, 13]) (.seq (.ops [.op 0 ⟨none, some 20, .mov (.t 1)⟩ false (.no), .op 1 ⟨none, some 21, .bin .shr (.t 20) (.i .u64 32)⟩ false (.sh (.one .val)), .op 2 ⟨none, some 9, .mov (.t 21)⟩ false (.no)] [0, 1, 4, 5, 6, 7, 8, 9, 10, 11, 12, 13]) (.seq (.ops [.op 0 ⟨none, some 22, .mov (.t 6)⟩ false (.no), .op 1 ⟨none, some 23, .mov (.t 8)⟩ false (.no), .op 2 ⟨none, some 24, .bin .mul (.t 22) (.t 23)⟩ false (.sh (.one .val)), .op 3 ⟨none, some 10, .mov (.t 24)⟩ false (.no)] [0, 1, 4, 5, 6, 7, 8, 9, 10, 11, 12, 13]) (.seq (.ops [.op 0 ⟨none, some 25, .mov (.t 7)⟩ false (.no), .op 1 ⟨none, some 26, .mov (.t 8)⟩ false (.no), .op 2 ⟨none, some 27, .bin .mul (.t 25) (.t 26)⟩ false (.sh (.one .val)), .op 3 ⟨none, some 28, .mov (.t 10)⟩ false (.no), .op 4 ⟨none, some 29, .bin .shr (.t 28) (.i .u64 32)⟩ false (.sh (.one .val)), .op 5 ⟨none, some 30, .bin .add (.t 27) (.t 29)⟩ false (.sh (.one .val)), .op 6 ⟨none, some 11, .mov (.t 30)⟩ false (.no)] [0, 1, 4, 5, 6, 7, 8, 9, 10, 11, 12, 13]) (.seq (.ops [.op 0 ⟨none, some 31, .mov (.t 11)⟩ false (.no), .op 1 ⟨none, some 32, .bin .and (.t 31) (.i .u64 4294967295)⟩ false (.sh (.one .val)), .op 2 ⟨none, some 12, .mov (.t 32)⟩ false (.no)] [0, 1, 4, 5, 6, 7, 8, 9, 10, 11, 12, 13]) (.seq (.ops [.op 0 ⟨none, some 33, .mov (.t 11)⟩ false (.no), .op 1 ⟨none, some 34, .bin .shr (.t 33) (.i .u64 32)⟩ false (.sh (.one .val)), .op 2 ⟨none, some 13, .mov (.t 34)⟩ false (.no)] [0, 1, 4, 5, 6, 7, 8, 9, 10, 11, 12, 13]) (.seq (.ops [.op 0 ⟨none, some 35, .mov (.t 12)⟩ false (.no), .op 1 ⟨none, some 36, .mov (.t 6)⟩ false (.no), .op 2 ⟨none, some 37, .mov (.t 9)⟩ false (.no), .op 3 ⟨none, some 38, .bin .mul (.t 36) (.t 37)⟩ false (.sh (.one .val)), .op 4 ⟨none, some 39, .bin .add (.t 35) (.t 38)⟩ false (.sh (.one .val)), .op 5 ⟨none, some 12, .mov (.t 39)⟩ false (.no)] [0, 1, 4, 5, 6, 7, 8, 9, 10, 11, 12, 13]) (.seq (.ops [.op 0 ⟨none, some 40, .mov (.t 7)⟩ false (.no), .op 1 ⟨none, some 41, .mov (.t 9)⟩ false (.no), .op 2 ⟨none, some 42, .bin .mul (.t 40) (.t 41)⟩ false (.sh (.one .val)), .op 3 ⟨none, some 43, .mov (.t 13)⟩ false (.no), .op 4 ⟨none, some 44, .bin .add (.t 42) (.t 43)⟩ false (.sh (.one .val)), .op 5 ⟨none, some 45, .mov (.t 12)⟩ false (.no), .op 6 ⟨none, some 46, .bin .shr (.t 45) (.i .u64 32)⟩ false (.sh (.one .val)), .op 7 ⟨none, some 47, .bin .add (.t 44) (.t 46)⟩ false (.sh (.one .val)), .op 8 ⟨none, some 4, .mov (.t 47)⟩ false (.no)] [0, 1, 4, 5, 6, 7, 8, 9, 10, 11, 12, 13]) (.seq (.ops [.op 0 ⟨none, some 48, .mov (.t 0)⟩ false (.no), .op 1 ⟨none, some 49, .mov (.t 1)⟩ false (.no), .op 2 ⟨none, some 50, .bin .mul (.t 48) (.t 49)⟩ false (.sh (.one .val)), .op 3 ⟨none, some 5, .mov (.t 50)⟩ false (.no)] [0, 1, 4, 5, 6, 7, 8, 9, 10, 11, 12, 13]) (.ret))))))))))))
def v_math_bits_Mul64 (x : Int) (y : Int) (h : Hp) (R : Value → Hp → Prop) : Prop :=
  ∀ x0 : Int, x0 = IntKind.u64.wrap (((BitVec.ofInt IntKind.u64.bits x &&& BitVec.ofInt IntKind.u64.bits 4294967295).toNat : Int)) →
  (0 : Int) ≤ 32 ∧
  ∀ x1 : Int, x1 = Int.fdiv x (2 ^ (min (Int.toNat 32) IntKind.u64.bits)) →
  ∀ y0 : Int, y0 = IntKind.u64.wrap (((BitVec.ofInt IntKind.u64.bits y &&& BitVec.ofInt IntKind.u64.bits 4294967295).toNat : Int)) →
  (0 : Int) ≤ 32 ∧
  ∀ y1 : Int, y1 = Int.fdiv y (2 ^ (min (Int.toNat 32) IntKind.u64.bits)) →
  ∀ w0 : Int, w0 = IntKind.u64.wrap (x0 * y0) →
  ∀ x27 : Int, x27 = IntKind.u64.wrap (x1 * y0) →
  (0 : Int) ≤ 32 ∧
  ∀ x29 : Int, x29 = Int.fdiv w0 (2 ^ (min (Int.toNat 32) IntKind.u64.bits)) →
  ∀ t : Int, t = IntKind.u64.wrap (x27 + x29) →
  ∀ w1 : Int, w1 = IntKind.u64.wrap (((BitVec.ofInt IntKind.u64.bits t &&& BitVec.ofInt IntKind.u64.bits 4294967295).toNat : Int)) →
  (0 : Int) ≤ 32 ∧
  ∀ w2 : Int, w2 = Int.fdiv t (2 ^ (min (Int.toNat 32) IntKind.u64.bits)) →
  ∀ x38 : Int, x38 = IntKind.u64.wrap (x0 * y1) →
  ∀ w11 : Int, w11 = IntKind.u64.wrap (w1 + x38) →
  ∀ x42 : Int, x42 = IntKind.u64.wrap (x1 * y1) →
  ∀ x44 : Int, x44 = IntKind.u64.wrap (x42 + w2) →
  (0 : Int) ≤ 32 ∧
  ∀ x46 : Int, x46 = Int.fdiv w11 (2 ^ (min (Int.toNat 32) IntKind.u64.bits)) →
  ∀ hi : Int, hi = IntKind.u64.wrap (x44 + x46) →
  ∀ lo : Int, lo = IntKind.u64.wrap (x * y) →
  R (.tuple #[.int .u64 hi, .int .u64 lo]) h
set_option maxRecDepth 100000 in
theorem t_math_bits_Mul64 {x : Int} {y : Int} {h : Hp} {R : Value → Hp → Prop} (hv : v_math_bits_Mul64 x y h R) : Tri Try.prog (.func (.func 92) #[] #[]) [.int .u64 x, .int .u64 y] h R :=
  tri_of_vc mixed Try.func92 (d := d_math_bits_Mul64) (RM := []) (rvs := [.tmp 4, .tmp 5]) (args := [.int .u64 x, .int .u64 y]) (caps := []) (by kernel_rfl) Try.ntmps92 (V := v_math_bits_Mul64 x y h R) (by kernel_rfl) (by simp) hv

/- math/bits.LeadingZeros64 -/
def d_math_bits_LeadingZeros64 : Vd :=
  .seq (.ops [.op 0 ⟨none, some 2, .mov (.i .i64 0)⟩ false (.no)] [0, 2]) (.seq (.ops [.op 0 ⟨none, some 3, .mov (.t 0)⟩ false (.no), .op 1 ⟨none, some 4, .call false (.f 56) [.t 3]⟩ false (.sh (.one (.int .i64))), .op 2 ⟨none, some 5, .bin .sub (.i .i64 64) (.t 4)⟩ false (.sh (.one .val)), .op 3 ⟨none, some 2, .mov (.t 5)⟩ false (.no)] [0, 2]) (.ret))
def v_math_bits_LeadingZeros64 (x : Int) (h : Hp) (R : Value → Hp → Prop) : Prop :=
  Tri Try.prog (.func (.func 56) #[] #[]) [.int .u64 x] h fun r h1 => ∃ x4 : Int, r = .int .i64 x4 ∧
  ∀ x5 : Int, x5 = IntKind.i64.wrap ((64 : Int) - x4) →
  R (.int .i64 x5) h1
set_option maxRecDepth 100000 in
theorem t_math_bits_LeadingZeros64 {x : Int} {h : Hp} {R : Value → Hp → Prop} (hv : v_math_bits_LeadingZeros64 x h R) : Tri Try.prog (.func (.func 100) #[] #[]) [.int .u64 x] h R :=
  tri_of_vc mixed Try.func100 (d := d_math_bits_LeadingZeros64) (RM := []) (rvs := [.tmp 2]) (args := [.int .u64 x]) (caps := []) (by kernel_rfl) Try.ntmps100 (V := v_math_bits_LeadingZeros64 x h R) (by kernel_rfl) (by simp) hv

/- math/bits.Div64 -/
def d_math_bits_Div64 : Vd :=
  .seq (.ops [.op 0 ⟨none, some 6, .mov (.i .u64 0)⟩ false (.no), .op 1 ⟨none, some 7, .mov (.i .u64 0)⟩ false (.no)] [0, 1, 2, 6, 7, 8, 9, 10, 11, 12, 13, 14, 15, 16, 17, 18, 20, 24, 27, 78, 85, 113, 120]) (.seq (.seq (.ops [.op 0 ⟨none, some 19, .mov (.t 2)⟩ false (.no), .op 1 ⟨none, some 20, .bin .eql (.t 19) (.i .u64 0)⟩ false (.sh (.one .val))] [0, 1, 2, 6, 7, 8, 9, 10, 11, 12, 13, 14, 15, 16, 17, 18, 20, 24, 27, 78, 85, 113, 120]) (.cond (.t 20) (.dead) (.skip))) (.seq (.seq (.ops [.op 0 ⟨none, some 22, .mov (.t 2)⟩ false (.no), .op 1 ⟨none, some 23, .mov (.t 0)⟩ false (.no), .op 2 ⟨none, some 24, .bin .leq (.t 22) (.t 23)⟩ false (.sh (.one .val))] [0, 1, 2, 6, 7, 8, 9, 10, 11, 12, 13, 14, 15, 16, 17, 18, 20, 24, 27, 78, 85, 113, 120]) (.cond (.t 24) (.dead) (.skip))) (.seq (.seq (.ops [.op 0 ⟨none, some 26, .mov (.t 0)⟩ false (.no), .op 1 ⟨none, some 27, .bin .eql (.t 26) (.i .u64 0)⟩ false (.sh (.one .val))] [0, 1, 2, 6, 7, 8, 9, 10, 11, 12, 13, 14, 15, 16, 17, 18, 20, 24, 27, 78, 85, 113, 120]) (.cond (.t 27) (.seq (.ops [.op 0 ⟨none, some 28, .mov (.t 1)⟩ false (.no), .op 1 ⟨none, some 29, .mov (.t 2)⟩ false (.no), .op 2 ⟨none, some 30, .bin .quo (.t 28) (.t 29)⟩ false (.sh (.one .val)), .op 3 ⟨none, some 31, .mov (.t 1)⟩ false (.no), .op 4 ⟨none, some 32, .mov (.t 2)⟩ false (.no), .op 5 ⟨none, some 33, .bin .rem (.t 31) (.t 32)⟩ false (.sh (.one .val)), .op 6 ⟨none, some 6, .mov (.t 30)⟩ false (.no), .op 7 ⟨none, some 7, .mov (.t 33)⟩ false (.no)] [0, 1, 2, 6, 7, 8, 9, 10, 11, 12, 13, 14, 15, 16, 17, 18, 20, 24, 27, 78, 85, 113, 120]) (.ret)) (.skip))) (.seq (.ops [.op 0 ⟨none, some 34, .mov (.t 2)⟩ false (.no), .op 1 ⟨none, some 35, .call false (.f 100) [.t 34]⟩ false (.sh (.one (.int .i64))), .op 2 ⟨none, some 36, .cv .u64 (.t 35)⟩ false (.sh (.one .val)), .op 3 ⟨none, some 8, .mov (.t 36)⟩ false (.no)] [0, 1, 2, 6, 7, 8, 9, 10, 11, 12, 13, 14, 15, 16, 17, 18, 20, 24, 27, 78, 85, 113, 120]) (.seq (.ops [.op 0 ⟨none, some 37, .mov (.t 2)⟩ false (.no), .op 1 ⟨none, some 38, .mov (.t 8)⟩ false (.no), .op 2 ⟨none, some 39, .bin .shl (.t 37) (.t 38)⟩ false (.sh (.one .val)), .op 3 ⟨none, some 2, .mov (.t 39)⟩ false (.no)] [0, 1, 2, 6, 7, 8, 9, 10, 11, 12, 13, 14, 15, 16, 17, 18, 20, 24, 27, 78, 85, 113, 120]) (.seq (.ops [.op 0 ⟨none, some 40, .mov (.t 2)⟩ false (.no), .op 1 ⟨none, some 41, .bin .shr (.t 40) (.i .u64 32)⟩ false (.sh (.one .val)), .op 2 ⟨none, some 9, .mov (.t 41)⟩ false (.no)] [0, 1, 2, 6, 7, 8, 9, 10, 11, 12, 13, 14, 15, 16, 17, 18, 20, 24, 27, 78, 85, 113, 120]) (.seq (.ops [.op 0 ⟨none, some 42, .mov (.t 2)⟩ false (.no), .op 1 ⟨none, some 43, .bin .and (.t 42) (.i .u64 4294967295)⟩ false (.sh (.one .val)), .op 2 ⟨none, some 10, .mov (.t 43)⟩ false (.no)] [0, 1, 2, 6, 7, 8, 9, 10, 11, 12, 13, 14, 15, 16, 17, 18, 20, 24, 27, 78, 85, 113, 120]) (.seq (.ops [.op 0 ⟨none, some 44, .mov (.t 0)⟩ false (.no), .op 1 ⟨none, some 45, .mov (.t 8)⟩ false (.no), .op 2 ⟨none, some 46, .bin .shl (.t 44) (.t 45)⟩ false (.sh (.one .val)), .op 3 ⟨none, some 47, .mov (.t 1)⟩ false (.no), .op 4 ⟨none, some 48, .mov (.t 8)⟩ false (.no), .op 5 ⟨none, some 49, .bin .sub (.i .u64 64) (.t 48)⟩ false (.sh (.one .val)), .op 6 ⟨none, some 50, .bin .shr (.t 47) (.t 49)⟩ false (.sh (.one .val)), .op 7 ⟨none, some 51, .bin .or (.t 46) (.t 50)⟩ false (.sh (.one .val)), .op 8 ⟨none, some 11, .mov (.t 51)⟩ false (.no)] [0, 1, 2, 6, 7, 8, 9, 10, 11, 12, 13, 14, 15, 16, 17, 18, 20, 24, 27, 78, 85, 113, 120]) (.seq (.ops [.op 0 ⟨none, some 52, .mov (.t 1)⟩ false (.no), .op 1 ⟨none, some 53, .mov (.t 8)⟩ false (.no), .op 2 ⟨none, some 54, .bin .shl (.t 52) (.t 53)⟩ false (.sh (.one .val)), .op 3 ⟨none, some 12, .mov (.t 54)⟩ false (.no)] [0, 1, 2, 6, 7, 8, 9, 10, 11, 12, 13, 14, 15, 16, 17, 18, 20, 24, 27, 78, 85, 113, 120]) (.seq (.ops [.op 0 ⟨none, some 55, .mov (.t 12)⟩ false (.no), .op 1 ⟨none, some 56, .bin .shr (.t 55) (.i .u64 32)⟩ false (.sh (.one .val)), .op 2 ⟨none, some 13, .mov (.t 56)⟩ false (.no)] [0, 1, 2, 6, 7, 8, 9, 10, 11, 12, 13, 14, 15, 16, 17, 18, 20, 24, 27, 78, 85, 113, 120]) (.seq (.ops [.op 0 ⟨none, some 57, .mov (.t 12)⟩ false (.no), .op 1 ⟨none, some 58, .bin .and (.t 57) (.i .u64 4294967295)⟩ false (.sh (.one .val)), .op 2 ⟨none, some 14, .mov (.t 58)⟩ false (.no)] [0, 1, 2, 6, 7, 8, 9, 10, 11, 12, 13, 14, 15, 16, 17, 18, 20, 24, 27, 78, 85, 113, 120]) (.seq (.ops [.op 0 ⟨none, some 59, .mov (.t 11)⟩ false (.no), .op 1 ⟨none, some 60, .mov (.t 9)⟩ false (.no), .op 2 ⟨none, some 61, .bin .quo (.t 59) (.t 60)⟩ false (.sh (.one .val)), .op 3 ⟨none, some 15, .mov (.t 61)⟩ false (.no)] [0, 1, 2, 6, 7, 8, 9, 10, 11, 12, 13, 14, 15, 16, 17, 18, 20, 24, 27, 78, 85, 113, 120]) (.seq (.ops [.op 0 ⟨none, some 62, .mov (.t 11)⟩ false (.no), .op 1 ⟨none, some 63, .mov (.t 15)⟩ false (.no), .op 2 ⟨none, some 64, .mov (.t 9)⟩ false (.no), .op 3 ⟨none, some 65, .bin .mul (.t 63) (.t 64)⟩ false (.sh (.one .val)), .op 4 ⟨none, some 66, .bin .sub (.t 62) (.t 65)⟩ false (.sh (.one .val)), .op 5 ⟨none, some 16, .mov (.t 66)⟩ false (.no)] [0, 1, 2, 6, 7, 8, 9, 10, 11, 12, 13, 14, 15, 16, 17, 18, 20, 24, 27, 78, 85, 113, 120]) (.join ⟨[2, 8, 9, 10, 11, 13, 14], [], []⟩ [.t 15 (.int .u64)] (.block 0 (.loop ⟨[2, 8, 9, 10, 11, 13, 14], [], []⟩ [.t 15 (.int .u64), .t 16 (.int .u64)] (.seq (.seq (.ops [.op 0 ⟨none, some 67, .mov (.t 15)⟩ false (.no), .op 1 ⟨none, some 68, .bin .geq (.t 67) (.i .u64 4294967296)⟩ false (.sh (.one .val)), .op 2 ⟨none, some 69, .mov (.t 68)⟩ false (.no), .grp ⟨[2, 8, 9, 10, 11, 13, 14, 15, 16], [], []⟩ [.t 78 (.bool)] [(3, ⟨some (69, false), some 70, .mov (.t 15)⟩, true, .no), (4, ⟨some (69, false), some 71, .mov (.t 10)⟩, false, .no), (5, ⟨some (69, false), some 72, .bin .mul (.t 70) (.t 71)⟩, false, .sh (.one .val)), (6, ⟨some (69, false), some 73, .mov (.t 16)⟩, false, .no), (7, ⟨some (69, false), some 74, .bin .mul (.i .u64 4294967296) (.t 73)⟩, false, .sh (.one .val)), (8, ⟨some (69, false), some 75, .mov (.t 13)⟩, false, .no), (9, ⟨some (69, false), some 76, .bin .add (.t 74) (.t 75)⟩, false, .sh (.one .val)), (10, ⟨some (69, false), some 77, .bin .gtr (.t 72) (.t 76)⟩, false, .sh (.one .val)), (11, ⟨none, some 78, .pick (.t 69) (.b true) (.t 77)⟩, false, .no)]] [0, 1, 2, 6, 7, 8, 9, 10, 11, 12, 13, 14, 15, 16, 17, 18, 20, 24, 27, 78, 85, 113, 120]) (.cond (.t 78) (.skip) (.exit 0))) (.block 1 (.seq (.ops [.op 0 ⟨none, some 79, .mov (.t 15)⟩ false (.no), .op 1 ⟨none, some 80, .bin .sub (.t 79) (.i .u64 1)⟩ false (.sh (.one .val)), .op 2 ⟨none, some 15, .mov (.t 80)⟩ false (.no)] [0, 1, 2, 6, 7, 8, 9, 10, 11, 12, 13, 14, 15, 16, 17, 18, 20, 24, 27, 78, 85, 113, 120]) (.seq (.ops [.op 0 ⟨none, some 81, .mov (.t 16)⟩ false (.no), .op 1 ⟨none, some 82, .mov (.t 9)⟩ false (.no), .op 2 ⟨none, some 83, .bin .add (.t 81) (.t 82)⟩ false (.sh (.one .val)), .op 3 ⟨none, some 16, .mov (.t 83)⟩ false (.no)] [0, 1, 2, 6, 7, 8, 9, 10, 11, 12, 13, 14, 15, 16, 17, 18, 20, 24, 27, 78, 85, 113, 120]) (.seq (.ops [.op 0 ⟨none, some 84, .mov (.t 16)⟩ false (.no), .op 1 ⟨none, some 85, .bin .geq (.t 84) (.i .u64 4294967296)⟩ false (.sh (.one .val))] [0, 1, 2, 6, 7, 8, 9, 10, 11, 12, 13, 14, 15, 16, 17, 18, 20, 24, 27, 78, 85, 113, 120]) (.cond (.t 85) (.exit 0) (.skip))))))))) (.seq (.ops [.op 0 ⟨none, some 86, .mov (.t 11)⟩ false (.no), .op 1 ⟨none, some 87, .bin .mul (.t 86) (.i .u64 4294967296)⟩ false (.sh (.one .val)), .op 2 ⟨none, some 88, .mov (.t 13)⟩ false (.no), .op 3 ⟨none, some 89, .bin .add (.t 87) (.t 88)⟩ false (.sh (.one .val)), .op 4 ⟨none, some 90, .mov (.t 15)⟩ false (.no), .op 5 ⟨none, some 91, .mov (.t 2)⟩ false (.no), .op 6 ⟨none, some 92, .bin .mul (.t 90) (.t 91)⟩ false (.sh (.one .val)), .op 7 ⟨none, some 93, .bin .sub (.t 89) (.t 92)⟩ false (.sh (.one .val)), .op 8 ⟨none, some 17, .mov (.t 93)⟩ false (.no)] [0, 1, 2, 6, 7, 8, 9, 10, 11, 12, 13, 14, 15, 16, 17, 18, 20, 24, 27, 78, 85, 113, 120]) (.seq (.ops [.op 0 ⟨none, some 94, .mov (.t 17)⟩ false (.no), .op 1 ⟨none, some 95, .mov (.t 9)⟩ false (.no), .op 2 ⟨none, some 96, .bin .quo (.t 94) (.t 95)⟩ false (.sh (.one .val)), .op 3 ⟨none, some 18, .mov (.t 96)⟩ false (.no)] [0, 1, 2, 6, 7, 8, 9, 10, 11, 12, 13, 14, 15, 16, 17, 18, 20, 24, 27, 78, 85, 113, 120]) (.seq (.ops [.op 0 ⟨none, some 97, .mov (.t 17)⟩ false (.no), .op 1 ⟨none, some 98, .mov (.t 18)⟩ false (.no), .op 2 ⟨none, some 99, .mov (.t 9)⟩ false (.no), .op 3 ⟨none, some 100, .bin .mul (.t 98) (.t 99)⟩ false (.sh (.one .val)), .op 4 ⟨none, some 101, .bin .sub (.t 97) (.t 100)⟩ false (.sh (.one .val)), .op 5 ⟨none, some 16, .mov (.t 101)⟩ false (.no)] [0, 1, 2, 6, 7, 8, 9, 10, 11, 12, 13, 14, 15, 16, 17, 18, 20, 24, 27, 78, 85, 113, 120]) (.join ⟨[2, 8, 14, 15, 17], [], []⟩ [.t 18 (.int .u64)] (.block 2 (.loop ⟨[2, 8, 9, 10, 14, 15, 17], [], []⟩ [.t 16 (.int .u64), .t 18 (.int .u64)] (.seq (.seq (.ops [.op 0 ⟨none, some 102, .mov (.t 18)⟩ false (.no), .op 1 ⟨none, some 103, .bin .geq (.t 102) (.i .u64 4294967296)⟩ false (.sh (.one .val)), .op 2 ⟨none, some 104, .mov (.t 103)⟩ false (.no), .grp ⟨[2, 8, 9, 10, 14, 15, 16, 17, 18], [], []⟩ [.t 113 (.bool)] [(3, ⟨some (104, false), some 105, .mov (.t 18)⟩, true, .no), (4, ⟨some (104, false), some 106, .mov (.t 10)⟩, false, .no), (5, ⟨some (104, false), some 107, .bin .mul (.t 105) (.t 106)⟩, false, .sh (.one .val)), (6, ⟨some (104, false), some 108, .mov (.t 16)⟩, false, .no), (7, ⟨some (104, false), some 109, .bin .mul (.i .u64 4294967296) (.t 108)⟩, false, .sh (.one .val)), (8, ⟨some (104, false), some 110, .mov (.t 14)⟩, false, .no), (9, ⟨some (104, false), some 111, .bin .add (.t 109) (.t 110)⟩, false, .sh (.one .val)), (10, ⟨some (104, false), some 112, .bin .gtr (.t 107) (.t 111)⟩, false, .sh (.one .val)), (11, ⟨none, some 113, .pick (.t 104) (.b true) (.t 112)⟩, false, .no)]] [0, 1, 2, 6, 7, 8, 9, 10, 11, 12, 13, 14, 15, 16, 17, 18, 20, 24, 27, 78, 85, 113, 120]) (.cond (.t 113) (.skip) (.exit 2))) (.block 3 (.seq (.ops [.op 0 ⟨none, some 114, .mov (.t 18)⟩ false (.no), .op 1 ⟨none, some 115, .bin .sub (.t 114) (.i .u64 1)⟩ false (.sh (.one .val)), .op 2 ⟨none, some 18, .mov (.t 115)⟩ false (.no)] [0, 1, 2, 6, 7, 8, 9, 10, 11, 12, 13, 14, 15, 16, 17, 18, 20, 24, 27, 78, 85, 113, 120]) (.seq (.ops [.op 0 ⟨none, some 116, .mov (.t 16)⟩ false (.no), .op 1 ⟨none, some 117, .mov (.t 9)⟩ false (.no), .op 2 ⟨none, some 118, .bin .add (.t 116) (.t 117)⟩ false (.sh (.one .val)), .op 3 ⟨none, some 16, .mov (.t 118)⟩ false (.no)] [0, 1, 2, 6, 7, 8, 9, 10, 11, 12, 13, 14, 15, 16, 17, 18, 20, 24, 27, 78, 85, 113, 120]) (.seq (.ops [.op 0 ⟨none, some 119, .mov (.t 16)⟩ false (.no), .op 1 ⟨none, some 120, .bin .geq (.t 119) (.i .u64 4294967296)⟩ false (.sh (.one .val))] [0, 1, 2, 6, 7, 8, 9, 10, 11, 12, 13, 14, 15, 16, 17, 18, 20, 24, 27, 78, 85, 113, 120]) (.cond (.t 120) (.exit 2) (.skip))))))))) (.seq (.ops [.op 0 ⟨none, some 121, .mov (.t 15)⟩ false (.no), .op 1 ⟨none, some 122, .bin .mul (.t 121) (.i .u64 4294967296)⟩ false (.sh (.one .val)), .op 2 ⟨none, some 123, .mov (.t 18)⟩ false (.no), .op 3 ⟨none, some 124, .bin .add (.t 122) (.t 123)⟩ false (.sh (.one .val)), .op 4 ⟨none, some 125, .mov (.t 17)⟩ false (.no), .op 5 ⟨none, some 126, .bin .mul (.t 125) (.i .u64 4294967296)⟩ false (.sh (.one .val)), .op 6 ⟨none, some 127, .mov (.t 14)⟩ false (.no), .op 7 ⟨none, some 128, .bin .add (.t 126) (.t 127)⟩ false (.sh (.one .val)), .op 8 ⟨none, some 129, .mov (.t 18)⟩ false (.no), .op 9 ⟨none, some 130, .mov (.t 2)⟩ false (.no), .op 10 ⟨none, some 131, .bin .mul (.t 129) (.t 130)⟩ false (.sh (.one .val)), .op 11 ⟨none, some 132, .bin .sub (.t 128) (.t 131)⟩ false (.sh (.one .val)), .op 12 ⟨none, some 133, .mov (.t 8)⟩ false (.no), .op 13 ⟨none, some 134, .bin .shr (.t 132) (.t 133)⟩ false (.sh (.one .val)), .op 14 ⟨none, some 6, .mov (.t 124)⟩ false (.no), .op 15 ⟨none, some 7, .mov (.t 134)⟩ false (.no)] [0, 1, 2, 6, 7, 8, 9, 10, 11, 12, 13, 14, 15, 16, 17, 18, 20, 24, 27, 78, 85, 113, 120]) (.ret))))))))))))))))))))
def v_math_bits_Div64 (x0 : Int) (x1 : Int) (x2 : Int) (h : Hp) (R : Value → Hp → Prop) : Prop :=
  ((decide (x2 = 0)) = true →
    False
  ) ∧ ((decide (x2 = 0)) = false →
    ((decide (x2 ≤ x0)) = true →
      False
    ) ∧ ((decide (x2 ≤ x0)) = false →
      ((decide (x0 = 0)) = true →
        x2 ≠ 0 ∧
        ∀ x30 : Int, x30 = IntKind.u64.wrap (x1.tdiv x2) →
        x2 ≠ 0 ∧
        ∀ x33 : Int, x33 = x1.tmod x2 →
        R (.tuple #[.int .u64 x30, .int .u64 x33]) h
      ) ∧ ((decide (x0 = 0)) = false →
        Tri Try.prog (.func (.func 100) #[] #[]) [.int .u64 x2] h fun r h1 => ∃ x35 : Int, r = .int .i64 x35 ∧
        ∀ x36 : Int, x36 = IntKind.u64.wrap x35 →
        (0 : Int) ≤ x36 ∧
        ∀ x39 : Int, x39 = IntKind.u64.wrap (x2 * 2 ^ (min (Int.toNat x36) IntKind.u64.bits)) →
        (0 : Int) ≤ 32 ∧
        ∀ x41 : Int, x41 = Int.fdiv x39 (2 ^ (min (Int.toNat 32) IntKind.u64.bits)) →
        ∀ x43 : Int, x43 = IntKind.u64.wrap (((BitVec.ofInt IntKind.u64.bits x39 &&& BitVec.ofInt IntKind.u64.bits 4294967295).toNat : Int)) →
        (0 : Int) ≤ x36 ∧
        ∀ x46 : Int, x46 = IntKind.u64.wrap (x0 * 2 ^ (min (Int.toNat x36) IntKind.u64.bits)) →
        ∀ x49 : Int, x49 = IntKind.u64.wrap ((64 : Int) - x36) →
        (0 : Int) ≤ x49 ∧
        ∀ x50 : Int, x50 = Int.fdiv x1 (2 ^ (min (Int.toNat x49) IntKind.u64.bits)) →
        ∀ x51 : Int, x51 = IntKind.u64.wrap (((BitVec.ofInt IntKind.u64.bits x46 ||| BitVec.ofInt IntKind.u64.bits x50).toNat : Int)) →
        (0 : Int) ≤ x36 ∧
        ∀ x54 : Int, x54 = IntKind.u64.wrap (x1 * 2 ^ (min (Int.toNat x36) IntKind.u64.bits)) →
        (0 : Int) ≤ 32 ∧
        ∀ x56 : Int, x56 = Int.fdiv x54 (2 ^ (min (Int.toNat 32) IntKind.u64.bits)) →
        ∀ x58 : Int, x58 = IntKind.u64.wrap (((BitVec.ofInt IntKind.u64.bits x54 &&& BitVec.ofInt IntKind.u64.bits 4294967295).toNat : Int)) →
        x41 ≠ 0 ∧
        ∀ x61 : Int, x61 = IntKind.u64.wrap (x51.tdiv x41) →
        ∀ x65 : Int, x65 = IntKind.u64.wrap (x61 * x41) →
        ∀ x66 : Int, x66 = IntKind.u64.wrap (x51 - x65) →
        ∀ J : Int → Hp → Prop, (∀ x15 : Int, ∀ h2 : Hp, (
          ∀ x87 : Int, x87 = IntKind.u64.wrap (x51 * 4294967296) →
          ∀ x89 : Int, x89 = IntKind.u64.wrap (x87 + x56) →
          ∀ x92 : Int, x92 = IntKind.u64.wrap (x15 * x39) →
          ∀ x93 : Int, x93 = IntKind.u64.wrap (x89 - x92) →
          x41 ≠ 0 ∧
          ∀ x96 : Int, x96 = IntKind.u64.wrap (x93.tdiv x41) →
          ∀ x100 : Int, x100 = IntKind.u64.wrap (x96 * x41) →
          ∀ x101 : Int, x101 = IntKind.u64.wrap (x93 - x100) →
          ∀ J1 : Int → Hp → Prop, (∀ x18 : Int, ∀ h3 : Hp, (
            ∀ x122 : Int, x122 = IntKind.u64.wrap (x15 * 4294967296) →
            ∀ x124 : Int, x124 = IntKind.u64.wrap (x122 + x18) →
            ∀ x126 : Int, x126 = IntKind.u64.wrap (x93 * 4294967296) →
            ∀ x128 : Int, x128 = IntKind.u64.wrap (x126 + x58) →
            ∀ x131 : Int, x131 = IntKind.u64.wrap (x18 * x39) →
            ∀ x132 : Int, x132 = IntKind.u64.wrap (x128 - x131) →
            (0 : Int) ≤ x36 ∧
            ∀ x134 : Int, x134 = Int.fdiv x132 (2 ^ (min (Int.toNat x36) IntKind.u64.bits)) →
            R (.tuple #[.int .u64 x124, .int .u64 x134]) h3
          ) → J1 x18 h3) →
          ∃ I : Int → Int → Hp → Prop, ∃ mu : Int → Int → Hp → Nat, I x101 x96 h2 ∧ (∀ x16 : Int, ∀ x181 : Int, ∀ h4 : Hp, I x16 x181 h4 →
            ∀ J2 : Bool → Hp → Prop, (∀ x113 : Bool, ∀ h5 : Hp, (
              (x113 = true →
                ∀ x115 : Int, x115 = IntKind.u64.wrap (x181 - 1) →
                ∀ x118 : Int, x118 = IntKind.u64.wrap (x16 + x41) →
                ((decide (4294967296 ≤ x118)) = true →
                  J1 x115 h5
                ) ∧ ((decide (4294967296 ≤ x118)) = false →
                  I x118 x115 h5 ∧ mu x118 x115 h5 < mu x16 x181 h4
                )
              ) ∧ (x113 = false →
                J1 x181 h5
              )
            ) → J2 x113 h5) →
            ((decide (4294967296 ≤ x181)) = true →
            J2 true h4
            ) ∧ ((decide (4294967296 ≤ x181)) = false →
            ∀ x107 : Int, x107 = IntKind.u64.wrap (x181 * x43) →
            ∀ x109 : Int, x109 = IntKind.u64.wrap ((4294967296 : Int) * x16) →
            ∀ x111 : Int, x111 = IntKind.u64.wrap (x109 + x58) →
            J2 (decide (x111 < x107)) h4
            )
          )
        ) → J x15 h2) →
        ∃ I1 : Int → Int → Hp → Prop, ∃ mu1 : Int → Int → Hp → Nat, I1 x61 x66 h1 ∧ (∀ x151 : Int, ∀ x161 : Int, ∀ h6 : Hp, I1 x151 x161 h6 →
          ∀ J3 : Bool → Hp → Prop, (∀ x78 : Bool, ∀ h7 : Hp, (
            (x78 = true →
              ∀ x80 : Int, x80 = IntKind.u64.wrap (x151 - 1) →
              ∀ x83 : Int, x83 = IntKind.u64.wrap (x161 + x41) →
              ((decide (4294967296 ≤ x83)) = true →
                J x80 h7
              ) ∧ ((decide (4294967296 ≤ x83)) = false →
                I1 x80 x83 h7 ∧ mu1 x80 x83 h7 < mu1 x151 x161 h6
              )
            ) ∧ (x78 = false →
              J x151 h7
            )
          ) → J3 x78 h7) →
          ((decide (4294967296 ≤ x151)) = true →
          J3 true h6
          ) ∧ ((decide (4294967296 ≤ x151)) = false →
          ∀ x72 : Int, x72 = IntKind.u64.wrap (x151 * x43) →
          ∀ x74 : Int, x74 = IntKind.u64.wrap ((4294967296 : Int) * x161) →
          ∀ x76 : Int, x76 = IntKind.u64.wrap (x74 + x56) →
          J3 (decide (x76 < x72)) h6
          )
        )
      )
    )
  )
set_option maxRecDepth 100000 in
theorem t_math_bits_Div64 {x0 : Int} {x1 : Int} {x2 : Int} {h : Hp} {R : Value → Hp → Prop} (hv : v_math_bits_Div64 x0 x1 x2 h R) : Tri Try.prog (.func (.func 99) #[] #[]) [.int .u64 x0, .int .u64 x1, .int .u64 x2] h R :=
  tri_of_vc mixed Try.func99 (d := d_math_bits_Div64) (RM := []) (rvs := [.tmp 6, .tmp 7]) (args := [.int .u64 x0, .int .u64 x1, .int .u64 x2]) (caps := []) (by kernel_rfl) Try.ntmps99 (V := v_math_bits_Div64 x0 x1 x2 h R) (by kernel_rfl) (by simp) hv

end Go.Proofs.Ytmfafadchpglgaa

/- bits.Len64, bits.LeadingZeros64, bits.Mul64. The walk of Len64 is the shelf's template's. -/
namespace Go.Proofs.Ytmfafadchpglgaa

set_option maxHeartbeats 4000000 in
set_option maxRecDepth 100000 in
/-- bits.Len64: "Len64 returns the minimum number of bits required to represent x; the result is 0 for x == 0.": IT RETURNS 'Lib.bitLen x'; the world is as it was. ('h0', 'h1': x is a uint64.) -/
theorem len64_calls (x : Int) (w : World) (h0 : 0 ≤ x) (h1 : x ≤ 18446744073709551615) :
    Calls Try.prog 56 #[.int .u64 x] w fun e w' => e = .returned (.int .i64 (Lib.bitLen x.toNat)) ∧ w' = w := by
  go_enter Try.func56, Try.ntmps56
  go_wp2
  all_goals first
    | (go_ret; refine ⟨congrArg Ending.returned (congrArg (Value.int IntKind.i64) ?_), rfl⟩; go_light)
    | (exfalso
       go_light
       have hs := len8tab_size
       omega)
  all_goals first
    | (rw [len8_get (x / 4294967296 / 65536 / 256) _, Lib.len8_of (x / 4294967296 / 65536 / 256) (by omega) (by omega)]
       have e : (x / 4294967296 / 65536 / 256).toNat = x.toNat / 72057594037927936 := by omega
       have l := Lib.bitLen_le8' (x / 4294967296 / 65536 / 256) (by omega) (by omega)
       have s := Lib.bitLen_shift56 x.toNat (by omega) (by omega)
       rw [e] at l ⊢
       exact wrap_add 56 _ _ (by decide) l s)
    | (rw [len8_get (x / 4294967296 / 65536) _, Lib.len8_of (x / 4294967296 / 65536) (by omega) (by omega)]
       have e : (x / 4294967296 / 65536).toNat = x.toNat / 281474976710656 := by omega
       have l := Lib.bitLen_le8' (x / 4294967296 / 65536) (by omega) (by omega)
       have s := Lib.bitLen_shift48 x.toNat (by omega) (by omega)
       rw [e] at l ⊢
       exact wrap_add 48 _ _ (by decide) l s)
    | (rw [len8_get (x / 4294967296 / 256) _, Lib.len8_of (x / 4294967296 / 256) (by omega) (by omega)]
       have e : (x / 4294967296 / 256).toNat = x.toNat / 1099511627776 := by omega
       have l := Lib.bitLen_le8' (x / 4294967296 / 256) (by omega) (by omega)
       have s := Lib.bitLen_shift40 x.toNat (by omega) (by omega)
       rw [e] at l ⊢
       exact wrap_add 40 _ _ (by decide) l s)
    | (rw [len8_get (x / 4294967296) _, Lib.len8_of (x / 4294967296) (by omega) (by omega)]
       have e : (x / 4294967296).toNat = x.toNat / 4294967296 := by omega
       have l := Lib.bitLen_le8' (x / 4294967296) (by omega) (by omega)
       have s := Lib.bitLen_shift32 x.toNat (by omega) (by omega)
       rw [e] at l ⊢
       exact wrap_add 32 _ _ (by decide) l s)
    | (rw [len8_get (x / 65536 / 256) _, Lib.len8_of (x / 65536 / 256) (by omega) (by omega)]
       have e : (x / 65536 / 256).toNat = x.toNat / 16777216 := by omega
       have l := Lib.bitLen_le8' (x / 65536 / 256) (by omega) (by omega)
       have s := Lib.bitLen_shift24 x.toNat (by omega) (by omega)
       rw [e] at l ⊢
       exact wrap_add 24 _ _ (by decide) l s)
    | (rw [len8_get (x / 65536) _, Lib.len8_of (x / 65536) (by omega) (by omega)]
       have e : (x / 65536).toNat = x.toNat / 65536 := by omega
       have l := Lib.bitLen_le8' (x / 65536) (by omega) (by omega)
       have s := Lib.bitLen_shift16 x.toNat (by omega) (by omega)
       rw [e] at l ⊢
       exact wrap_add 16 _ _ (by decide) l s)
    | (rw [len8_get (x / 256) _, Lib.len8_of (x / 256) (by omega) (by omega)]
       have e : (x / 256).toNat = x.toNat / 256 := by omega
       have l := Lib.bitLen_le8' (x / 256) (by omega) (by omega)
       have s := Lib.bitLen_shift8 x.toNat (by omega) (by omega)
       rw [e] at l ⊢
       exact wrap_add 8 _ _ (by decide) l s)
    | (rw [len8_get (x) _, Lib.len8_of (x) (by omega) (by omega)]
       have e : (x).toNat = x.toNat := by omega
       have l := Lib.bitLen_le8' (x) (by omega) (by omega)
       rw [e] at l ⊢
       first | exact wrap_wrap _ l | exact wrap_add 0 _ _ (by decide) l (by omega) | exact wrap_one _ l)

theorem tri_of_calls {P : Program} {f : Nat} {fn : Func} {args : List Value} {v : Value} (hf : P.funcs[f]? = some fn) (hb : fn.body.isNone = false) (hname : (fn.name == "runtime.NumGoroutine") = false)
    (he : ∀ w, Calls P f args.toArray w fun e w' => e = .returned v ∧ w' = w) {h : Hp} : Tri P (.func (.func f) #[] #[]) args h fun u h' => h' = h ∧ u = v := by
  intro w hs _
  have hname' : ¬ fn.name = "runtime.NumGoroutine" := by simpa using hname
  obtain ⟨c, hc⟩ : ∃ c, fn.body = some c := by
    cases e : fn.body with
    | none => rw [e] at hb; cases hb
    | some c => exact ⟨c, rfl⟩
  have : (Deferred.ofValue (.func (.func f) #[] #[]) args.toArray >>= fun d => invoke d.target d.args).run P w = .ok (.enter f args.toArray) w := by
    simp [Deferred.ofValue, invoke, callFunc, hf, hname', hc]
  show CallV P _ _ _ _
  unfold CallV
  rw [this]
  refine CallsIn.mono (callsIn_wide.2 (he w)) ?_
  rintro e w' ⟨rfl, rfl⟩
  exact ⟨_, rfl, h, ⟨rfl, rfl⟩, Fr.refl hs⟩

set_option maxRecDepth 20000 in
theorem bits_Len64 (x : Nat) (hx : x < B) {h : Hp} : Tri Try.prog (.func (.func 56) #[] #[]) [.int .u64 x] h fun v h' => h' = h ∧ v = .int .i64 (Lib.bitLen x) :=
  tri_of_calls Try.func56 (by kernel_rfl) (by kernel_rfl) fun w => by
    have := len64_calls (x : Int) w (by omega) (by have : B = 18446744073709551616 := rfl; omega)
    simpa using this

end Go.Proofs.Ytmfafadchpglgaa

/- bits.Mul64, bits.LeadingZeros64. -/
namespace Go.Proofs.Ytmfafadchpglgaa
set_option maxRecDepth 20000

theorem and_mask (a m k : Nat) (ha : a < 18446744073709551616) (hm : m = 2 ^ k - 1) (hk : k ≤ 64) : ((BitVec.ofInt IntKind.u64.bits (a : Int) &&& BitVec.ofInt IntKind.u64.bits (m : Int)).toNat) = a % 2 ^ k := by
  have h1 : IntKind.u64.bits = 64 := rfl
  rw [h1, BitVec.ofInt_natCast, BitVec.ofInt_natCast, BitVec.toNat_and, BitVec.toNat_ofNat, BitVec.toNat_ofNat, Nat.mod_eq_of_lt ha, hm]
  have h2 : 2 ^ k ≤ 2 ^ 64 := Nat.pow_le_pow_right (by decide) hk
  have h3 : 0 < 2 ^ k := Nat.pow_pos (by decide)
  rw [Nat.mod_eq_of_lt (by omega), Nat.and_two_pow_sub_one_eq_mod]

theorem mask32 (a : Nat) (ha : a < 18446744073709551616) : IntKind.u64.wrap (((BitVec.ofInt IntKind.u64.bits (a : Int) &&& BitVec.ofInt IntKind.u64.bits 4294967295).toNat : Int)) = ((a % 4294967296 : Nat) : Int) := by
  have := and_mask a 4294967295 32 ha (by decide) (by decide)
  rw [show (4294967295 : Int) = ((4294967295 : Nat) : Int) from rfl, this]
  rw [u64w (by omega) (by omega)]
theorem shr32 (a : Nat) : Int.fdiv (a : Int) (2 ^ (min (Int.toNat 32) IntKind.u64.bits)) = ((a / 4294967296 : Nat) : Int) := by
  rw [show (2 ^ (min (Int.toNat 32) IntKind.u64.bits) : Int) = 4294967296 from rfl, Int.fdiv_eq_ediv_of_nonneg _ (by decide)]
  omega
theorem wrapM (a : Nat) : IntKind.u64.wrap (a : Int) = ((a % 18446744073709551616 : Nat) : Int) := by rw [IntKind.wrap_u64]; omega

theorem bits_Mul64 (x y : Nat) (hx : x < B) (hy : y < B) {h : Hp} : Tri Try.prog (.func (.func 92) #[] #[]) [.int .u64 x, .int .u64 y] h
    fun v h' => h' = h ∧ v = .tuple #[.int .u64 ((x * y / B : Nat) : Int), .int .u64 ((x * y % B : Nat) : Int)] := by
  have hB : B = 18446744073709551616 := rfl
  obtain ⟨bd, bt, bw, hhi⟩ := Lib.mul64_hi x y hx hy
  have ba := Lib.half_mul_le (a := x / 4294967296) (b := y / 4294967296) (by omega) (by omega)
  have bb := Lib.half_mul_le (a := x / 4294967296) (b := y % 4294967296) (by omega) (by omega)
  have bc := Lib.half_mul_le (a := x % 4294967296) (b := y / 4294967296) (by omega) (by omega)
  refine t_math_bits_Mul64 ?_
  intro x0 e0
  rw [mask32 x hx] at e0
  subst e0
  refine ⟨by decide, fun x1 e1 => ?_⟩
  rw [shr32] at e1
  subst e1
  intro y0 e2
  rw [mask32 y hy] at e2
  subst e2
  refine ⟨by decide, fun y1 e3 => ?_⟩
  rw [shr32] at e3
  subst e3
  intro w0 e4
  rw [← Int.natCast_mul, wrapM, Nat.mod_eq_of_lt (by omega)] at e4
  subst e4
  intro x27 e5
  rw [← Int.natCast_mul, wrapM, Nat.mod_eq_of_lt (by omega)] at e5
  subst e5
  refine ⟨by decide, fun x29 e6 => ?_⟩
  rw [shr32] at e6
  subst e6
  intro t e7
  rw [← Int.natCast_add, wrapM, Nat.mod_eq_of_lt (by omega)] at e7
  subst e7
  intro w1 e8
  rw [mask32 _ (by omega)] at e8
  subst e8
  refine ⟨by decide, fun w2 e9 => ?_⟩
  rw [shr32] at e9
  subst e9
  intro x38 e10
  rw [← Int.natCast_mul, wrapM, Nat.mod_eq_of_lt (by omega)] at e10
  subst e10
  intro w11 e11
  rw [← Int.natCast_add, wrapM, Nat.mod_eq_of_lt (by omega)] at e11
  subst e11
  intro x42 e12
  rw [← Int.natCast_mul, wrapM, Nat.mod_eq_of_lt (by omega)] at e12
  subst e12
  intro x44 e13
  rw [← Int.natCast_add, wrapM, Nat.mod_eq_of_lt (by omega)] at e13
  subst e13
  refine ⟨by decide, fun x46 e14 => ?_⟩
  rw [shr32] at e14
  subst e14
  intro hi e15
  rw [← Int.natCast_add, wrapM, Nat.mod_eq_of_lt (by omega)] at e15
  subst e15
  intro lo e16
  rw [← Int.natCast_mul, wrapM] at e16
  subst e16
  refine ⟨rfl, ?_⟩
  rw [hB, ← hhi]

end Go.Proofs.Ytmfafadchpglgaa

/- Words within a block of one's own: reading and writing at a place. No program's text. -/
namespace Go.Proofs.Ytmfafadchpglgaa

theorem ld_in {h : Hp} {k off : Nat} {cs : List Nat} {wr : Bool} (hb : h k = some ⟨cs.map uw, wr⟩) {j : Int} (h1 : off + j.toNat < cs.length) : hld h (elemA (some ⟨k, off, none⟩) j 1) none = some (.int .u64 ((cs.getD (off + j.toNat) 0 : Nat) : Int)) := by
  rw [elemA_some]
  simp only [hld, if_true, hb, Option.bind_some, cld, Nat.mul_one]
  simp [uw, h1]

theorem st_in {h : Hp} {k off : Nat} {cs : List Nat} (hb : h k = some ⟨cs.map uw, true⟩) {j : Int} {x : Nat} (h1 : off + j.toNat < cs.length) : hst h (elemA (some ⟨k, off, none⟩) j 1) [.int .u64 (x : Int)] = some (h.up k ⟨(cs.set (off + j.toNat) x).map uw, true⟩) := by
  rw [elemA_some, Nat.mul_one, hst_at hb (by simp; omega)]
  congr 3
  simp only [setAt, List.length_singleton]
  rw [List.map_set, List.set_eq_take_append_cons_drop, if_pos (by simpa using h1)]
  simp [uw]

/-- The memory without a block. -/
def Hp.del (h : Hp) (k : Nat) : Hp := fun j => if j = k then none else h j
theorem Hp.del_le_up (h : Hp) (k : Nat) (x : Blk) : (h.del k).le (h.up k x) := fun j y e => by
  unfold Hp.del at e
  split at e
  · cases e
  · rename_i hj; rw [Hp.up_other _ _ hj]; exact e
theorem Hp.del_le (h : Hp) (k : Nat) : (h.del k).le h := fun j y e => by
  unfold Hp.del at e
  split at e
  · cases e
  · exact e
theorem Hp.le_del {h h' : Hp} {k : Nat} (hl : h.le h') (hk : h k = none) : h.le (h'.del k) := fun j y e => by
  have : j ≠ k := fun e' => by subst e'; rw [hk] at e; cases e
  unfold Hp.del
  rw [if_neg this]
  exact hl _ _ e
theorem Hp.del_mono {h h' : Hp} (hl : h.le h') (k : Nat) : (h.del k).le (h'.del k) := fun j y e => by
  unfold Hp.del at *
  split at e
  · cases e
  · rw [if_neg ‹_›]; exact hl _ _ e
theorem Hp.del_up (h : Hp) (k : Nat) (x : Blk) : (h.up k x).del k = h.del k := by
  funext j; unfold Hp.del Hp.up; split <;> rfl

theorem getD_mid {pre ds rest post : List Nat} {i : Nat} (hi : i = ds.length) (hr : 0 < rest.length) : (pre ++ (ds ++ rest) ++ post).getD (pre.length + i) 0 = rest.getD 0 0 := by
  subst hi
  cases rest with
  | nil => simp at hr
  | cons r rest => simp [List.getD, List.getElem?_append]

theorem set_mid {pre ds post : List Nat} {r x : Nat} {rest : List Nat} : (pre ++ (ds ++ r :: rest) ++ post).set (pre.length + ds.length) x = pre ++ ((ds ++ [x]) ++ rest) ++ post := by
  have : pre ++ (ds ++ r :: rest) ++ post = (pre ++ ds) ++ (r :: (rest ++ post)) := by simp
  rw [this, List.set_append_right _ _ (by simp)]
  simp

end Go.Proofs.Ytmfafadchpglgaa
