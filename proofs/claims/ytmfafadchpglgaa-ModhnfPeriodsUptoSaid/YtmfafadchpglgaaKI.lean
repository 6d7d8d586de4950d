/- What is proved: ModhnfPeriods returns true for every matrix and any two integers whose readings are together of bulk at most 1048576, and leaves its arguments as they were. Conditions: none beyond the given statement's. -/
import Derived.Test.YtmfafadchpglgaaKH
import Derived.Test.YtmfafadchpglgaaRows
import Derived.Lib.SmallJoins
import Derived.Deep.SlicePairs
import Derived.RowKit
import Derived.DataReads
import Derived.WalkKit
import Derived.ProofKit
import Derived.OpenShut
import Derived.JoinedCond

/- ModhnfPeriods. -/
namespace Go.Proofs.Ytmfafadchpglgaa
set_option maxRecDepth 20000

theorem flatM_cong {n : Nat} {R S : Nat → Vec} {i : Nat} (h : ∀ j, j < i → ∀ k, k < n → R j k = S j k) : flatM n R i = flatM n S i := by
  induction i with
  | zero => rfl
  | succ i ih => rw [flatM_succ, flatM_succ, ih fun j hj => h j (by omega), vecL_cong (h i (by omega))]
theorem HerI.eq {n : Nat} {d d' : Int} {L L' : Vec → Prop} {R S : Nat → Vec} (h : HerI n d L R) (h' : HerI n d' L' S) (he : ∀ x, L x ↔ L' x) : flatM n R n = flatM n S n :=
  flatM_cong fun i hi k _ => her_unique h.her h'.her (fun x => (h.lat x).trans ((he x).trans (h'.lat x).symm)) i hi k

/-- The row i of a matrix of rows. -/
theorem rowOf_flatM {n : Nat} {R : Nat → Vec} : ∀ {m i : Nat}, i < m → rowOf (flatM n R m) n i = vecL n (R i)
  | 0, _, h => by omega
  | m + 1, i, h => by
    have hl := flatM_len n R m
    unfold rowOf
    rw [flatM_succ]
    by_cases e : i = m
    · subst e
      rw [List.drop_append_of_le_length (by omega), List.drop_of_length_le (by omega), List.nil_append, List.take_of_length_le (by rw [vecL_len]; exact Nat.le_refl _)]
    · have hi : i < m := by omega
      have h1 : (i + 1) * n ≤ m * n := Nat.mul_le_mul_right _ hi
      rw [Nat.add_mul, Nat.one_mul] at h1
      rw [List.drop_append_of_le_length (by omega), List.take_append_of_le_length (by simp; omega)]
      exact rowOf_flatM hi
theorem vecOf_vecL {n : Nat} {v : Vec} (h : ∀ k, n ≤ k → v k = 0) : vecOf (vecL n v) = v := by
  funext k
  unfold vecOf
  by_cases hk : k < n
  · rw [vecL_get hk]
  · rw [h k (by omega)]
    simp [List.getD, List.getElem?_eq_none (show (vecL n v).length ≤ k by rw [vecL_len]; omega)]

theorem Her.out {n : Nat} {R : Nat → Vec} (h : Her n R) {i : Nat} (hi : i < n) : ∀ k, n ≤ k → R i k = 0 := fun k hk => h.up i hi k (Or.inr hk)

/-- Rows that d divides, with d times the units. -/
theorem her_units {n r : Nat} {d : Int} {ns : List Int} (hd : 0 < d) (hl : ns.length = r * n) (hx : ∀ x ∈ ns, d ∣ x) : HerI n d (LatI ns n d r) (unitV d) := by
  refine ⟨⟨fun i hi k hk => ?_, fun i hi => ?_, fun i k h1 h2 => ?_⟩, fun x => ⟨Lat.mono ?_, Lat.of ?_⟩, fun i hi k => ?_⟩
  · unfold unitV; rw [if_neg (by omega)]
  · unfold unitV; rw [if_pos rfl]; exact hd
  · unfold unitV; rw [if_neg (by omega), if_pos rfl]; omega
  · rintro g ⟨m, _, hm, rfl⟩
    exact Or.inr ⟨m, hm, rfl⟩
  · rintro g (⟨j, hj, rfl⟩ | ⟨j, hj, rfl⟩)
    · refine lat_units (d := d) (j := 0) (n := n) (fun i _ hi => .gen ⟨i, Nat.zero_le _, hi, rfl⟩) (fun k hk => vecOf_out (rowOf_len hl hj) k (by omega)) fun k => ?_
      unfold vecOf
      by_cases hk : k < (rowOf ns n j).length
      · exact hx _ (rowOf_mem (getD_mem hk))
      · rw [show (rowOf ns n j).getD k 0 = 0 by simp [List.getD, List.getElem?_eq_none (by omega : (rowOf ns n j).length ≤ k)]]
        exact ⟨0, by simp⟩
    · exact .gen ⟨j, Nat.zero_le _, hj, rfl⟩
  · unfold unitV; split <;> omega

/-- A second reduction by a divisor. -/
theorem latI_twice {n r : Nat} {d e : Int} {ns : List Int} {R : Nat → Vec} (h : HerI n e (LatI ns n e r) R) (hde : d ∣ e) (x : Vec) : LatI (flatM n R n) n d n x ↔ LatI ns n d r x := by
  have unit : ∀ {G : Vec → Prop} (j : Nat), j < n → (∀ i, i < n → Lat G (unitV d i)) → Lat G (unitV e j) := fun j hj hg => by
    obtain ⟨c, hc⟩ := hde
    refine ((hg j hj).smul c).cong fun k => ?_
    unfold unitV
    split
    · rw [hc, Int.mul_comm]
    · simp
  constructor
  · refine Lat.of ?_
    rintro g (⟨j, hj, rfl⟩ | hg)
    · rw [rowOf_flatM hj, vecOf_vecL (h.her.out hj)]
      have := (h.lat _).1 (.gen ⟨j, Nat.zero_le _, hj, rfl⟩)
      refine Lat.of ?_ this
      rintro g (hg | ⟨i, hi, rfl⟩)
      · exact .gen (Or.inl hg)
      · exact unit i hi fun i hi => .gen (Or.inr ⟨i, hi, rfl⟩)
    · exact .gen (Or.inr hg)
  · refine Lat.of ?_
    rintro g (hg | hg)
    · have := (h.lat g).2 (.gen (Or.inl hg))
      refine Lat.of ?_ this
      rintro g ⟨m, _, hm, rfl⟩
      refine .gen (Or.inl ⟨m, hm, ?_⟩)
      rw [rowOf_flatM hm, vecOf_vecL (h.her.out hm)]
    · exact .gen (Or.inr hg)

theorem flatM_unit {n i : Nat} {d : Int} : (flatM n (unitV 1) i).map (d * ·) = flatM n (unitV d) i := by
  induction i with
  | zero => rfl
  | succ i ih =>
    rw [flatM_succ, flatM_succ, List.map_append, ih]
    congr 1
    unfold vecL
    rw [List.map_map]
    refine List.map_congr_left fun k _ => ?_
    simp only [Function.comp, unitV]
    split <;> simp

theorem SzK.up1 {K : Nat} {x : Int} (h : SzK K x) : SzK (K + 1) ((x.natAbs : Nat) + 1) := by
  unfold SzK at *
  have : ((x.natAbs : Int) + 1).natAbs = x.natAbs + 1 := by omega
  rw [this, Nat.pow_succ]
  have h1 : 1 ≤ B ^ K := Nat.pow_pos (by decide)
  have h2 : B ^ K * 2 ≤ B ^ K * B := Nat.mul_le_mul_left _ (by decide)
  omega

set_option maxHeartbeats 2000000 in
theorem law19_ModhnfPeriods {h : Hp} {m : M} {x1 x2 : Z} {ns : List Int} {a b : Int} {K : Nat} (gr : RowS false h m.el ns) (hs : ∀ x ∈ ns, SzK K x) (g1 : Zs h x1 a) (g2 : Zs h x2 b) (k1 : SzK K a) (k2 : SzK K b) (hK : 65 * (2 * K + 1) + 1 ≤ 34359738368) :
    Tri Try.prog (.func (.func 3) #[] #[]) [m.v, x1.v, x2.v] h fun v h' => h.le h' ∧ v = .bool true := by
  refine t_law19_ModhnfPeriods (law19_awake.mono ?_)
  rintro _ h1 ⟨l1, rfl⟩
  refine ⟨_, rfl, fun hc => by simp at hc, fun _ => (mat_Check m).const ?_⟩
  refine ⟨_, rfl, fun J hJ => ?_⟩
  have bad : J true h1 := hJ _ _ fun J1 hJ1 => ⟨fun _ => hJ1 _ _ ⟨fun _ => ⟨l1, rfl⟩, fun hc => (by cases hc)⟩, fun hc => (by cases hc)⟩
  refine ⟨fun _ => bad, fun hc => (zint_Sign (g1.le l1)).const ?_⟩
  have hok : mokB m = true := by
    cases hm : mokB m with
    | true => rfl
    | false => rw [hm] at hc; simp at hc
  refine ⟨_, rfl, ?_⟩
  by_cases ha : a = 0
  · rw [ha]; exact bad
  have ha' : decide (a.sign = 0) = false := by simp only [decide_eq_false_iff_not]; exact fun e => ha (Int.sign_eq_zero_iff_zero.1 e)
  rw [ha']
  refine hJ _ _ fun J1 hJ1 => ⟨fun hc => (by cases hc), fun _ => (zint_Sign (g2.le l1)).const ?_⟩
  clear bad hJ J ha' hc
  refine ⟨_, rfl, ?_⟩
  by_cases hb : b = 0
  · rw [hb]; exact hJ1 _ _ ⟨fun _ => ⟨l1, rfl⟩, fun hc => (by cases hc)⟩
  have hb' : decide (b.sign = 0) = false := by simp only [decide_eq_false_iff_not]; exact fun e => hb (Int.sign_eq_zero_iff_zero.1 e)
  rw [hb']
  refine hJ1 _ _ ⟨fun hc => (by cases hc), fun _ => ?_⟩
  clear hJ1 J1 hb'
  -- the matrix
  obtain ⟨r, n, gm⟩ : ∃ r n, Mx false h1 m r n ns := by
    simp only [mokB, decide_eq_true_eq] at hok
    have hel := gr.len
    refine ⟨m.rows.toNat, m.cols.toNat, by omega, by omega, by omega, by omega, gr.le l1, ?_⟩
    have h1 := hok.2.2.2.2
    rw [show m.rows = ((m.rows.toNat : Nat) : Int) by omega, show m.cols = ((m.cols.toNat : Nat) : Int) by omega, ← Int.natCast_mul] at h1
    omega
  have gl := gm.len
  replace g1 := g1.le l1
  replace g2 := g2.le l1
  clear gr hok
  have hab : a * b ≠ 0 := Int.mul_ne_zero ha hb
  have kab : SzK (2 * K) (a * b) := by have := k1.mul k2; rwa [← Nat.two_mul] at this
  have ka1 : SzK (2 * K + 1) ((a.natAbs : Nat) + 1) := k1.up1.mono (by omega)
  have kab1 : SzK (2 * K + 1) (((a * b).natAbs : Nat) + 1) := kab.up1
  have hs' : ∀ x ∈ ns, SzK (2 * K + 1) x := fun x hx => (hs x hx).mono (by omega)
  have hda : 0 < ((a.natAbs : Nat) : Int) := by omega
  -- four forms
  refine (modhnf_Modulo gm hs' g1 ha ka1 hK).mono ?_
  rintro _ h5 ⟨l5, m41, R1, rfl, gm41, H1⟩
  refine ⟨_, _, rfl, (zint_Neg (g1.le l5)).mono ?_⟩
  rintro _ h6 ⟨l6, nx, rfl, hnx⟩
  refine ⟨nx, rfl, (modhnf_Modulo ((gm.le l5).le l6) hs' (hnx.zs (k1.neg.sz (by omega))) (by omega) (by rw [Int.natAbs_neg]; exact ka1) hK).mono ?_⟩
  rintro _ h7 ⟨l7, m48, R2, rfl, gm48, H2⟩
  rw [Int.natAbs_neg] at H2
  have e2 := H2.eq H1 fun x => Iff.rfl
  rw [e2] at gm48
  have l17 := Hp.le_trans l5 (Hp.le_trans l6 l7)
  refine ⟨_, _, rfl, (zint_Mul (g1.le l17) (g2.le l17)).mono ?_⟩
  rintro _ h8 ⟨l8, px, rfl, hpx⟩
  refine ⟨px, rfl, (modhnf_Modulo (gm.le (Hp.le_trans l17 l8)) hs' (hpx.zs (kab.sz (by omega))) hab kab1 hK).mono ?_⟩
  rintro _ h9 ⟨l9, m56, R3, rfl, gm56, H3⟩
  have l79 := Hp.le_trans l8 l9
  have l19 := Hp.le_trans l17 l79
  have hs3 : ∀ x ∈ flatM n R3 n, SzK (2 * K + 1) x := by
    intro x hx
    unfold flatM at hx
    obtain ⟨i, hi, hx⟩ := List.mem_flatMap.1 hx
    obtain ⟨k, _, rfl⟩ := List.mem_map.1 hx
    have := H3.bd i (List.mem_range.1 hi) k
    exact kab1.le (by omega)
  refine ⟨_, _, rfl, (modhnf_Modulo gm56 hs3 (g1.le l19) ha ka1 hK).mono ?_⟩
  rintro _ h10 ⟨l10, m62, R4, rfl, gm62, H4⟩
  have e4 := H4.eq H1 fun x => latI_twice H3 (by rw [Int.natAbs_mul, Int.natCast_mul]; exact ⟨_, rfl⟩) x
  rw [e4] at gm62
  have l110 := Hp.le_trans l19 l10
  have gA : Mx true h10 m41 n n (flatM n R1 n) := gm41.le (Hp.le_trans l6 (Hp.le_trans l7 (Hp.le_trans l79 l10)))
  have gB : Mx true h10 m48 n n (flatM n R1 n) := gm48.le (Hp.le_trans l79 l10)
  refine ⟨_, _, rfl, fun J2 hJ2 => ⟨fun hc => by simp at hc, fun _ => hJ2 _ _ fun J3 hJ3 => ⟨fun hc => by simp at hc, fun _ => hJ3 _ _ fun J4 hJ4 => ⟨fun hc => by simp at hc, fun _ => hJ4 _ _ fun J5 hJ5 => ⟨fun hc => by simp at hc, fun _ => ?_⟩⟩⟩⟩⟩
  refine (ref01_SameMat gA gB).const ⟨_, rfl, hJ5 _ _ fun J6 hJ6 => ⟨fun hc => by simp at hc, fun _ => ?_⟩⟩
  refine (ref01_SameMat gA gm62).const ⟨_, rfl, hJ6 _ _ ⟨fun hc => by simp at hc, fun _ => ?_⟩⟩
  clear hJ2 hJ3 hJ4 hJ5 hJ6 J2 J3 J4 J5 J6 gA gB gm62 gm48 gm41 gm56 H1 H2 H3 H4 e2 e4 hs3 hpx hnx
  replace gm := gm.le l110
  replace g1 := g1.le l110
  have l010 := Hp.le_trans l1 l110
  clear l110 l19 l79 l17 l10 l9 l8 l7 l6 l5 g2
  -- the forms of units
  refine (law19_of 1 (by decide) (by decide)).mono ?_
  rintro _ h16 ⟨l16, z1, rfl, gz1⟩
  refine ⟨z1, rfl, (modhnf_Modulo (d := 1) (gm.le l16) hs' gz1.zs (by decide) (by unfold SzK; exact Nat.lt_of_lt_of_le (by decide : (((1 : Int).natAbs : Int) + 1).natAbs < B ^ 1) (Nat.pow_le_pow_right (by decide) (by omega))) hK).mono ?_⟩
  rintro _ h17 ⟨l17, m94, R5, rfl, gm94, H5⟩
  have e5 := H5.eq (her_units (d := 1) (ns := ns) (r := r) (by decide) gl (fun x _ => Int.one_dvd x)) fun x => Iff.rfl
  rw [e5] at gm94
  rw [gm.cols]
  refine ⟨_, _, rfl, (mat_Unit gm.k64).mono ?_⟩
  rintro _ h18 ⟨l18, m100, rfl, gm100⟩
  have l0 := Hp.le_trans l16 (Hp.le_trans l17 l18)
  have kam : ∀ x ∈ ns, SzK (2 * K) (a * x) := fun x hx => by have := k1.mul (hs x hx); rwa [← Nat.two_mul] at this
  refine ⟨_, _, rfl, (mat_Scale (c' := false) ⟨g1.le l0, fun e => by cases e⟩ (gm.le l0) (fun x hx => (kam x hx).sz (by omega))).mono ?_⟩
  rintro _ h19 ⟨l19, m106, rfl, gm106⟩
  have hs6 : ∀ x ∈ ns.map (a * ·), SzK (2 * K + 1) x := by
    intro x hx
    obtain ⟨y, hy, rfl⟩ := List.mem_map.1 hx
    exact (kam y hy).mono (by omega)
  refine ⟨_, _, rfl, (modhnf_Modulo gm106 hs6 ((g1.le l0).le l19) ha ka1 hK).mono ?_⟩
  rintro _ h20 ⟨l20, m112, R6, rfl, gm112, H6⟩
  have e6 := H6.eq (her_units (ns := ns.map (a * ·)) (r := r) hda (by rw [List.length_map]; exact gl) (fun x hx => by
    obtain ⟨y, hy, rfl⟩ := List.mem_map.1 hx
    exact Int.natAbs_dvd.2 ⟨y, rfl⟩)) fun x => Iff.rfl
  rw [e6] at gm112
  have l20' := Hp.le_trans l0 (Hp.le_trans l19 l20)
  refine ⟨_, _, rfl, (zint_Abs (g1.le l20')).mono ?_⟩
  rintro _ h21 ⟨l21, za, rfl, hza⟩
  have ksa : Sz ((a.natAbs : Nat) : Int) := g1.sz.le (by omega)
  refine ⟨za, rfl, (mat_Scale (hza.ze ksa true) (gm100.le (Hp.le_trans l19 (Hp.le_trans l20 l21))) (fun x hx => ?_)).mono ?_⟩
  · unfold flatM at hx
    obtain ⟨i, hi, hx⟩ := List.mem_flatMap.1 hx
    obtain ⟨k, _, rfl⟩ := List.mem_map.1 hx
    unfold unitV
    refine ksa.le ?_
    split <;> simp
  rintro _ h22 ⟨l22, m119, rfl, gm119⟩
  rw [flatM_unit] at gm119
  have gC : Mx true h22 m112 n n (flatM n (unitV (a.natAbs : Nat)) n) := gm112.le (Hp.le_trans l21 l22)
  have l1822 := Hp.le_trans l19 (Hp.le_trans l20 (Hp.le_trans l21 l22))
  have gD : Mx true h22 m94 n n (flatM n (unitV 1) n) := gm94.le (Hp.le_trans l18 l1822)
  have gE : Mx true h22 m100 n n (flatM n (unitV 1) n) := gm100.le l1822
  refine ⟨_, _, rfl, fun J7 hJ7 => ⟨fun _ => hJ7 _ _ fun J8 hJ8 => ⟨fun _ => ?_, fun hc => by simp at hc⟩, fun hc => by simp at hc⟩⟩
  refine (ref01_SameMat gD gE).const ⟨_, rfl, hJ8 _ _ fun J9 hJ9 => ⟨fun _ => ?_, fun hc => by simp at hc⟩⟩
  exact (ref01_SameMat gC gm119).const ⟨_, rfl, hJ9 _ _ ⟨Hp.le_trans l010 (Hp.le_trans l0 l1822), rfl⟩⟩

end Go.Proofs.Ytmfafadchpglgaa

/- Arguments: integers and matrices, as the statement reads them. -/
namespace Go.Proofs.Ytmfafadchpglgaa
open Go.Joins Go.ChangeShapes Go.WideShapes Go.RowKit Go.Deep
set_option maxRecDepth 20000

/-- All of a world's cells. -/
def full (W : World) : Hp := fun k => match W.heap[k]? with
  | some (.cells cs _ fz) => some ⟨cs.toList, decide (fz = (0, 0))⟩
  | _ => none

theorem full_get {W : World} {k : Nat} {cs : Array Value} {T : TypeId} {fz : Nat × Nat} (h : W.heap[k]? = some (Obj.cells cs T fz)) : full W k = some ⟨cs.toList, decide (fz = (0, 0))⟩ := by
  unfold full; rw [h]
theorem full_none {W : World} {k : Nat} (h : ∀ cs T fz, W.heap[k]? ≠ some (Obj.cells cs T fz)) : full W k = none := by
  unfold full
  split
  · rename_i e; exact absurd e (h _ _ _)
  · rfl
theorem full_sub (W : World) : (full W).sub W := by
  intro k b hb
  unfold full at hb
  split at hb
  · rename_i cs T fz e
    cases hb
    exact ⟨_, e, T, fz, rfl, fun h => by simpa using h⟩
  · cases hb

theorem cell_full {W : World} {b off : Nat} {v : Value} (h : W.cell? ⟨b, off, none⟩ = some v) : ∃ x, full W b = some x ∧ x.cs[off]? = some v := by
  unfold World.cell? at h
  simp only at h
  split at h
  · rename_i cs T fz e
    refine ⟨_, full_get e, ?_⟩
    simpa using h
  · cases h

theorem seg_cells {W : World} {a : Addr} {n c sz : Nat} {vs : List Value} (hl : n * sz = vs.length) (h : ∀ i, i < vs.length → W.cell? (a.add i) = some (vs.getD i default)) : Seg (full W) ⟨some a, n, c⟩ sz vs := by
  refine ⟨hl.symm, fun hne => ?_⟩
  have hp : 0 < vs.length := List.length_pos_iff.2 hne
  have hs : a.spot = none := by
    have := World.cell?_spot (h 0 hp)
    rwa [show a.add 0 = a by simp [Addr.add]] at this
  obtain ⟨b, off, sp⟩ := a
  simp only at hs
  subst hs
  have each : ∀ i, i < vs.length → ∃ x, full W b = some x ∧ x.cs[off + i]? = some (vs.getD i default) := fun i hi => by
    have := h i hi
    rw [add_none] at this
    exact cell_full this
  obtain ⟨x, hx, _⟩ := each 0 hp
  have each' : ∀ i, i < vs.length → x.cs[off + i]? = some (vs.getD i default) := fun i hi => by
    obtain ⟨y, hy, e⟩ := each i hi
    rw [hx] at hy
    cases hy
    exact e
  refine ⟨b, off, x, rfl, hx, ?_, ?_⟩
  · have := (List.getElem?_eq_some_iff.1 (each' (vs.length - 1) (by omega))).1
    omega
  · apply List.ext_getElem?
    intro i
    by_cases hi : i < vs.length
    · rw [List.getElem?_take, if_pos hi, List.getElem?_drop, each' i hi, List.getElem?_eq_getElem hi]
      simp [List.getD, hi]
    · rw [List.getElem?_take, if_neg hi, List.getElem?_eq_none (by omega)]

/-- An integer's type. -/
structure IntTy (P : Program) (t : TypeId) (f0 f1 : Field) (tW : TypeId) : Prop where
  u : P.underlying t = some (.struct #[f0, f1])
  one : oneCellFields P #[f0, f1] = true
  cs : P.cellsOf t = 2
  u0 : P.underlying f0.type = some .bool
  u1 : P.underlying f1.type = some (.slice tW)
  uw : P.underlying tW = some (.int .u64)
  cw : P.cellsOf tW = 1

/-- A matrix's type. -/
structure MatTy (P : Program) (t : TypeId) (g0 g1 g2 : Field) (tI : TypeId) (f0 f1 : Field) (tW : TypeId) : Prop where
  u : P.underlying t = some (.struct #[g0, g1, g2])
  one : oneCellFields P #[g0, g1, g2] = true
  cs : P.cellsOf t = 3
  u0 : P.underlying g0.type = some (.int .i64)
  u1 : P.underlying g1.type = some (.int .i64)
  u2 : P.underlying g2.type = some (.slice tI)
  int : IntTy P tI f0 f1 tW

/-- What was read reads the same. -/
def Kept (W W' : World) : Prop := ∀ a v, W.cell? a = some v → W'.cell? a = some v

section
variable {H : Type} {enc : TypeId × Value → H} {P : Program} {W W' : World} {sp : Nat → Bool}

theorem row_sp {a : Addr} {n : Nat} {q : List MemPlace} (h : ∀ p ∈ MemPlace.row a n ++ q, sp p.block = true) (hn : 0 < n) : sp a.block = true :=
  h (.cell a.block (a.off + 0)) (List.mem_append_left _ (List.mem_map.2 ⟨0, List.mem_range.2 hn, rfl⟩))

theorem ints_again {t e : TypeId} {k : IntKind} {fuel : Nat} {cs : List Value} {x : DataW H × List MemPlace} (ht : P.underlying t = some (.slice e)) (he : P.underlying e = some (.int k)) (hc : P.cellsOf e = 1) (hk : Kept W W')
    (h : DataW.trod enc P W 0 (fun _ => true) true fuel t cs = some x) (hsp : ∀ p ∈ x.2, sp p.block = true) : ∃ n, DataW.trod enc P W' 0 sp true n t cs = some x := by
  rcases open_ints ht he hc h with ⟨rfl, rfl⟩ | ⟨a, len, cap, zs, rfl, hb, hl, hm, hz, rfl, hcell, hw⟩
  · obtain ⟨n, hn⟩ := shut_slice_nil (enc := enc) (P := P) (w := W') (base := 0) (spare := sp) (held := true) ht
    exact ⟨n, by simpa [Value.cells] using hn⟩
  · refine ⟨2, shut_ints 0 ht he hc hb hl hm ?_ (fun i hi => hk _ _ (hcell i hi)) hw⟩
    simp only [if_true] at hz
    rw [hz]
    by_cases h0 : cap = 0
    · split <;> omega
    · have := row_sp (q := []) (by simpa using hsp) (by omega : 0 < zs.length)
      rw [this]; simp

theorem bool_again {t : TypeId} {fuel : Nat} {cs : List Value} {x : DataW H × List MemPlace} (ht : P.underlying t = some .bool) (h : DataW.trod enc P W 0 (fun _ => true) true fuel t cs = some x) : ∃ n, DataW.trod enc P W' 0 sp true n t cs = some x := by
  obtain ⟨b, rfl, rfl⟩ := DataW.trod_bool ht h
  obtain ⟨n, hn⟩ := shut_bool (enc := enc) (P := P) (w := W') (base := 0) (spare := sp) (held := true) ht b
  exact ⟨n, by simpa [Value.cells] using hn⟩

theorem int_again {t : TypeId} {k : IntKind} {fuel : Nat} {cs : List Value} {x : DataW H × List MemPlace} (ht : P.underlying t = some (.int k)) (h : DataW.trod enc P W 0 (fun _ => true) true fuel t cs = some x) : ∃ n, DataW.trod enc P W' 0 sp true n t cs = some x := by
  obtain ⟨b, rfl, rfl, hw⟩ := DataW.trod_int ht h
  exact ⟨1, trod_int_mk 0 ht hw⟩

theorem bulk_lits {k : IntKind} : ∀ zs : List Int, Rows.uptoBulkAll (lits k zs : List (DataW H)) = zs.length
  | [] => by simp [lits, Rows.uptoBulkAll]
  | z :: zs => by
    have := bulk_lits (k := k) zs
    simp only [lits, List.map_cons, Rows.uptoBulkAll, Rows.uptoBulk, List.length_cons] at this ⊢
    omega

/-- The words of an integer. -/
theorem read_words {t e : TypeId} {fuel : Nat} {v : Value} {x : DataW H × List MemPlace} (ht : P.underlying t = some (.slice e)) (he : P.underlying e = some (.int .u64)) (hc : P.cellsOf e = 1)
    (h : DataW.trod enc P W 0 (fun _ => true) true fuel t [v] = some x) : ∃ (s : Sl) (ws : List Nat), v = s.v ∧ Ws (full W) s ws ∧ ws.length ≤ Rows.uptoBulk x.1 := by
  rcases open_ints ht he hc h with ⟨e, rfl⟩ | ⟨a, len, cap, zs, e, hb, hl, hm, hz, rfl, hcell, hw⟩
  · cases e
    exact ⟨⟨none, 0, 0⟩, [], rfl, ⟨Seg.nil rfl, by simp, Nat.le_refl _⟩, Nat.zero_le _⟩
  · cases e
    simp only [if_true] at hz
    refine ⟨⟨some a, len, cap⟩, (zs.take len).map Int.toNat, rfl, ⟨seg_cells (by simp; omega) fun i hi => ?_, ?_, hl⟩, ?_⟩
    · simp only [List.length_map, List.length_take] at hi
      have hi' : i < zs.length := by omega
      rw [hcell i hi']
      have h1 := bounds_u64 (hw _ (List.getElem_mem hi'))
      simp only [List.getD, List.getElem?_map, List.getElem?_take, if_pos (by omega : i < len), List.getElem?_eq_getElem hi', Option.map_some, Option.getD_some, uw]
      congr 2
      omega
    · intro w hwm
      obtain ⟨n, hn, rfl⟩ := List.mem_map.1 hwm
      have := bounds_u64 (hw n (List.mem_of_mem_take hn))
      have hB : B = 18446744073709551616 := rfl
      omega
    · simp only [Rows.uptoBulk, bulk_lits, List.length_map, List.length_take]
      omega

theorem sg_sz {ws : List Nat} {K : Nat} (hw : ∀ w ∈ ws, w < B) (hl : ws.length ≤ K) (b : Bool) : SzK K (sg b (vl ws)) := by
  have h1 : vl ws < B ^ ws.length := vl_lt hw
  have h2 : B ^ ws.length ≤ B ^ K := Nat.pow_le_pow_right (by decide) hl
  unfold SzK
  cases b <;> simp [sg] <;> omega

/-- The two fields of an integer. -/
theorem read_pair {t : TypeId} {f0 f1 : Field} {tW : TypeId} (T : IntTy P t f0 f1 tW) {n0 n1 : Nat} {v0 v1 : Value} {y0 y1 : DataW H × List MemPlace} (h0 : DataW.trod enc P W 0 (fun _ => true) true n0 f0.type [v0] = some y0)
    (h1 : DataW.trod enc P W 0 (fun _ => true) true n1 f1.type [v1] = some y1) (hb : Rows.uptoBulk y1.1 ≤ 1048576) : ∃ (z : Z) (x : Int), v0 = .bool z.neg ∧ v1 = z.mag.v ∧ Zs (full W) z x ∧ SzK 1048576 x := by
  obtain ⟨b, e0, _⟩ := DataW.trod_bool T.u0 h0
  cases e0
  obtain ⟨s, ws, rfl, g, hl⟩ := read_words T.u1 T.uw T.cw h1
  exact ⟨⟨b, s⟩, sg b (vl ws), rfl, rfl, ⟨ws, g, by omega, rfl⟩, sg_sz g.lt (by omega) b⟩

theorem pair_again {t : TypeId} {f0 f1 : Field} {tW : TypeId} (T : IntTy P t f0 f1 tW) (hk : Kept W W') {n0 n1 : Nat} {v0 v1 : Value} {y0 y1 : DataW H × List MemPlace} (h0 : DataW.trod enc P W 0 (fun _ => true) true n0 f0.type [v0] = some y0)
    (h1 : DataW.trod enc P W 0 (fun _ => true) true n1 f1.type [v1] = some y1) (hsp : ∀ p ∈ y1.2, sp p.block = true) :
    (∃ n, DataW.trod enc P W' 0 sp true n f0.type [v0] = some y0) ∧ ∃ n, DataW.trod enc P W' 0 sp true n f1.type [v1] = some y1 :=
  ⟨bool_again T.u0 h0, ints_again T.u1 T.uw T.cw hk h1 hsp⟩

/-- An argument that is an integer. -/
theorem read_int {t : TypeId} {f0 f1 : Field} {tW : TypeId} (T : IntTy P t f0 f1 tW) {r : Reach} {b0 : Nat} {v : Value} {d : DataW H} {p : List MemPlace} (hv : Value.okWide P W r b0 t v) (h : DataW.Trod enc P W 0 (fun _ => true) true t v d p) (hb : Rows.uptoBulk d ≤ 1048576) :
    (∃ (z : Z) (x : Int), v = z.v ∧ Zs (full W) z x ∧ SzK 1048576 x) ∧ ∀ W' sp, Kept W W' → (∀ q ∈ p, sp q.block = true) → DataW.Trod enc P W' 0 sp true t v d p := by
  obtain ⟨v0, v1, y0, y1, n, rfl, rfl, rfl, h0, h1⟩ := open_agg2 T.u T.one T.cs hv h
  simp only [Rows.uptoBulk, Rows.uptoBulkAll] at hb
  obtain ⟨z, x, rfl, rfl, gz, kx⟩ := read_pair T h0 h1 (by omega)
  refine ⟨⟨z, x, rfl, gz, kx⟩, fun W' sp hk hsp => ?_⟩
  obtain ⟨a0, a1⟩ := pair_again T hk h0 h1 fun q hq => hsp q (List.mem_append_right _ hq)
  exact shut_agg2 T.u T.one T.cs a0 a1

theorem bulk_range {n i : Nat} (D : Nat → DataW H) (hi : i < n) : Rows.uptoBulk (D i) ≤ Rows.uptoBulkAll ((List.range n).map D) := by
  have : ∀ (l : List (DataW H)) (d : DataW H), d ∈ l → Rows.uptoBulk d ≤ Rows.uptoBulkAll l := by
    intro l
    induction l with
    | nil => intro d h; cases h
    | cons x r ih =>
      intro d h
      simp only [Rows.uptoBulkAll]
      rcases List.mem_cons.1 h with rfl | h
      · omega
      · have := ih d h; omega
  exact this _ _ (List.mem_map.2 ⟨i, List.mem_range.2 hi, rfl⟩)

theorem zss_range {c : Bool} {h : Hp} {Zf : Nat → Z} {Xf : Nat → Int} : ∀ {n : Nat}, (∀ i, i < n → Ze c h (Zf i) (Xf i)) → Zss c h ((List.range n).map Zf) ((List.range n).map Xf)
  | 0, _ => trivial
  | n + 1, hh => by
    rw [List.range_succ, List.map_append, List.map_append]
    exact Zss.app (us := [Zf n]) (ms := [Xf n]) ⟨hh n (by omega), trivial⟩ (zss_range fun i hi => hh i (by omega))
theorem zcs_range {Zf : Nat → Z} : ∀ {n j : Nat}, j < n → (zcs ((List.range n).map Zf))[j * 2]? = some (.bool (Zf j).neg) ∧ (zcs ((List.range n).map Zf))[j * 2 + 1]? = some (Zf j).mag.v
  | 0, _, h => by omega
  | n + 1, j, h => by
    have hl : (zcs ((List.range n).map Zf)).length = n * 2 := by rw [zcs_len]; simp
    rw [List.range_succ, List.map_append, zcs_app]
    by_cases e : j = n
    · subst e
      rw [List.getElem?_append_right (by omega), List.getElem?_append_right (by omega), hl]
      simp [zcs, zc, Sl.v]
    · rw [List.getElem?_append_left (by omega), List.getElem?_append_left (by omega)]
      exact zcs_range (by omega)

/-- A slice of integers. -/
theorem read_row {t tI : TypeId} {f0 f1 : Field} {tW : TypeId} (ht : P.underlying t = some (.slice tI)) (T : IntTy P tI f0 f1 tW) {fuel : Nat} {v : Value} {x : DataW H × List MemPlace} (h : DataW.trod enc P W 0 (fun _ => true) true fuel t [v] = some x) (hb : Rows.uptoBulk x.1 ≤ 1048576) :
    (∃ (s : Sl) (ns : List Int), v = s.v ∧ RowS false (full W) s ns ∧ ∀ n ∈ ns, SzK 1048576 n) ∧ ∀ W' sp, Kept W W' → (∀ q ∈ x.2, sp q.block = true) → ∃ n, DataW.trod enc P W' 0 sp true n t [v] = some x := by
  obtain ⟨o0, c0⟩ := hone_of T.one 0 f0 rfl
  obtain ⟨o1, c1⟩ := hone_of T.one 1 f1 rfl
  rcases open_slice_pairs ht T.u T.cs o0 o1 c0 c1 h with ⟨e, rfl⟩ | ⟨a, len, cap, m, n, V0, V1, D0, D1, P0, P1, e, hba, hl, hm, hmm, rfl, hx⟩
  · cases e
    refine ⟨⟨⟨none, 0, 0⟩, [], rfl, ⟨⟨[], Seg.nil rfl, trivial⟩, Nat.le_refl _⟩, by simp⟩, fun W' sp hk hsp => ?_⟩
    obtain ⟨n, hn⟩ := shut_slice_nil (enc := enc) (P := P) (w := W') (base := 0) (spare := sp) (held := true) ht
    exact ⟨n, by simpa [Value.cells] using hn⟩
  · cases e
    simp only [if_true] at hmm
    subst hmm
    simp only [Rows.uptoBulk] at hb
    have hbi : ∀ i, i < len → Rows.uptoBulk (D1 i) ≤ 1048576 := fun i hi => by
      have h1 := bulk_range (fun i => DataW.agg [D0 i, D1 i]) hi
      simp only [Rows.uptoBulk, Rows.uptoBulkAll] at h1
      omega
    have each : ∀ i, i < len → ∃ q : Z × Int, V0 i = .bool q.1.neg ∧ V1 i = q.1.mag.v ∧ Zs (full W) q.1 q.2 ∧ SzK 1048576 q.2 := fun i hi => by
      obtain ⟨_, _, h0, h1⟩ := hx i (by omega)
      obtain ⟨z, y, a1, a2, a3, a4⟩ := read_pair T h0 h1 (hbi i hi)
      exact ⟨(z, y), a1, a2, a3, a4⟩
    have : Inhabited (Z × Int) := ⟨(z0, 0)⟩
    obtain ⟨q, hq⟩ := choose_lt each
    refine ⟨⟨⟨some a, len, m⟩, (List.range len).map fun i => (q i).2, rfl, ⟨⟨(List.range len).map fun i => (q i).1, seg_cells (by rw [zcs_len]; simp) fun i hi => ?_, zss_range fun i hi => ⟨(hq i hi).2.2.1, fun e => by cases e⟩⟩, hl⟩, ?_⟩, fun W' sp hk hsp => ?_⟩
    · rw [zcs_len, List.length_map, List.length_range] at hi
      have hj : i / 2 < len := by omega
      obtain ⟨e0, e1⟩ := zcs_range (Zf := fun i => (q i).1) hj
      obtain ⟨k0, k1, _, _⟩ := hx (i / 2) (by omega)
      rcases Nat.mod_two_eq_zero_or_one i with h2 | h2
      · have hi2 : i = i / 2 * 2 := by omega
        rw [List.getD, hi2, e0, k0, (hq _ hj).1]; rfl
      · have hi2 : i = i / 2 * 2 + 1 := by omega
        rw [List.getD, hi2, e1, k1, (hq _ hj).2.1]; rfl
    · intro y hy
      obtain ⟨i, hi, rfl⟩ := List.mem_map.1 hy
      exact (hq i (List.mem_range.1 hi)).2.2.2
    · have again : ∀ i, i < m → (∃ n, DataW.trod enc P W' 0 sp true n f0.type [V0 i] = some (D0 i, P0 i)) ∧ ∃ n, DataW.trod enc P W' 0 sp true n f1.type [V1 i] = some (D1 i, P1 i) := fun i hi => by
        obtain ⟨_, _, h0, h1⟩ := hx i hi
        refine pair_again T hk h0 h1 fun p hp => hsp p (List.mem_append_right _ (List.mem_flatMap.2 ⟨i, List.mem_range.2 hi, List.mem_append_right _ hp⟩))
      by_cases hm0 : m = 0
      · have hl0 : len = 0 := by omega
        subst hm0
        subst hl0
        cases hs : sp a.block with
        | true =>
          obtain ⟨k, hk'⟩ := shut_slice_whole_cells (enc := enc) (w := W') (base := 0) (held := true) (a := a) ht (Nat.zero_le _) (Nat.le_refl 0) hm hs (fun i => .agg [D0 i, D1 i]) (fun i => P0 i ++ P1 i) (fun i hi => by omega)
          exact ⟨k, by simpa [T.cs] using hk'⟩
        | false =>
          obtain ⟨k, hk'⟩ := shut_slice_cells (enc := enc) (w := W') (base := 0) (held := true) (a := a) ht (Nat.zero_le _) (Nat.le_refl 0) hm hs (fun i => .agg [D0 i, D1 i]) (fun i => P0 i ++ P1 i) (fun i hi => by omega)
          exact ⟨k, by simpa [T.cs] using hk'⟩
      · have hs := row_sp hsp (by omega : 0 < m * 2)
        obtain ⟨b, off, spt⟩ := a
        have hspt : spt = none := by
          have := World.cell?_spot (hx 0 (by omega)).1
          simpa [Addr.add] using this
        subst hspt
        exact shut_slice_pairs_whole ht T.u T.cs o0 o1 c0 c1 (Nat.zero_le _) hl hm hs V0 V1 D0 D1 P0 P1
          (fun i hi => hk _ _ (by have := (hx i hi).1; rwa [add_none] at this)) (fun i hi => hk _ _ (by have := (hx i hi).2.1; rwa [add_none, ← Nat.add_assoc] at this)) (fun i hi => (again i hi).1) (fun i hi => (again i hi).2)

/-- An argument that is a matrix. -/
theorem read_mat {t tI : TypeId} {g0 g1 g2 f0 f1 : Field} {tW : TypeId} (T : MatTy P t g0 g1 g2 tI f0 f1 tW) {r : Reach} {b0 : Nat} {v : Value} {d : DataW H} {p : List MemPlace} (hv : Value.okWide P W r b0 t v) (h : DataW.Trod enc P W 0 (fun _ => true) true t v d p) (hb : Rows.uptoBulk d ≤ 1048576) :
    (∃ (m : M) (ns : List Int), v = m.v ∧ RowS false (full W) m.el ns ∧ ∀ n ∈ ns, SzK 1048576 n) ∧ ∀ W' sp, Kept W W' → (∀ q ∈ p, sp q.block = true) → DataW.Trod enc P W' 0 sp true t v d p := by
  obtain ⟨v0, v1, v2, y0, y1, y2, n, rfl, rfl, rfl, h0, h1, h2⟩ := open_agg3 T.u T.one T.cs hv h
  simp only [Rows.uptoBulk, Rows.uptoBulkAll] at hb
  obtain ⟨i0, e0, _, _⟩ := DataW.trod_int T.u0 h0
  obtain ⟨i1, e1, _, _⟩ := DataW.trod_int T.u1 h1
  cases e0
  cases e1
  obtain ⟨⟨s, ns, rfl, gr, hs⟩, ag⟩ := read_row T.u2 T.int h2 (by omega)
  refine ⟨⟨⟨i0, i1, s⟩, ns, rfl, gr, hs⟩, fun W' sp hk hsp => ?_⟩
  exact shut_agg3 T.u T.one T.cs (int_again T.u0 h0) (int_again T.u1 h1) (ag W' sp hk fun q hq => hsp q (List.mem_append_right _ (List.mem_append_right _ hq)))
end

/-- What a contract gives: old cells stay. -/
theorem fr_keptBut {W W' : World} {h' : Hp} (f : Fr (full W) W h' W') (l : (full W).le h') (may : MemPlace → Prop) : W.keptBut W' may := by
  refine ⟨f.os, f.output, fun i hi => ?_⟩
  cases hc : W.heap[i]? with
  | none => have := Array.getElem?_eq_none_iff.1 hc; omega
  | some o =>
    by_cases hcell : ∃ cs T fz, o = .cells cs T fz
    · obtain ⟨cs, T, fz, rfl⟩ := hcell
      obtain ⟨cs', e'⟩ := f.kind i cs T fz hc
      obtain ⟨o', ho', T2, fz2, e2, _⟩ := f.sub i _ (l i _ (full_get hc))
      rw [e'] at ho'
      cases ho'
      cases e2
      rw [e']
      simp
    · have hn := full_none (W := W) (k := i) fun cs T fz e => hcell ⟨cs, T, fz, by rw [hc] at e; cases e; rfl⟩
      have := f.block i hi hn
      rw [this, hc]
      cases o <;> first | (exact absurd ⟨_, _, _, rfl⟩ hcell) | simp
theorem fr_kept {W W' : World} {h' : Hp} (f : Fr (full W) W h' W') (l : (full W).le h') : Kept W W' := by
  intro a v e
  have hs := World.cell?_spot e
  obtain ⟨b, off, sp⟩ := a
  simp only at hs
  subst hs
  have hlt : b < W.heap.size := by
    unfold World.cell? at e
    simp only at e
    split at e
    · rename_i hh; exact (Array.getElem?_eq_some_iff.1 hh).1
    · cases e
  rw [World.keptBut.cell (fr_keptBut f l (fun _ => False)) hlt (fun h => h)]
  exact e

end Go.Proofs.Ytmfafadchpglgaa

namespace Go.Proofs.Ytmfafadchpglgaa
open Go.ChangeShapes Go.WideShapes Go.ChangeAt Go.RowKit
set_option maxRecDepth 20000

theorem tri_calls {P : Program} {f : FuncId} {fn : Func} {c : Code} (hf : P.funcs[f]? = some fn) (hb : fn.body = some c) (hname : fn.name ≠ "runtime.NumGoroutine") {args : List Value} {h : Hp} {R : Value → Hp → Prop} (t : Tri P (.func (.func f) #[] #[]) args h R) {w : World} (hs : h.sub w) :
    Calls P f args.toArray w fun e w' => ∃ v, e = .returned v ∧ ∃ h', R v h' ∧ Fr h w h' w' := by
  have hcall : (Deferred.ofValue (.func (.func f) #[] #[]) args.toArray >>= fun d => invoke d.target d.args).run P w = .ok (.enter f args.toArray) w := by
    simp [Deferred.ofValue, invoke, callFunc, hf, hname, hb]
  have := t w hs trivial
  unfold CallV at this
  rw [show (envOf P).toProgram = P from rfl, hcall] at this
  exact callsIn_wide.1 this

theorem tyInt : IntTy Try.prog 27 ⟨ "Neg", 4, 0, false, "", "", 0⟩ ⟨ "Mag", 25, 1, false, "", "", 8⟩ 38 where
  u := Try.underlying27
  one := by kernel_rfl
  cs := by kernel_rfl
  u0 := Try.underlying4
  u1 := Try.underlying25
  uw := Try.underlying38
  cw := by kernel_rfl
theorem tyMat : MatTy Try.prog 24 ⟨ "Rows", 3, 0, false, "", "", 0⟩ ⟨ "Cols", 3, 1, false, "", "", 8⟩ ⟨ "At", 22, 2, false, "", "", 16⟩ 27 ⟨ "Neg", 4, 0, false, "", "", 0⟩ ⟨ "Mag", 25, 1, false, "", "", 8⟩ 38 where
  u := Try.underlying24
  one := by kernel_rfl
  cs := by kernel_rfl
  u0 := Try.underlying3
  u1 := Try.underlying3
  u2 := Try.underlying22
  int := tyInt

namespace periods

theorem own : ownKnob Try.prog.godebug = none := by kernel_rfl

theorem contract (H : Type) (enc : TypeId × Value → H) (W : World) (base : Nat) (args : Array Value) (ds gs : List (DataW H)) (before : List MemPlace)
    (hval : ∀ (j : Nat) t v, Try.f3.params[j]? = some t → args[j]? = some v → Value.okWide Try.prog W .any base t v)
    (hW : DataW.Whole enc Try.prog Try.f3.params.toList Rows.modhnfPeriodsSpec.vars false W args.toList ds gs before) (hk : Rows.uptoSmall H (ds ++ gs) = true) :
    Calls Try.prog 3 args W fun e W' => ∃ v, e = .returned v ∧ Rows.modhnfPeriodsSpec.post enc Try.prog Try.f3 false true false false W args v W' := by
  have hW' := hW
  obtain ⟨p, q, hA0, hV, rfl, hfz, hnd⟩ := hW
  have hA : DataW.TrodAll enc Try.prog W 0 (fun _ => true) true Try.f3.params.toList args.toList ds p := hA0
  rw [Try.params3] at hA hval
  obtain ⟨v0, vs0, d0, ds0, p0, q0, hargs0, rfl, rfl, h0, r0⟩ := trodAll_cons hA
  obtain ⟨v1, vs1, d1, ds1, p1, q1, hargs1, rfl, rfl, h1, r1⟩ := trodAll_cons r0
  obtain ⟨v2, vs2, d2, ds2, p2, q2, hargs2, rfl, rfl, h2, r2⟩ := trodAll_cons r1
  obtain ⟨rfl, rfl, rfl⟩ := trodAll_nil r2
  obtain rfl : args = #[v0, v1, v2] := by cases args; simp_all
  obtain ⟨rfl, rfl⟩ := trodVars_none hV
  have hb : Rows.uptoBulkAll ([d0, d1, d2] ++ []) ≤ 1048576 := of_decide_eq_true hk
  simp only [List.append_nil, Rows.uptoBulkAll] at hb
  obtain ⟨⟨m, ns, rfl, gr, hs⟩, ag0⟩ := read_mat tyMat (hval 0 _ v0 rfl rfl) h0 (by omega)
  obtain ⟨⟨x1, a, rfl, g1, k1⟩, ag1⟩ := read_int tyInt (hval 1 _ v1 rfl rfl) h1 (by omega)
  obtain ⟨⟨x2, b, rfl, g2, k2⟩, ag2⟩ := read_int tyInt (hval 2 _ v2 rfl rfl) h2 (by omega)
  refine (tri_calls Try.func3 rfl (by decide) (law19_ModhnfPeriods gr hs g1 g2 k1 k2 (by decide)) (full_sub W)).mono ?_
  rintro e W' ⟨v, rfl, h', ⟨l, rfl⟩, f⟩
  have kp := fr_kept f l
  have hlt : ∀ q ∈ p0 ++ (p1 ++ (p2 ++ [])) ++ [], decide (q.block < W.heap.size) = true := fun q hq => by simpa using hW'.lt q hq
  refine ⟨_, rfl, _, _, _, [], p0 ++ (p1 ++ (p2 ++ [])), [], hW', trodAll_cons_mk (shut_bool Try.underlying4 _) trodAll_mk0, ?_, rfl, fr_keptBut f l _, fun h => by cases h⟩
  exact trodAll_cons_mk (ag0 W' _ kp fun q hq => hlt q (by simp [hq])) (trodAll_cons_mk (ag1 W' _ kp fun q hq => hlt q (by simp [hq])) (trodAll_cons_mk (ag2 W' _ kp fun q hq => hlt q (by simp [hq])) trodAll_mk0))

def zeroI : Value := .agg #[.bool false, .slice none 0 0]
def zeroM : Value := .agg #[.int .i64 0, .int .i64 0, .slice none 0 0]

set_option maxRecDepth 100000 in
theorem lifted (os : Os) (started : os.Started) (H : Type) (enc : TypeId × Value → H) (F : Stop.Interp) :
    ReturnsInHanded {} Try.checked os 3 .any ((Rows.OpenSpec.upto Rows.modhnfPeriodsSpec).pre6 enc Try.prog Try.f3 Rows.modhnfPeriodsUptoRow.domain false) (((Rows.OpenSpec.upto Rows.modhnfPeriodsSpec).at F).post enc Try.prog Try.f3 false true false false) := by
  refine returnsInHanded_of_cond (C := Try.checked) (s := Rows.OpenSpec.upto Rows.modhnfPeriodsSpec) (k := Rows.uptoSmall) rfl own started (by kernel_rfl) Try.func3
    (OpenSpec.witness (enc := enc) (C := Try.checked) (s := Rows.OpenSpec.upto Rows.modhnfPeriodsSpec) (k := Rows.uptoSmall) rfl false ⟨#[], #[zeroM, zeroI, zeroI], []⟩ 8 (by kernel_rfl) (by kernel_rfl) (by kernel_rfl)
      (x := ([.agg [.lit (.int .i64 0), .lit (.int .i64 0), .nil], .agg [.lit (.bool false), .nil], .agg [.lit (.bool false), .nil]], [], [])) (by kernel_rfl) rfl (by kernel_rfl)) ?_
  intro W base args ds gs before hval hW _ hk _
  exact contract H enc W base args ds gs before hval hW hk

theorem proved : Rows.ModhnfPeriodsUptoSaid :=
  OpenClaim.holds_of_cond 3 Try.f3 rfl rfl rfl rfl rfl rfl rfl ⟨rfl, rfl, rfl, rfl, rfl⟩ rfl rfl rfl rfl rfl (by kernel_rfl) Try.func3 (by kernel_rfl)
    (of_decide_eq_true (by kernel_rfl)) (by unfold Func.isWrapper; first | (rw [if_pos (by decide +kernel)]; kernel_rfl) | (rw [if_neg (by decide +kernel)]; exact ⟨rfl, rfl⟩))
    (fun os started H enc _ F => lifted os started H enc F)

end periods

theorem modhnfPeriods_holds : Rows.ModhnfPeriodsUptoSaid := periods.proved

end Go.Proofs.Ytmfafadchpglgaa
