import Derived.Test.YtmfafadchpglgaaKC
import Derived.Test.YtmfafadchpglgaaKG

/- PRINTED BY vcgen.py: code with hints, the formula to show, the theorem; each check by the kernel. -/
namespace Go.Proofs.Ytmfafadchpglgaa

/- trellis/trellisref01.Same -/
def d_ref01_Same : Vd :=
  .seq (.ops [.op 0 ⟨none, some 4, .mov (.b false)⟩ false (.no)] [0, 1, 4, 5, 10, 14, 25]) (.seq (.seq (.ops [.op 0 ⟨none, some 6, .mov (.t 0)⟩ false (.no), .op 1 ⟨none, some 7, .len (.t 6)⟩ false (.no), .op 2 ⟨none, some 8, .mov (.t 1)⟩ false (.no), .op 3 ⟨none, some 9, .len (.t 8)⟩ false (.no), .op 4 ⟨none, some 10, .bin .neq (.t 7) (.t 9)⟩ false (.sh (.one .val))] [0, 1, 4, 5, 10, 14, 25]) (.cond (.t 10) (.seq (.ops [.op 0 ⟨none, some 4, .mov (.b false)⟩ false (.no)] [0, 1, 4, 5, 10, 14, 25]) (.ret)) (.skip))) (.seq (.seq (.ops [.op 0 ⟨none, some 5, .mov (.i .i64 0)⟩ false (.no)] [0, 1, 4, 5, 10, 14, 25]) (.block 0 (.loop ⟨[0, 1], [], []⟩ [.t 5 (.int .i64)] (.seq (.seq (.ops [.op 0 ⟨none, some 11, .mov (.t 5)⟩ false (.no), .op 1 ⟨none, some 12, .mov (.t 0)⟩ false (.no), .op 2 ⟨none, some 13, .len (.t 12)⟩ false (.no), .op 3 ⟨none, some 14, .bin .lss (.t 11) (.t 13)⟩ false (.sh (.one .val))] [0, 1, 4, 5, 10, 14, 25]) (.cond (.t 14) (.skip) (.exit 0))) (.seq (.block 1 (.seq (.ops [.op 0 ⟨none, some 17, .mov (.t 0)⟩ false (.no), .op 1 ⟨none, some 18, .mov (.t 5)⟩ false (.no), .op 2 ⟨none, some 19, .ia 1 (.t 17) (.t 18)⟩ false (.no), .op 4 ⟨none, some 21, .mov (.t 1)⟩ false (.no), .op 5 ⟨none, some 22, .mov (.t 5)⟩ false (.no), .op 6 ⟨none, some 23, .ia 1 (.t 21) (.t 22)⟩ false (.no), .op 3 ⟨none, some 20, .ldh none (.t 19)⟩ false (.sh (.one (.int .u64))), .op 7 ⟨none, some 24, .ldh none (.t 23)⟩ false (.sh (.one (.int .u64))), .op 8 ⟨none, some 25, .bin .neq (.t 20) (.t 24)⟩ false (.sh (.one .val))] [0, 1, 4, 5, 10, 14, 25]) (.cond (.t 25) (.seq (.ops [.op 0 ⟨none, some 4, .mov (.b false)⟩ false (.no)] [0, 1, 4, 5, 10, 14, 25]) (.ret)) (.skip)))) (.ops [.op 0 ⟨none, some 15, .mov (.t 5)⟩ false (.no), .op 1 ⟨none, some 16, .bin .add (.t 15) (.i .i64 1)⟩ false (.sh (.one .val)), .op 2 ⟨none, some 5, .mov (.t 16)⟩ false (.no)] [0, 1, 4, 5, 10, 14, 25])))))) (.seq (.ops [.op 0 ⟨none, some 4, .mov (.b true)⟩ false (.no)] [0, 1, 4, 5, 10, 14, 25]) (.ret))))
def v_ref01_Same (a : Sl) (b : Sl) (h : Hp) (R : Value → Hp → Prop) : Prop :=
  ((!decide ((a.n : Int) = (b.n : Int))) = true →
    R (.bool false) h
  ) ∧ ((!decide ((a.n : Int) = (b.n : Int))) = false →
    ∃ I : Int → Hp → Prop, ∃ mu : Int → Hp → Nat, I 0 h ∧ (∀ i : Int, ∀ h1 : Hp, I i h1 →
      ((decide (i < (a.n : Int))) = true →
        0 ≤ i ∧ i < (a.n : Int) ∧ a.a.isSome = true ∧
        0 ≤ i ∧ i < (b.n : Int) ∧ b.a.isSome = true ∧
        ∃ x20 : Int, hld h1 (elemA a.a i 1) none = some (.int .u64 x20) ∧
        ∃ x24 : Int, hld h1 (elemA b.a i 1) none = some (.int .u64 x24) ∧
        ((!decide (x20 = x24)) = true →
          R (.bool false) h1
        ) ∧ ((!decide (x20 = x24)) = false →
          ∀ i1 : Int, i1 = IntKind.i64.wrap (i + 1) →
          I i1 h1 ∧ mu i1 h1 < mu i h1
        )
      ) ∧ ((decide (i < (a.n : Int))) = false →
        R (.bool true) h1
      )
    )
  )
set_option maxRecDepth 100000 in
theorem t_ref01_Same {a : Sl} {b : Sl} {h : Hp} {R : Value → Hp → Prop} (hv : v_ref01_Same a b h R) : Tri Try.prog (.func (.func 54) #[] #[]) [a.v, b.v] h R :=
  tri_of_vc mixed Try.func54 (d := d_ref01_Same) (RM := []) (rvs := [.tmp 4]) (args := [a.v, b.v]) (caps := []) (by kernel_rfl) Try.ntmps54 (V := v_ref01_Same a b h R) (by kernel_rfl) (by simp) hv

/- trellis/trellisref01.SameInt -/
def d_ref01_SameInt : Vd :=
  .seq (.ops [.op 0 ⟨none, some 2, .box 2 (.t 0)⟩ false (.sh (.one .val)), .op 1 ⟨none, some 3, .box 2 (.t 1)⟩ false (.sh (.one .val)), .op 2 ⟨none, some 4, .mov (.b false)⟩ false (.no)] [0, 1, 2, 3, 4]) (.seq (.ops [.op 0 ⟨none, some 5, .fab 2 2 0⟩ false (.no), .op 1 ⟨none, some 6, .ldb 5 2 none⟩ false (.no), .op 2 ⟨none, some 7, .fab 3 3 0⟩ false (.no), .op 3 ⟨none, some 8, .ldb 7 3 none⟩ false (.no), .op 4 ⟨none, some 9, .beq false (.t 6) (.t 8)⟩ false (.sh (.one .val)), .op 5 ⟨none, some 10, .mov (.t 9)⟩ false (.no), .grp ⟨[], [], []⟩ [.t 16 (.bool)] [(6, ⟨some (10, true), some 11, .fab 2 2 1⟩, true, .no), (7, ⟨some (10, true), some 12, .ldb 11 2 none⟩, false, .no), (8, ⟨some (10, true), some 13, .fab 3 3 1⟩, false, .no), (9, ⟨some (10, true), some 14, .ldb 13 3 none⟩, false, .no), (10, ⟨some (10, true), some 15, .call false (.f 54) [.t 12, .t 14]⟩, false, .sh (.one (.bool))), (11, ⟨none, some 16, .pick (.t 10) (.t 15) (.b false)⟩, false, .no)], .op 12 ⟨none, some 4, .mov (.t 16)⟩ false (.no)] [0, 1, 2, 3, 4]) (.ret))
def v_ref01_SameInt (a : Z) (b : Z) (h : Hp) (R : Value → Hp → Prop) : Prop :=
  ∀ J : Bool → Hp → Prop, (∀ x16 : Bool, ∀ h1 : Hp, (
    R (.bool x16) h1
  ) → J x16 h1) →
  ((beqI false a.neg b.neg) = true →
  Tri Try.prog (.func (.func 54) #[] #[]) [a.mag.v, b.mag.v] h fun r h2 => ∃ x15 : Bool, r = .bool x15 ∧
  J x15 h2
  ) ∧ ((beqI false a.neg b.neg) = false →
  J false h
  )
set_option maxRecDepth 100000 in
theorem t_ref01_SameInt {a : Z} {b : Z} {h : Hp} {R : Value → Hp → Prop} (hv : v_ref01_SameInt a b h R) : Tri Try.prog (.func (.func 26) #[] #[]) [a.v, b.v] h R :=
  tri_of_vc mixed Try.func26 (d := d_ref01_SameInt) (RM := [(2, 2), (3, 3), (5, 2), (7, 3), (11, 2), (13, 3)]) (rvs := [.tmp 4]) (args := [a.v, b.v]) (caps := []) (by kernel_rfl) Try.ntmps26 (V := v_ref01_SameInt a b h R) (by kernel_rfl) (by simp) hv

/- trellis/trellisref01.SameRow -/
def d_ref01_SameRow : Vd :=
  .seq (.ops [.op 0 ⟨none, some 4, .mov (.b false)⟩ false (.no)] [0, 1, 4, 5, 10, 14, 26]) (.seq (.seq (.ops [.op 0 ⟨none, some 6, .mov (.t 0)⟩ false (.no), .op 1 ⟨none, some 7, .len (.t 6)⟩ false (.no), .op 2 ⟨none, some 8, .mov (.t 1)⟩ false (.no), .op 3 ⟨none, some 9, .len (.t 8)⟩ false (.no), .op 4 ⟨none, some 10, .bin .neq (.t 7) (.t 9)⟩ false (.sh (.one .val))] [0, 1, 4, 5, 10, 14, 26]) (.cond (.t 10) (.seq (.ops [.op 0 ⟨none, some 4, .mov (.b false)⟩ false (.no)] [0, 1, 4, 5, 10, 14, 26]) (.ret)) (.skip))) (.seq (.seq (.ops [.op 0 ⟨none, some 5, .mov (.i .i64 0)⟩ false (.no)] [0, 1, 4, 5, 10, 14, 26]) (.block 0 (.loop ⟨[0, 1], [], []⟩ [.t 5 (.int .i64)] (.seq (.seq (.ops [.op 0 ⟨none, some 11, .mov (.t 5)⟩ false (.no), .op 1 ⟨none, some 12, .mov (.t 0)⟩ false (.no), .op 2 ⟨none, some 13, .len (.t 12)⟩ false (.no), .op 3 ⟨none, some 14, .bin .lss (.t 11) (.t 13)⟩ false (.sh (.one .val))] [0, 1, 4, 5, 10, 14, 26]) (.cond (.t 14) (.skip) (.exit 0))) (.seq (.block 1 (.seq (.ops [.op 0 ⟨none, some 17, .mov (.t 0)⟩ false (.no), .op 1 ⟨none, some 18, .mov (.t 5)⟩ false (.no), .op 2 ⟨none, some 19, .ia 2 (.t 17) (.t 18)⟩ false (.no), .op 4 ⟨none, some 21, .mov (.t 1)⟩ false (.no), .op 5 ⟨none, some 22, .mov (.t 5)⟩ false (.no), .op 6 ⟨none, some 23, .ia 2 (.t 21) (.t 22)⟩ false (.no), .op 3 ⟨none, some 20, .ldh (some 2) (.t 19)⟩ false (.sh (.agg [.z])), .op 7 ⟨none, some 24, .ldh (some 2) (.t 23)⟩ false (.sh (.agg [.z])), .op 8 ⟨none, some 25, .call false (.f 26) [.t 20, .t 24]⟩ false (.sh (.one (.bool))), .op 9 ⟨none, some 26, .un .not (.t 25)⟩ false (.no)] [0, 1, 4, 5, 10, 14, 26]) (.cond (.t 26) (.seq (.ops [.op 0 ⟨none, some 4, .mov (.b false)⟩ false (.no)] [0, 1, 4, 5, 10, 14, 26]) (.ret)) (.skip)))) (.ops [.op 0 ⟨none, some 15, .mov (.t 5)⟩ false (.no), .op 1 ⟨none, some 16, .bin .add (.t 15) (.i .i64 1)⟩ false (.sh (.one .val)), .op 2 ⟨none, some 5, .mov (.t 16)⟩ false (.no)] [0, 1, 4, 5, 10, 14, 26])))))) (.seq (.ops [.op 0 ⟨none, some 4, .mov (.b true)⟩ false (.no)] [0, 1, 4, 5, 10, 14, 26]) (.ret))))
def v_ref01_SameRow (a : Sl) (b : Sl) (h : Hp) (R : Value → Hp → Prop) : Prop :=
  ((!decide ((a.n : Int) = (b.n : Int))) = true →
    R (.bool false) h
  ) ∧ ((!decide ((a.n : Int) = (b.n : Int))) = false →
    ∃ I : Int → Hp → Prop, ∃ mu : Int → Hp → Nat, I 0 h ∧ (∀ i : Int, ∀ h1 : Hp, I i h1 →
      ((decide (i < (a.n : Int))) = true →
        0 ≤ i ∧ i < (a.n : Int) ∧ a.a.isSome = true ∧
        0 ≤ i ∧ i < (b.n : Int) ∧ b.a.isSome = true ∧
        ∃ x20 : Z, hld h1 (elemA a.a i 2) (some 2) = some (x20.v) ∧
        ∃ x24 : Z, hld h1 (elemA b.a i 2) (some 2) = some (x24.v) ∧
        Tri Try.prog (.func (.func 26) #[] #[]) [x20.v, x24.v] h1 fun r h2 => ∃ x25 : Bool, r = .bool x25 ∧
        ((!x25) = true →
          R (.bool false) h2
        ) ∧ ((!x25) = false →
          ∀ i1 : Int, i1 = IntKind.i64.wrap (i + 1) →
          I i1 h2 ∧ mu i1 h2 < mu i h1
        )
      ) ∧ ((decide (i < (a.n : Int))) = false →
        R (.bool true) h1
      )
    )
  )
set_option maxRecDepth 100000 in
theorem t_ref01_SameRow {a : Sl} {b : Sl} {h : Hp} {R : Value → Hp → Prop} (hv : v_ref01_SameRow a b h R) : Tri Try.prog (.func (.func 37) #[] #[]) [a.v, b.v] h R :=
  tri_of_vc mixed Try.func37 (d := d_ref01_SameRow) (RM := []) (rvs := [.tmp 4]) (args := [a.v, b.v]) (caps := []) (by kernel_rfl) Try.ntmps37 (V := v_ref01_SameRow a b h R) (by kernel_rfl) (by simp) hv

/- trellis/trellisref01.SameMat -/
def d_ref01_SameMat : Vd :=
  .seq (.ops [.op 0 ⟨none, some 2, .box 3 (.t 0)⟩ false (.sh (.one .val)), .op 1 ⟨none, some 3, .box 3 (.t 1)⟩ false (.sh (.one .val)), .op 2 ⟨none, some 4, .mov (.b false)⟩ false (.no)] [0, 1, 2, 3, 4]) (.seq (.ops [.op 0 ⟨none, some 5, .fab 2 2 0⟩ false (.no), .op 1 ⟨none, some 6, .ldb 5 2 none⟩ false (.no), .op 2 ⟨none, some 7, .fab 3 3 0⟩ false (.no), .op 3 ⟨none, some 8, .ldb 7 3 none⟩ false (.no), .op 4 ⟨none, some 9, .bin .eql (.t 6) (.t 8)⟩ false (.sh (.one .val)), .op 5 ⟨none, some 10, .mov (.t 9)⟩ false (.no), .grp ⟨[2, 3], [2, 3], [2, 3]⟩ [.t 16 (.bool)] [(6, ⟨some (10, true), some 11, .fab 2 2 1⟩, true, .no), (7, ⟨some (10, true), some 12, .ldb 11 2 none⟩, false, .no), (8, ⟨some (10, true), some 13, .fab 3 3 1⟩, false, .no), (9, ⟨some (10, true), some 14, .ldb 13 3 none⟩, false, .no), (10, ⟨some (10, true), some 15, .bin .eql (.t 12) (.t 14)⟩, false, .sh (.one .val)), (11, ⟨none, some 16, .pick (.t 10) (.t 15) (.b false)⟩, false, .no)], .op 12 ⟨none, some 17, .mov (.t 16)⟩ false (.no), .grp ⟨[], [], []⟩ [.t 23 (.bool)] [(13, ⟨some (17, true), some 18, .fab 2 2 2⟩, true, .no), (14, ⟨some (17, true), some 19, .ldb 18 2 none⟩, false, .no), (15, ⟨some (17, true), some 20, .fab 3 3 2⟩, false, .no), (16, ⟨some (17, true), some 21, .ldb 20 3 none⟩, false, .no), (17, ⟨some (17, true), some 22, .call false (.f 37) [.t 19, .t 21]⟩, false, .sh (.one (.bool))), (18, ⟨none, some 23, .pick (.t 17) (.t 22) (.b false)⟩, false, .no)], .op 19 ⟨none, some 4, .mov (.t 23)⟩ false (.no)] [0, 1, 2, 3, 4]) (.ret))
def v_ref01_SameMat (a : M) (b : M) (h : Hp) (R : Value → Hp → Prop) : Prop :=
  ∀ J : Bool → Hp → Prop, (∀ x16 : Bool, ∀ h1 : Hp, (
    ∀ J1 : Bool → Hp → Prop, (∀ x23 : Bool, ∀ h2 : Hp, (
      R (.bool x23) h2
    ) → J1 x23 h2) →
    (x16 = true →
    Tri Try.prog (.func (.func 37) #[] #[]) [a.el.v, b.el.v] h1 fun r h3 => ∃ x22 : Bool, r = .bool x22 ∧
    J1 x22 h3
    ) ∧ (x16 = false →
    J1 false h1
    )
  ) → J x16 h1) →
  ((decide (a.rows = b.rows)) = true →
  J (decide (a.cols = b.cols)) h
  ) ∧ ((decide (a.rows = b.rows)) = false →
  J false h
  )
set_option maxRecDepth 100000 in
theorem t_ref01_SameMat {a : M} {b : M} {h : Hp} {R : Value → Hp → Prop} (hv : v_ref01_SameMat a b h R) : Tri Try.prog (.func (.func 12) #[] #[]) [a.v, b.v] h R :=
  tri_of_vc mixed Try.func12 (d := d_ref01_SameMat) (RM := [(2, 2), (3, 3), (5, 2), (7, 3), (11, 2), (13, 3), (18, 2), (20, 3)]) (rvs := [.tmp 4]) (args := [a.v, b.v]) (caps := []) (by kernel_rfl) Try.ntmps12 (V := v_ref01_SameMat a b h R) (by kernel_rfl) (by simp) hv

/- trellis/trellislaw19.of -/
def d_law19_of : Vd :=
  .seq (.ops [.op 0 ⟨none, some 2, .new [.b false, .nil]⟩ false (.sh (.one .val))] [0, 2]) (.seq (.ops [.op 0 ⟨none, some 3, .mov (.t 0)⟩ false (.no), .op 1 ⟨none, some 4, .bs [.i .u64 0] 1 1 [(0, .t 3)]⟩ false (.sh (.one .val)), .op 2 ⟨none, some 5, .bd [.b false, .nil] [(1, 1, .t 4)]⟩ false (.no), .op 3 ⟨none, none, .stb 2 2 2 (.t 5)⟩ false (.sh (.one .val))] [0, 2]) (.ret))
def v_law19_of (n : Int) (h : Hp) (R : Value → Hp → Prop) : Prop :=
  ∀ b : Nat, ∀ h1 : Hp, h b = none → h1 = h.up b ⟨[.int .u64 n], true⟩ →
  R (.agg #[.bool false, .slice (some (blkA b)) 1 1]) h1
set_option maxRecDepth 100000 in
theorem t_law19_of {n : Int} {h : Hp} {R : Value → Hp → Prop} (hv : v_law19_of n h R) : Tri Try.prog (.func (.func 13) #[] #[]) [.int .u64 n] h R :=
  tri_of_vc mixed Try.func13 (d := d_law19_of) (RM := [(2, 2)]) (rvs := [.cell 2 (some 2)]) (args := [.int .u64 n]) (caps := []) (by kernel_rfl) Try.ntmps13 (V := v_law19_of n h R) (by kernel_rfl) (by simp) hv

end Go.Proofs.Ytmfafadchpglgaa

/- trellisref01: two in least form that are the same number. -/
namespace Go.Proofs.Ytmfafadchpglgaa
set_option maxRecDepth 20000

theorem ref01_Same {h : Hp} {a b : Sl} {ws : List Nat} (ga : Ws h a ws) (gb : Ws h b ws) (hl : ws.length ≤ 4611686018427387904) :
    Tri Try.prog (.func (.func 54) #[] #[]) [a.v, b.v] h fun v h' => h' = h ∧ v = .bool true := by
  have la := ga.len
  have lb := gb.len
  refine t_ref01_Same ⟨fun hc => ?_, fun _ => ?_⟩
  · simp at hc; omega
  refine ⟨fun i h1 => h1 = h ∧ 0 ≤ i ∧ i ≤ ws.length, fun i _ => ws.length - i.toNat, ⟨rfl, by omega, by omega⟩, ?_⟩
  rintro i h1 ⟨hh, h0, h2⟩
  rw [hh]
  refine ⟨fun hc => ?_, fun hc => ⟨rfl, rfl⟩⟩
  simp only [decide_eq_true_eq] at hc
  refine ⟨h0, by omega, ga.isS (by omega), h0, by omega, gb.isS (by omega), _, ga.ld h0 (by omega), _, gb.ld h0 (by omega), fun hc => by simp at hc, fun _ i1 e => ?_⟩
  rw [i64w (by omega) (by omega)] at e
  exact ⟨⟨rfl, by omega, by omega⟩, by dsimp only; omega⟩

theorem Ze.len {h : Hp} {z : Z} {n : Int} (g : Ze true h z n) : (wd n.natAbs).length ≤ 34359738368 := by
  obtain ⟨ws, a, l, _⟩ := g.zs.ex
  have e := a.uniq (g.lf rfl).2
  rw [← e]; exact l

theorem ref01_SameInt {h : Hp} {a b : Z} {n : Int} (ga : Ze true h a n) (gb : Ze true h b n) :
    Tri Try.prog (.func (.func 26) #[] #[]) [a.v, b.v] h fun v h' => h' = h ∧ v = .bool true := by
  have la := (ga.lf rfl)
  have lb := (gb.lf rfl)
  have hl := ga.len
  refine t_ref01_SameInt fun J hJ => ⟨fun _ => (ref01_Same la.2 lb.2 (by omega)).const ?_, fun hc => ?_⟩
  · exact ⟨true, rfl, hJ _ _ ⟨rfl, rfl⟩⟩
  · rw [la.1, lb.1] at hc
    simp [beqI] at hc

theorem ref01_SameRow {h : Hp} {a b : Sl} {ns : List Int} (ga : RowS true h a ns) (gb : RowS true h b ns) (hl : ns.length ≤ 4611686018427387904) :
    Tri Try.prog (.func (.func 37) #[] #[]) [a.v, b.v] h fun v h' => h' = h ∧ v = .bool true := by
  have la := ga.len
  have lb := gb.len
  refine t_ref01_SameRow ⟨fun hc => ?_, fun _ => ?_⟩
  · simp at hc; omega
  refine ⟨fun i h1 => h1 = h ∧ 0 ≤ i ∧ i ≤ ns.length, fun i _ => ns.length - i.toNat, ⟨rfl, by omega, by omega⟩, ?_⟩
  rintro i h1 ⟨hh, h0, h2⟩
  rw [hh]
  refine ⟨fun hc => ?_, fun hc => ⟨rfl, rfl⟩⟩
  simp only [decide_eq_true_eq] at hc
  obtain ⟨za, lda, gza⟩ := ga.ld h0 (by omega)
  obtain ⟨zb, ldb, gzb⟩ := gb.ld h0 (by omega)
  refine ⟨h0, by omega, ga.isS (by omega), h0, by omega, gb.isS (by omega), za, lda, zb, ldb, (ref01_SameInt gza gzb).const ?_⟩
  refine ⟨true, rfl, fun hc => by simp at hc, fun _ i1 e => ?_⟩
  rw [i64w (by omega) (by omega)] at e
  exact ⟨⟨rfl, by omega, by omega⟩, by dsimp only; omega⟩

theorem ref01_SameMat {h : Hp} {a b : M} {r k : Nat} {ns : List Int} (ga : Mx true h a r k ns) (gb : Mx true h b r k ns) :
    Tri Try.prog (.func (.func 12) #[] #[]) [a.v, b.v] h fun v h' => h' = h ∧ v = .bool true := by
  have hlen : ns.length ≤ 4096 := by rw [ga.len]; exact Nat.mul_le_mul ga.r64 ga.k64
  refine t_ref01_SameMat fun J hJ => ⟨fun _ => ?_, fun hc => ?_⟩
  · refine hJ _ _ fun J1 hJ1 => ⟨fun _ => (ref01_SameRow ga.row gb.row (by omega)).const ?_, fun hc => ?_⟩
    · exact ⟨true, rfl, hJ1 _ _ ⟨rfl, rfl⟩⟩
    · rw [ga.cols, gb.cols] at hc; simp at hc
  · rw [ga.rows, gb.rows] at hc; simp at hc

theorem law19_of (n : Nat) (hn0 : 0 < n) (hn : n < B) {h : Hp} : Tri Try.prog (.func (.func 13) #[] #[]) [.int .u64 (n : Nat)] h fun v h' => h.le h' ∧ ∃ z : Z, v = z.v ∧ Ze true h' z (n : Nat) := by
  refine t_law19_of ?_
  rintro b h1 hb rfl
  have hw : wd n = [n] := by rw [wd_pos (by omega), Nat.mod_eq_of_lt hn, Nat.div_eq_of_lt hn, wd_zero]
  have g : Ws (h.up b ⟨[.int .u64 (n : Nat)], true⟩) ⟨some (blkA b), 1, 1⟩ [n] := Ws.blk (l := [n]) (up_get _ _ _) (by simpa using hn) (Nat.le_refl _)
  refine ⟨Hp.le_up _ hb, ⟨false, ⟨some (blkA b), 1, 1⟩⟩, rfl, ⟨⟨[n], g, by simp, by simp [vl, sg]⟩, fun _ => ⟨by simp, ?_⟩⟩⟩
  rw [Int.natAbs_natCast, hw]; exact g

/-! ## mat.build -/

set_option maxHeartbeats 1000000 in
theorem mat_build {f : Nat} {p q : Array Value} {F : Nat → Vec} {h : Hp} {r k : Nat} (hr : r ≤ 64) (hk : k ≤ 64)
    (hf : ∀ (h1 : Hp) (i j : Nat), h.le h1 → i < r → j < k → Tri Try.prog (.func (.func f) p q) [.int .i64 (i : Nat), .int .i64 (j : Nat)] h1 fun v h' => h1.le h' ∧ ∃ z : Z, v = z.v ∧ Ze true h' z (F i j)) :
    Tri Try.prog (.func (.func 38) #[] #[]) [.int .i64 (r : Nat), .int .i64 (k : Nat), .func (.func f) p q] h fun v h' => h.le h' ∧ ∃ m : M, v = m.v ∧ Mx true h' m r k (flatM k F r) := by
  have hrk : r * k ≤ 64 * 64 := Nat.mul_le_mul hr hk
  refine t_mat_build fun x14 e14 => ?_
  rw [← Int.natCast_mul, i64w (by omega) (by omega)] at e14
  subst e14
  refine ⟨by omega, by omega, by omega, by omega, ?_⟩
  rintro b h1 hb rfl
  rw [Int.toNat_natCast]
  have l1 : h.le (h.up b ⟨mkCells [.bool false, .slice none 0 0] (r * k * 2), true⟩) := Hp.le_up _ hb
  refine ⟨fun i m h2 => ∃ I : Nat, i = I ∧ I ≤ r ∧ m.rows = r ∧ m.cols = k ∧ GrowZ h h2 m.el (flatM k F I), fun i _ _ => r - i.toNat, ⟨0, rfl, by omega, rfl, rfl, ⟨[], Or.inr ⟨b, _, rfl, hb, up_get _ _ _, rfl, by simp [mkCells, zcs], by dsimp only; omega, fun v hv => mem_mkCells (n := r * k * 2) (by decide) hv⟩, trivial⟩, l1⟩, ?_⟩
  rintro _ m h2 ⟨I, rfl, hI, hmr, hmc, gz⟩
  refine ⟨fun hc => ?_, fun hc => ?_⟩
  · simp only [decide_eq_true_eq] at hc
    refine ⟨fun t y h3 => ∃ T : Nat, t = T ∧ T ≤ k ∧ y.rows = r ∧ y.cols = k ∧ GrowZ h h3 y.el (flatM k F I ++ vecL T (F I)), fun t _ _ => k - t.toNat, ⟨0, rfl, by omega, hmr, hmc, ?_⟩, ?_⟩
    · have : vecL 0 (F I) = [] := rfl
      rw [this, List.append_nil]; exact gz
    clear gz hmr hmc
    rintro _ y h3 ⟨T, rfl, hT, hmr, hmc, gz⟩
    refine ⟨fun hc2 => ?_, fun hc2 => ?_⟩
    · simp only [decide_eq_true_eq] at hc2
      refine (hf h3 I T gz.le (by omega) (by omega)).mono ?_
      rintro _ h4 ⟨l4, z, rfl, hz⟩
      refine ⟨z, rfl, ?_⟩
      rintro b1 h5 hb1 rfl
      have l5 : h4.le (h4.up b1 ⟨[.bool z.neg, z.mag.v], true⟩) := Hp.le_up _ hb1
      have hcnt := gz.cnt
      rw [List.length_append, flatM_len, vecL_len] at hcnt
      have hIm : I * k ≤ 64 * 64 := Nat.mul_le_mul (by omega) (by omega)
      refine ⟨_, firstZ (up_get _ _ _), GrowZ.app (ms := [F I T]) ((gz.mono l4).mono l5) ⟨hz.le l5, trivial⟩ (by decide) rfl (by omega) ?_⟩
      intro s' h6 g6
      refine ⟨s', rfl, fun x e => ?_⟩
      rw [i64w (by omega) (by omega)] at e
      subst e
      refine ⟨⟨T + 1, by omega, by omega, hmr, hmc, ?_⟩, by dsimp only; omega⟩
      rw [vecL_succ, ← List.append_assoc]
      exact g6
    · simp only [decide_eq_false_iff_not] at hc2
      have hTn : T = k := by omega
      subst hTn
      intro x e
      rw [i64w (by omega) (by omega)] at e
      subst e
      refine ⟨⟨I + 1, by omega, by omega, hmr, hmc, ?_⟩, by dsimp only; omega⟩
      rw [flatM_succ]; exact gz
  · simp only [decide_eq_false_iff_not] at hc
    have hIn : I = r := by omega
    subst hIn
    exact ⟨gz.le, m, rfl, hmr, hmc, hr, hk, gz.row, by rw [flatM_len]⟩

theorem Zs_one_sz : Sz 1 := ⟨1, by decide, by decide⟩

theorem mat_Unit {h : Hp} {n : Nat} (hn : n ≤ 64) :
    Tri Try.prog (.func (.func 14) #[] #[]) [.int .i64 (n : Nat)] h fun v h' => h.le h' ∧ ∃ m : M, v = .tuple #[m.v, .int .i64 0] ∧ Mx true h' m n n (flatM n (unitV 1) n) := by
  refine t_mat_Unit ((mat_side n).const ?_)
  refine ⟨_, rfl, fun hc => ?_, fun _ => ?_⟩
  · simp at hc; omega
  refine (mat_build (F := unitV 1) hn hn fun h1 i j l hi hj => ?_).mono ?_
  · refine t_mat_Unit_1 ⟨fun hc => ?_, fun hc => ?_⟩
    · simp only [decide_eq_true_eq] at hc
      refine (zint_Of (by decide) (by decide)).mono ?_
      rintro _ h2 ⟨l2, z, rfl, hz⟩
      refine ⟨z, rfl, l2, z, rfl, ?_⟩
      have : unitV 1 i j = 1 := by unfold unitV; rw [if_pos (by omega)]
      rw [this]
      exact hz.ze Zs_one_sz true
    · simp only [decide_eq_false_iff_not] at hc
      refine ⟨Hp.le_refl _, z0, rfl, ?_⟩
      have : unitV 1 i j = 0 := by unfold unitV; rw [if_neg (by omega)]
      rw [this]
      exact z0_zs true h1
  · rintro _ h2 ⟨l2, m, rfl, gm⟩
    exact ⟨m, rfl, l2, m, rfl, gm⟩

end Go.Proofs.Ytmfafadchpglgaa

/- PRINTED BY vcgen.py: code with hints, the formula to show, the theorem; each check by the kernel. -/
namespace Go.Proofs.Ytmfafadchpglgaa

/- trellis/bareiss.of -/
def d_bareiss_of : Vd :=
  .seq (.ops [.op 0 ⟨none, some 1, .box 3 (.t 0)⟩ false (.sh (.one .val)), .op 1 ⟨none, some 2, .mov (.pnil)⟩ false (.no)] [0, 1, 2, 3, 4, 5, 10, 11, 12]) (.seq (.ops [.op 0 ⟨none, some 6, .call false (.f 40) [.i .i64 1]⟩ false (.sh (.agg [.z])), .op 1 ⟨none, some 7, .bd [.nil, .nil, .b false, .b false, .nil, .i .i64 0] [(3, 2, .t 6)]⟩ false (.no), .op 2 ⟨none, some 8, .boxp 6 (.t 7)⟩ false (.sh (.one .val)), .op 3 ⟨none, some 3, .new [.pnil]⟩ false (.sh (.one .val)), .op 4 ⟨none, none, .stb 3 3 1 (.t 8)⟩ false (.sh (.one .val))] [0, 1, 2, 3, 4, 5, 10, 11, 12]) (.seq (.seq (.ops [.op 0 ⟨none, some 9, .ldb 1 1 (some 3)⟩ false (.no), .op 1 ⟨none, some 10, .call false (.f 30) [.t 9]⟩ false (.sh (.one (.fn)))] [0, 1, 2, 3, 4, 5, 10, 11, 12]) (.block 0 (.rf (.t 10) [(11, .int .i64), (12, .slice)] [3] [3] [(1, 1000001), (3, 1000003)] (.seq (.ops [.op 0 ⟨none, some 4, .mov (.t 11)⟩ false (.no)] [0, 1, 2, 3, 4, 5, 10, 11, 12, 1000003]) (.ops [.op 0 ⟨none, some 5, .mov (.t 12)⟩ false (.no)] [0, 1, 2, 3, 4, 5, 10, 11, 12, 1000003])) (.block 1 (.seq (.ops [.op 0 ⟨none, some 13, .ldb 3 1000003 none⟩ false (.no), .op 1 ⟨none, some 14, .ldb 3 1000003 none⟩ false (.no), .op 2 ⟨none, some 15, .nilck (.t 14)⟩ false (.no), .op 3 ⟨none, some 16, .fa 0 (.t 15)⟩ false (.no), .op 5 ⟨none, some 18, .mov (.t 5)⟩ false (.no), .op 4 ⟨none, some 17, .ldh none (.t 16)⟩ false (.sh (.one (.slice))), .op 6 ⟨none, some 19, .bs [.nil] 1 1 [(0, .t 18)]⟩ false (.sh (.one .val)), .op 7 ⟨none, some 20, .app 1 24 [.nil] (.t 17) (.t 19)⟩ false (.sh (.one .slice)), .op 8 ⟨none, some 21, .nilck (.t 13)⟩ false (.no), .op 9 ⟨none, some 22, .fa 0 (.t 21)⟩ false (.no), .op 10 ⟨none, none, .sth 1 (.t 22) (.t 20)⟩ false (.sh (.one .val))] [0, 1, 2, 3, 4, 5, 10, 11, 12, 1000003]) (.ops [.op 0 ⟨none, some 23, .ldb 3 1000003 none⟩ false (.no), .op 1 ⟨none, some 24, .ldb 3 1000003 none⟩ false (.no), .op 2 ⟨none, some 25, .nilck (.t 24)⟩ false (.no), .op 3 ⟨none, some 26, .fa 1 (.t 25)⟩ false (.no), .op 5 ⟨none, some 28, .mov (.t 4)⟩ false (.no), .op 4 ⟨none, some 27, .ldh none (.t 26)⟩ false (.sh (.one (.slice))), .op 6 ⟨none, some 29, .bs [.i .i64 0] 1 1 [(0, .t 28)]⟩ false (.sh (.one .val)), .op 7 ⟨none, some 30, .app 1 8 [.i .i64 0] (.t 27) (.t 29)⟩ false (.sh (.one .slice)), .op 8 ⟨none, some 31, .nilck (.t 23)⟩ false (.no), .op 9 ⟨none, some 32, .fa 1 (.t 31)⟩ false (.no), .op 10 ⟨none, none, .sth 1 (.t 32) (.t 30)⟩ false (.sh (.one .val))] [0, 1, 2, 3, 4, 5, 10, 11, 12, 1000003])))))) (.seq (.ops [.op 0 ⟨none, some 33, .ldb 3 3 none⟩ false (.no), .op 1 ⟨none, some 2, .mov (.t 33)⟩ false (.no)] [0, 1, 2, 3, 4, 5, 10, 11, 12]) (.ret))))
def v_bareiss_of (a : M) (h : Hp) (R : Value → Hp → Prop) : Prop :=
  Tri Try.prog (.func (.func 40) #[] #[]) [.int .i64 1] h fun r h1 => ∃ x6 : Z, r = x6.v ∧
  ∀ b : Nat, ∀ h2 : Hp, h1 b = none → h2 = h1.up b ⟨[.slice none 0 0, .slice none 0 0, .bool false, .bool x6.neg, x6.mag.v, .int .i64 0], true⟩ →
  Tri Try.prog (.func (.func 30) #[] #[]) [a.v] h2 fun r1 h3 => ∃ x10 : Nat, ∃ x10_p : Array Value, ∃ x10_q : Array Value, r1 = .func (.func x10) x10_p x10_q ∧
  ∃ hm : Hp, ∃ n : Nat, ∃ It : Nat → Hp → Int → Sl → Hp → Prop, IterL Try.prog (.func (.func x10) x10_p x10_q) hm n [.int .i64, .slice] It ∧ ∃ J : Nat → Hp → Prop, J 0 h3 ∧ (∀ i : Nat, ∀ h : Hp, J i h → hm.le h) ∧
  (∀ i : Nat, ∀ h4 : Hp, i < n → J i h4 → ∀ x11 : Int, ∀ x12 : Sl, ∀ h5 : Hp, It i h4 x11 x12 h5 → h4.le h5 →
    ∃ x17 : Sl, hld h5 ((blkA b).add 0) none = some (x17.v) ∧
    ∀ b1 : Nat, ∀ h7 : Hp, h5 b1 = none → h7 = h5.up b1 ⟨[x12.v], true⟩ →
    ∃ ys : List Value, firstOf h7 (some (blkA b1)) 1 1 = some ys ∧ appRes h7 x17.a x17.n x17.c 1 1 24 [.nil] ys fun r2 h8 => ∃ x20 : Sl, r2 = x20.v ∧
    ∃ h9 : Hp, hst h8 ((blkA b).add 0) [x20.v] = some h9 ∧
    ∃ x27 : Sl, hld h9 ((blkA b).add 1) none = some (x27.v) ∧
    ∀ b2 : Nat, ∀ h10 : Hp, h9 b2 = none → h10 = h9.up b2 ⟨[.int .i64 x11], true⟩ →
    ∃ ys1 : List Value, firstOf h10 (some (blkA b2)) 1 1 = some ys1 ∧ appRes h10 x27.a x27.n x27.c 1 1 8 [.i .i64 0] ys1 fun r3 h11 => ∃ x30 : Sl, r3 = x30.v ∧
    ∃ h12 : Hp, hst h11 ((blkA b).add 1) [x30.v] = some h12 ∧
    J (i + 1) h12
  ) ∧ (∀ h6 : Hp, J n h6 →
    R (.pointer (some (blkA b))) h6
  )
set_option maxRecDepth 100000 in
theorem t_bareiss_of {a : M} {h : Hp} {R : Value → Hp → Prop} (hv : v_bareiss_of a h R) : Tri Try.prog (.func (.func 64) #[] #[]) [a.v] h R :=
  tri_of_vc mixed Try.func64 (d := d_bareiss_of) (RM := [(1, 1), (3, 3)]) (rvs := [.tmp 2]) (args := [a.v]) (caps := []) (by kernel_rfl) Try.ntmps64 (V := v_bareiss_of a h R) (by kernel_rfl) (by simp) hv

/- (*trellis/bareiss.field).run -/
def d_bareiss_field_run : Vd :=
  .seq (.ops [.op 0 ⟨none, some 4, .mov (.nil)⟩ false (.no)] [0, 1, 4, 5, 6, 7, 8, 9, 13]) (.seq (.ops [.op 0 ⟨none, some 5, .mov (.nil)⟩ false (.no)] [0, 1, 4, 5, 6, 7, 8, 9, 13]) (.seq (.seq (.ops [.op 0 ⟨none, some 7, .mov (.t 1)⟩ false (.no), .op 1 ⟨none, some 8, .mov (.i .i64 0)⟩ false (.no)] [0, 1, 4, 5, 6, 7, 8, 9, 13]) (.block 0 (.loop ⟨[0, 7], [], []⟩ [.t 5 (.slice), .t 8 (.int .i64)] (.seq (.ops [.op 0 ⟨none, some 9, .bin .lss (.t 8) (.t 7)⟩ false (.sh (.one .val))] [0, 1, 4, 5, 6, 7, 8, 9, 13]) (.seq (.cond (.t 9) (.skip) (.exit 0)) (.join ⟨[0, 7, 8], [], []⟩ [.t 5 (.slice)] (.block 1 (.seq (.ops [.op 0 ⟨none, some 10, .mov (.t 8)⟩ false (.no), .op 1 ⟨none, some 6, .mov (.t 10)⟩ false (.no)] [0, 1, 4, 5, 6, 7, 8, 9, 13]) (.seq (.ops [.op 0 ⟨none, some 11, .mov (.t 0)⟩ false (.no), .op 1 ⟨none, some 12, .mov (.t 6)⟩ false (.no), .op 2 ⟨none, some 13, .call false (.f 84) [.t 11, .t 12]⟩ false (.sh (.one (.bool)))] [0, 1, 4, 5, 6, 7, 8, 9, 13]) (.cond (.t 13) (.ops [.op 0 ⟨none, some 14, .mov (.t 5)⟩ false (.no), .op 1 ⟨none, some 15, .mov (.t 6)⟩ false (.no), .op 2 ⟨none, some 16, .bs [.i .i64 0] 1 1 [(0, .t 15)]⟩ false (.sh (.one .val)), .op 3 ⟨none, some 17, .app 1 8 [.i .i64 0] (.t 14) (.t 16)⟩ false (.sh (.one .slice)), .op 4 ⟨none, some 5, .mov (.t 17)⟩ false (.no)] [0, 1, 4, 5, 6, 7, 8, 9, 13]) (.skip))))) (.ops [.op 0 ⟨none, some 18, .bin .add (.t 8) (.i .i64 1)⟩ false (.sh (.one .val)), .op 1 ⟨none, some 8, .mov (.t 18)⟩ false (.no)] [0, 1, 4, 5, 6, 7, 8, 9, 13]))))))) (.seq (.ops [.op 0 ⟨none, some 19, .mov (.t 5)⟩ false (.no), .op 1 ⟨none, some 4, .mov (.t 19)⟩ false (.no)] [0, 1, 4, 5, 6, 7, 8, 9, 13]) (.ret))))
def v_bareiss_field_run (f : Addr) (cols : Int) (h : Hp) (R : Value → Hp → Prop) : Prop :=
  ∃ I : Sl → Int → Hp → Prop, ∃ mu : Sl → Int → Hp → Nat, I ⟨none, 0, 0⟩ 0 h ∧ (∀ list : Sl, ∀ x8 : Int, ∀ h1 : Hp, I list x8 h1 →
    ((decide (x8 < cols)) = true →
      ∀ J : Sl → Hp → Prop, (∀ list1 : Sl, ∀ h2 : Hp, (
        ∀ x18 : Int, x18 = IntKind.i64.wrap (x8 + 1) →
        I list1 x18 h2 ∧ mu list1 x18 h2 < mu list x8 h1
      ) → J list1 h2) →
      Tri Try.prog (.func (.func 84) #[] #[]) [.pointer (some f), .int .i64 x8] h1 fun r h3 => ∃ x13 : Bool, r = .bool x13 ∧
      (x13 = true →
        ∀ b : Nat, ∀ h4 : Hp, h3 b = none → h4 = h3.up b ⟨[.int .i64 x8], true⟩ →
        ∃ ys : List Value, firstOf h4 (some (blkA b)) 1 1 = some ys ∧ appRes h4 list.a list.n list.c 1 1 8 [.i .i64 0] ys fun r1 h5 => ∃ x17 : Sl, r1 = x17.v ∧
        J x17 h5
      ) ∧ (x13 = false →
        J list h3
      )
    ) ∧ ((decide (x8 < cols)) = false →
      R (list.v) h1
    )
  )
set_option maxRecDepth 100000 in
theorem t_bareiss_field_run {f : Addr} {cols : Int} {h : Hp} {R : Value → Hp → Prop} (hv : v_bareiss_field_run f cols h R) : Tri Try.prog (.func (.func 65) #[] #[]) [.pointer (some f), .int .i64 cols] h R :=
  tri_of_vc mixed Try.func65 (d := d_bareiss_field_run) (RM := []) (rvs := [.tmp 4]) (args := [.pointer (some f), .int .i64 cols]) (caps := []) (by kernel_rfl) Try.ntmps65 (V := v_bareiss_field_run f cols h R) (by kernel_rfl) (by simp) hv

/- (*trellis/bareiss.field).step -/
def d_bareiss_field_step : Vd :=
  .seq (.ops [.op 0 ⟨none, some 4, .mov (.b false)⟩ false (.no)] [0, 1, 4, 5, 6, 7, 9, 10, 11, 12, 38, 47, 50, 124, 125, 126, 127, 139]) (.seq (.ops [.op 0 ⟨none, some 13, .mov (.t 0)⟩ false (.no), .op 1 ⟨none, some 14, .nilck (.t 13)⟩ false (.no), .op 2 ⟨none, some 15, .fa 5 (.t 14)⟩ false (.no), .op 3 ⟨none, some 16, .ldh none (.t 15)⟩ false (.sh (.one (.int .i64))), .op 4 ⟨none, some 5, .mov (.t 16)⟩ false (.no)] [0, 1, 4, 5, 6, 7, 9, 10, 11, 12, 38, 47, 50, 124, 125, 126, 127, 139]) (.seq (.ops [.op 0 ⟨none, some 17, .mov (.t 5)⟩ false (.no), .op 1 ⟨none, some 6, .mov (.t 17)⟩ false (.no)] [0, 1, 4, 5, 6, 7, 9, 10, 11, 12, 38, 47, 50, 124, 125, 126, 127, 139]) (.seq (.block 0 (.loop ⟨[0, 1, 5], [], []⟩ [.t 6 (.int .i64)] (.seq (.seq (.ops [.op 0 ⟨none, some 18, .mov (.t 6)⟩ false (.no), .op 1 ⟨none, some 19, .mov (.t 0)⟩ false (.no), .op 2 ⟨none, some 20, .nilck (.t 19)⟩ false (.no), .op 3 ⟨none, some 21, .fa 0 (.t 20)⟩ false (.no), .op 4 ⟨none, some 22, .ldh none (.t 21)⟩ false (.sh (.one (.slice))), .op 5 ⟨none, some 23, .len (.t 22)⟩ false (.no), .op 6 ⟨none, some 24, .bin .lss (.t 18) (.t 23)⟩ false (.sh (.one .val)), .op 7 ⟨none, some 25, .mov (.t 24)⟩ false (.no), .grp ⟨[0, 1, 5, 6], [], []⟩ [.t 38 (.bool)] [(8, ⟨some (25, true), some 26, .mov (.t 0)⟩, true, .no), (9, ⟨some (25, true), some 27, .nilck (.t 26)⟩, false, .no), (10, ⟨some (25, true), some 28, .fa 0 (.t 27)⟩, false, .no), (11, ⟨some (25, true), some 29, .ldh none (.t 28)⟩, false, .sh (.one (.slice))), (12, ⟨some (25, true), some 30, .mov (.t 6)⟩, false, .no), (13, ⟨some (25, true), some 31, .ia 1 (.t 29) (.t 30)⟩, false, .no), (14, ⟨some (25, true), some 32, .ldh none (.t 31)⟩, false, .sh (.one (.slice))), (15, ⟨some (25, true), some 33, .mov (.t 1)⟩, false, .no), (16, ⟨some (25, true), some 34, .ia 2 (.t 32) (.t 33)⟩, false, .no), (17, ⟨some (25, true), some 35, .ldh (some 2) (.t 34)⟩, false, .sh (.agg [.z])), (18, ⟨some (25, true), some 36, .call false (.f 8) [.t 35]⟩, false, .sh (.one (.int .i64))), (19, ⟨some (25, true), some 37, .bin .eql (.t 36) (.i .i64 0)⟩, false, .sh (.one .val)), (20, ⟨none, some 38, .pick (.t 25) (.t 37) (.b false)⟩, false, .no)]] [0, 1, 4, 5, 6, 7, 9, 10, 11, 12, 38, 47, 50, 124, 125, 126, 127, 139]) (.cond (.t 38) (.skip) (.exit 0))) (.block 1 (.ops [.op 0 ⟨none, some 39, .mov (.t 6)⟩ false (.no), .op 1 ⟨none, some 40, .bin .add (.t 39) (.i .i64 1)⟩ false (.sh (.one .val)), .op 2 ⟨none, some 6, .mov (.t 40)⟩ false (.no)] [0, 1, 4, 5, 6, 7, 9, 10, 11, 12, 38, 47, 50, 124, 125, 126, 127, 139]))))) (.seq (.seq (.ops [.op 0 ⟨none, some 41, .mov (.t 6)⟩ false (.no), .op 1 ⟨none, some 42, .mov (.t 0)⟩ false (.no), .op 2 ⟨none, some 43, .nilck (.t 42)⟩ false (.no), .op 3 ⟨none, some 44, .fa 0 (.t 43)⟩ false (.no), .op 4 ⟨none, some 45, .ldh none (.t 44)⟩ false (.sh (.one (.slice))), .op 5 ⟨none, some 46, .len (.t 45)⟩ false (.no), .op 6 ⟨none, some 47, .bin .eql (.t 41) (.t 46)⟩ false (.sh (.one .val))] [0, 1, 4, 5, 6, 7, 9, 10, 11, 12, 38, 47, 50, 124, 125, 126, 127, 139]) (.cond (.t 47) (.seq (.ops [.op 0 ⟨none, some 4, .mov (.b false)⟩ false (.no)] [0, 1, 4, 5, 6, 7, 9, 10, 11, 12, 38, 47, 50, 124, 125, 126, 127, 139]) (.ret)) (.skip))) (.join ⟨[0, 1, 5], [], []⟩ [] (.seq (.ops [.op 0 ⟨none, some 48, .mov (.t 6)⟩ false (.no), .op 1 ⟨none, some 49, .mov (.t 5)⟩ false (.no), .op 2 ⟨none, some 50, .bin .neq (.t 48) (.t 49)⟩ false (.sh (.one .val))] [0, 1, 4, 5, 6, 7, 9, 10, 11, 12, 38, 47, 50, 124, 125, 126, 127, 139]) (.cond (.t 50) (.seq (.ops [.op 0 ⟨none, some 51, .mov (.t 0)⟩ false (.no), .op 1 ⟨none, some 52, .nilck (.t 51)⟩ false (.no), .op 2 ⟨none, some 53, .fa 0 (.t 52)⟩ false (.no), .op 4 ⟨none, some 55, .mov (.t 6)⟩ false (.no), .op 5 ⟨none, some 56, .mov (.t 0)⟩ false (.no), .op 6 ⟨none, some 57, .nilck (.t 56)⟩ false (.no), .op 7 ⟨none, some 58, .fa 0 (.t 57)⟩ false (.no), .op 9 ⟨none, some 60, .mov (.t 5)⟩ false (.no), .op 10 ⟨none, some 61, .mov (.t 0)⟩ false (.no), .op 11 ⟨none, some 62, .nilck (.t 61)⟩ false (.no), .op 12 ⟨none, some 63, .fa 0 (.t 62)⟩ false (.no), .op 14 ⟨none, some 65, .mov (.t 5)⟩ false (.no), .op 17 ⟨none, some 68, .mov (.t 0)⟩ false (.no), .op 18 ⟨none, some 69, .nilck (.t 68)⟩ false (.no), .op 19 ⟨none, some 70, .fa 0 (.t 69)⟩ false (.no), .op 21 ⟨none, some 72, .mov (.t 6)⟩ false (.no), .op 3 ⟨none, some 54, .ldh none (.t 53)⟩ false (.sh (.one (.slice))), .op 8 ⟨none, some 59, .ldh none (.t 58)⟩ false (.sh (.one (.slice))), .op 13 ⟨none, some 64, .ldh none (.t 63)⟩ false (.sh (.one (.slice))), .op 15 ⟨none, some 66, .ia 1 (.t 64) (.t 65)⟩ false (.no), .op 16 ⟨none, some 67, .ldh none (.t 66)⟩ false (.sh (.one (.slice))), .op 20 ⟨none, some 71, .ldh none (.t 70)⟩ false (.sh (.one (.slice))), .op 22 ⟨none, some 73, .ia 1 (.t 71) (.t 72)⟩ false (.no), .op 23 ⟨none, some 74, .ldh none (.t 73)⟩ false (.sh (.one (.slice))), .op 24 ⟨none, some 75, .ia 1 (.t 54) (.t 55)⟩ false (.no), .op 25 ⟨none, none, .sth 1 (.t 75) (.t 67)⟩ false (.sh (.one .val)), .op 26 ⟨none, some 76, .ia 1 (.t 59) (.t 60)⟩ false (.no), .op 27 ⟨none, none, .sth 1 (.t 76) (.t 74)⟩ false (.sh (.one .val))] [0, 1, 4, 5, 6, 7, 9, 10, 11, 12, 38, 47, 50, 124, 125, 126, 127, 139]) (.seq (.ops [.op 0 ⟨none, some 77, .mov (.t 0)⟩ false (.no), .op 1 ⟨none, some 78, .nilck (.t 77)⟩ false (.no), .op 2 ⟨none, some 79, .fa 1 (.t 78)⟩ false (.no), .op 4 ⟨none, some 81, .mov (.t 6)⟩ false (.no), .op 5 ⟨none, some 82, .mov (.t 0)⟩ false (.no), .op 6 ⟨none, some 83, .nilck (.t 82)⟩ false (.no), .op 7 ⟨none, some 84, .fa 1 (.t 83)⟩ false (.no), .op 9 ⟨none, some 86, .mov (.t 5)⟩ false (.no), .op 10 ⟨none, some 87, .mov (.t 0)⟩ false (.no), .op 11 ⟨none, some 88, .nilck (.t 87)⟩ false (.no), .op 12 ⟨none, some 89, .fa 1 (.t 88)⟩ false (.no), .op 14 ⟨none, some 91, .mov (.t 5)⟩ false (.no), .op 17 ⟨none, some 94, .mov (.t 0)⟩ false (.no), .op 18 ⟨none, some 95, .nilck (.t 94)⟩ false (.no), .op 19 ⟨none, some 96, .fa 1 (.t 95)⟩ false (.no), .op 21 ⟨none, some 98, .mov (.t 6)⟩ false (.no), .op 3 ⟨none, some 80, .ldh none (.t 79)⟩ false (.sh (.one (.slice))), .op 8 ⟨none, some 85, .ldh none (.t 84)⟩ false (.sh (.one (.slice))), .op 13 ⟨none, some 90, .ldh none (.t 89)⟩ false (.sh (.one (.slice))), .op 15 ⟨none, some 92, .ia 1 (.t 90) (.t 91)⟩ false (.no), .op 16 ⟨none, some 93, .ldh none (.t 92)⟩ false (.sh (.one (.int .i64))), .op 20 ⟨none, some 97, .ldh none (.t 96)⟩ false (.sh (.one (.slice))), .op 22 ⟨none, some 99, .ia 1 (.t 97) (.t 98)⟩ false (.no), .op 23 ⟨none, some 100, .ldh none (.t 99)⟩ false (.sh (.one (.int .i64))), .op 24 ⟨none, some 101, .ia 1 (.t 80) (.t 81)⟩ false (.no), .op 25 ⟨none, none, .sth 1 (.t 101) (.t 93)⟩ false (.sh (.one .val)), .op 26 ⟨none, some 102, .ia 1 (.t 85) (.t 86)⟩ false (.no), .op 27 ⟨none, none, .sth 1 (.t 102) (.t 100)⟩ false (.sh (.one .val))] [0, 1, 4, 5, 6, 7, 9, 10, 11, 12, 38, 47, 50, 124, 125, 126, 127, 139]) (.ops [.op 0 ⟨none, some 103, .mov (.t 0)⟩ false (.no), .op 1 ⟨none, some 104, .mov (.t 0)⟩ false (.no), .op 2 ⟨none, some 105, .nilck (.t 104)⟩ false (.no), .op 3 ⟨none, some 106, .fa 2 (.t 105)⟩ false (.no), .op 4 ⟨none, some 107, .ldh none (.t 106)⟩ false (.sh (.one (.bool))), .op 5 ⟨none, some 108, .un .not (.t 107)⟩ false (.no), .op 6 ⟨none, some 109, .nilck (.t 103)⟩ false (.no), .op 7 ⟨none, some 110, .fa 2 (.t 109)⟩ false (.no), .op 8 ⟨none, none, .sth 1 (.t 110) (.t 108)⟩ false (.sh (.one .val))] [0, 1, 4, 5, 6, 7, 9, 10, 11, 12, 38, 47, 50, 124, 125, 126, 127, 139]))) (.skip))) (.seq (.ops [.op 0 ⟨none, some 111, .mov (.t 0)⟩ false (.no), .op 1 ⟨none, some 112, .nilck (.t 111)⟩ false (.no), .op 2 ⟨none, some 113, .fa 0 (.t 112)⟩ false (.no), .op 3 ⟨none, some 114, .ldh none (.t 113)⟩ false (.sh (.one (.slice))), .op 4 ⟨none, some 115, .mov (.t 5)⟩ false (.no), .op 5 ⟨none, some 116, .ia 1 (.t 114) (.t 115)⟩ false (.no), .op 6 ⟨none, some 117, .ldh none (.t 116)⟩ false (.sh (.one (.slice))), .op 7 ⟨none, some 7, .mov (.t 117)⟩ false (.no)] [0, 1, 4, 5, 6, 7, 9, 10, 11, 12, 38, 47, 50, 124, 125, 126, 127, 139]) (.seq (.seq (.ops [.op 0 ⟨none, some 118, .mov (.t 0)⟩ false (.no), .op 1 ⟨none, some 119, .nilck (.t 118)⟩ false (.no), .op 2 ⟨none, some 120, .fa 0 (.t 119)⟩ false (.no), .op 3 ⟨none, some 121, .ldh none (.t 120)⟩ false (.sh (.one (.slice))), .op 4 ⟨none, some 122, .mov (.t 5)⟩ false (.no), .op 5 ⟨none, some 123, .bin .add (.t 122) (.i .i64 1)⟩ false (.sh (.one .val)), .op 6 ⟨none, some 124, .sl 1 (.t 121) (some (.t 123)) none none⟩ false (.no), .op 7 ⟨none, some 125, .len (.t 124)⟩ false (.no), .op 8 ⟨none, some 126, .mov (.i .i64 0)⟩ false (.no)] [0, 1, 4, 5, 6, 7, 9, 10, 11, 12, 38, 47, 50, 124, 125, 126, 127, 139]) (.block 2 (.loop ⟨[0, 1, 7, 124, 125], [], []⟩ [.t 126 (.int .i64)] (.seq (.ops [.op 0 ⟨none, some 127, .bin .lss (.t 126) (.t 125)⟩ false (.sh (.one .val))] [0, 1, 4, 5, 6, 7, 9, 10, 11, 12, 38, 47, 50, 124, 125, 126, 127, 139]) (.seq (.cond (.t 127) (.skip) (.exit 2)) (.seq (.block 3 (.seq (.ops [.op 0 ⟨none, some 128, .ia 1 (.t 124) (.t 126)⟩ false (.no), .op 1 ⟨none, some 129, .ldh none (.t 128)⟩ false (.sh (.one (.slice))), .op 2 ⟨none, some 9, .mov (.t 129)⟩ false (.no)] [0, 1, 4, 5, 6, 7, 9, 10, 11, 12, 38, 47, 50, 124, 125, 126, 127, 139]) (.seq (.ops [.op 0 ⟨none, some 130, .mov (.t 9)⟩ false (.no), .op 1 ⟨none, some 131, .mov (.t 1)⟩ false (.no), .op 2 ⟨none, some 132, .ia 2 (.t 130) (.t 131)⟩ false (.no), .op 3 ⟨none, some 133, .ldh (some 2) (.t 132)⟩ false (.sh (.agg [.z])), .op 4 ⟨none, some 10, .new [.b false, .nil]⟩ false (.sh (.one .val)), .op 5 ⟨none, none, .stb 10 10 2 (.t 133)⟩ false (.sh (.one .val))] [0, 1, 4, 5, 6, 7, 9, 10, 11, 12, 38, 47, 50, 124, 125, 126, 127, 139]) (.seq (.seq (.ops [.op 0 ⟨none, some 134, .mov (.t 1)⟩ false (.no), .op 1 ⟨none, some 135, .bin .add (.t 134) (.i .i64 1)⟩ false (.sh (.one .val)), .op 2 ⟨none, some 11, .mov (.t 135)⟩ false (.no)] [0, 1, 4, 5, 6, 7, 9, 10, 11, 12, 38, 47, 50, 124, 125, 126, 127, 139]) (.block 4 (.loop ⟨[0, 1, 7, 9, 10, 124, 125, 126], [10], [10]⟩ [.t 11 (.int .i64)] (.seq (.seq (.ops [.op 0 ⟨none, some 136, .mov (.t 11)⟩ false (.no), .op 1 ⟨none, some 137, .mov (.t 9)⟩ false (.no), .op 2 ⟨none, some 138, .len (.t 137)⟩ false (.no), .op 3 ⟨none, some 139, .bin .lss (.t 136) (.t 138)⟩ false (.sh (.one .val))] [0, 1, 4, 5, 6, 7, 9, 10, 11, 12, 38, 47, 50, 124, 125, 126, 127, 139]) (.cond (.t 139) (.skip) (.exit 4))) (.seq (.block 5 (.seq (.ops [.op 0 ⟨none, some 142, .mov (.t 7)⟩ false (.no), .op 1 ⟨none, some 143, .mov (.t 1)⟩ false (.no), .op 2 ⟨none, some 144, .ia 2 (.t 142) (.t 143)⟩ false (.no), .op 4 ⟨none, some 146, .mov (.t 9)⟩ false (.no), .op 5 ⟨none, some 147, .mov (.t 11)⟩ false (.no), .op 6 ⟨none, some 148, .ia 2 (.t 146) (.t 147)⟩ false (.no), .op 9 ⟨none, some 151, .ldb 10 10 (some 2)⟩ false (.no), .op 10 ⟨none, some 152, .mov (.t 7)⟩ false (.no), .op 11 ⟨none, some 153, .mov (.t 11)⟩ false (.no), .op 12 ⟨none, some 154, .ia 2 (.t 152) (.t 153)⟩ false (.no), .op 16 ⟨none, some 12, .new [.b false, .nil]⟩ false (.sh (.one .val)), .op 3 ⟨none, some 145, .ldh (some 2) (.t 144)⟩ false (.sh (.agg [.z])), .op 7 ⟨none, some 149, .ldh (some 2) (.t 148)⟩ false (.sh (.agg [.z])), .op 13 ⟨none, some 155, .ldh (some 2) (.t 154)⟩ false (.sh (.agg [.z])), .op 8 ⟨none, some 150, .call true (.f 11) [.t 145, .t 149]⟩ false (.sh (.agg [.z])), .op 14 ⟨none, some 156, .call true (.f 11) [.t 151, .t 155]⟩ false (.sh (.agg [.z])), .op 15 ⟨none, some 157, .call true (.f 79) [.t 150, .t 156]⟩ false (.sh (.agg [.z])), .op 17 ⟨none, none, .stb 12 12 2 (.t 157)⟩ false (.sh (.one .val))] [0, 1, 4, 5, 6, 7, 9, 10, 11, 12, 38, 47, 50, 124, 125, 126, 127, 139]) (.ops [.op 0 ⟨none, some 159, .mov (.t 9)⟩ false (.no), .op 1 ⟨none, some 160, .mov (.t 11)⟩ false (.no), .op 2 ⟨none, some 161, .ldb 12 12 (some 2)⟩ false (.no), .op 3 ⟨none, some 162, .mov (.t 0)⟩ false (.no), .op 4 ⟨none, some 163, .nilck (.t 162)⟩ false (.no), .op 5 ⟨none, some 164, .fa 3 (.t 163)⟩ false (.no), .op 6 ⟨none, some 165, .ldh (some 2) (.t 164)⟩ false (.sh (.agg [.z])), .op 7 ⟨none, some 166, .call false (.f 51) [.t 161, .t 165]⟩ false (.sh (.tup [(some [.z], .val), (none, .int .i64)])), .op 8 ⟨none, some 158, .mov (.t 166)⟩ false (.no), .op 9 ⟨none, some 167, .ext (.t 158) 0⟩ false (.no), .op 10 ⟨none, some 168, .ext (.t 158) 1⟩ false (.no), .op 11 ⟨none, some 169, .ia 2 (.t 159) (.t 160)⟩ false (.no), .op 12 ⟨none, none, .sth 2 (.t 169) (.t 167)⟩ false (.sh (.one .val))] [0, 1, 4, 5, 6, 7, 9, 10, 11, 12, 38, 47, 50, 124, 125, 126, 127, 139]))) (.ops [.op 0 ⟨none, some 140, .mov (.t 11)⟩ false (.no), .op 1 ⟨none, some 141, .bin .add (.t 140) (.i .i64 1)⟩ false (.sh (.one .val)), .op 2 ⟨none, some 11, .mov (.t 141)⟩ false (.no)] [0, 1, 4, 5, 6, 7, 9, 10, 11, 12, 38, 47, 50, 124, 125, 126, 127, 139])))))) (.ops [.op 0 ⟨none, some 170, .mov (.t 9)⟩ false (.no), .op 1 ⟨none, some 171, .mov (.t 1)⟩ false (.no), .op 2 ⟨none, some 172, .bd [.b false, .nil] []⟩ false (.no), .op 3 ⟨none, some 173, .ia 2 (.t 170) (.t 171)⟩ false (.no), .op 4 ⟨none, none, .sth 2 (.t 173) (.t 172)⟩ false (.sh (.one .val))] [0, 1, 4, 5, 6, 7, 9, 10, 11, 12, 38, 47, 50, 124, 125, 126, 127, 139]))))) (.ops [.op 0 ⟨none, some 174, .bin .add (.t 126) (.i .i64 1)⟩ false (.sh (.one .val)), .op 1 ⟨none, some 126, .mov (.t 174)⟩ false (.no)] [0, 1, 4, 5, 6, 7, 9, 10, 11, 12, 38, 47, 50, 124, 125, 126, 127, 139]))))))) (.seq (.ops [.op 0 ⟨none, some 175, .mov (.t 0)⟩ false (.no), .op 1 ⟨none, some 176, .mov (.t 7)⟩ false (.no), .op 2 ⟨none, some 177, .mov (.t 1)⟩ false (.no), .op 3 ⟨none, some 178, .ia 2 (.t 176) (.t 177)⟩ false (.no), .op 4 ⟨none, some 179, .ldh (some 2) (.t 178)⟩ false (.sh (.agg [.z])), .op 5 ⟨none, some 180, .nilck (.t 175)⟩ false (.no), .op 6 ⟨none, some 181, .fa 3 (.t 180)⟩ false (.no), .op 7 ⟨none, none, .sth 2 (.t 181) (.t 179)⟩ false (.sh (.one .val))] [0, 1, 4, 5, 6, 7, 9, 10, 11, 12, 38, 47, 50, 124, 125, 126, 127, 139]) (.seq (.ops [.op 0 ⟨none, some 182, .mov (.t 0)⟩ false (.no), .op 1 ⟨none, some 183, .nilck (.t 182)⟩ false (.no), .op 2 ⟨none, some 184, .fa 5 (.t 183)⟩ false (.no), .op 3 ⟨none, some 185, .ldh none (.t 184)⟩ false (.sh (.one (.int .i64))), .op 4 ⟨none, some 186, .bin .add (.t 185) (.i .i64 1)⟩ false (.sh (.one .val)), .op 5 ⟨none, some 187, .nilck (.t 182)⟩ false (.no), .op 6 ⟨none, some 188, .fa 5 (.t 187)⟩ false (.no), .op 7 ⟨none, none, .sth 1 (.t 188) (.t 186)⟩ false (.sh (.one .val))] [0, 1, 4, 5, 6, 7, 9, 10, 11, 12, 38, 47, 50, 124, 125, 126, 127, 139]) (.seq (.ops [.op 0 ⟨none, some 4, .mov (.b true)⟩ false (.no)] [0, 1, 4, 5, 6, 7, 9, 10, 11, 12, 38, 47, 50, 124, 125, 126, 127, 139]) (.ret)))))))))))
def v_bareiss_field_step (x0 : Addr) (x1 : Int) (h : Hp) (R : Value → Hp → Prop) : Prop :=
  ∃ x16 : Int, hld h (x0.add 5) none = some (.int .i64 x16) ∧
  ∃ I : Int → Hp → Prop, ∃ mu : Int → Hp → Nat, I x16 h ∧ (∀ x6 : Int, ∀ h1 : Hp, I x6 h1 →
    ∃ x22 : Sl, hld h1 (x0.add 0) none = some (x22.v) ∧
    ∀ J : Bool → Hp → Prop, (∀ x38 : Bool, ∀ h2 : Hp, (
      (x38 = true →
        ∀ x40 : Int, x40 = IntKind.i64.wrap (x6 + 1) →
        I x40 h2 ∧ mu x40 h2 < mu x6 h1
      ) ∧ (x38 = false →
        ∃ x45 : Sl, hld h2 (x0.add 0) none = some (x45.v) ∧
        ((decide (x6 = (x45.n : Int))) = true →
          R (.bool false) h2
        ) ∧ ((decide (x6 = (x45.n : Int))) = false →
          ∀ J1 : Hp → Prop, (∀ h3 : Hp, (
            ∃ x114 : Sl, hld h3 (x0.add 0) none = some (x114.v) ∧
            0 ≤ x16 ∧ x16 < (x114.n : Int) ∧ x114.a.isSome = true ∧
            ∃ x117 : Sl, hld h3 (elemA x114.a x16 1) none = some (x117.v) ∧
            ∃ x121 : Sl, hld h3 (x0.add 0) none = some (x121.v) ∧
            ∀ x123 : Int, x123 = IntKind.i64.wrap (x16 + 1) →
            0 ≤ x123 ∧ x123 ≤ (x121.n : Int) ∧ (x121.n : Int) ≤ (x121.c : Int) ∧ (x121.c : Int) ≤ (x121.c : Int) ∧
            ∃ I1 : Int → Hp → Prop, ∃ mu1 : Int → Hp → Nat, I1 0 h3 ∧ (∀ x126 : Int, ∀ h4 : Hp, I1 x126 h4 →
              ((decide (x126 < (((x121.n : Int) - x123).toNat : Int))) = true →
                0 ≤ x126 ∧ x126 < (((x121.n : Int) - x123).toNat : Int) ∧ (sliceA x121.a x123 (x121.c : Int) 1).isSome = true ∧
                ∃ x129 : Sl, hld h4 (elemA (sliceA x121.a x123 (x121.c : Int) 1) x126 1) none = some (x129.v) ∧
                0 ≤ x1 ∧ x1 < (x129.n : Int) ∧ x129.a.isSome = true ∧
                ∃ x133 : Z, hld h4 (elemA x129.a x1 2) (some 2) = some (x133.v) ∧
                ∀ x135 : Int, x135 = IntKind.i64.wrap (x1 + 1) →
                ∃ I2 : Int → Hp → Prop, ∃ mu2 : Int → Hp → Nat, I2 x135 h4 ∧ (∀ x11 : Int, ∀ h5 : Hp, I2 x11 h5 →
                  ((decide (x11 < (x129.n : Int))) = true →
                    0 ≤ x1 ∧ x1 < (x117.n : Int) ∧ x117.a.isSome = true ∧
                    0 ≤ x11 ∧ x11 < (x129.n : Int) ∧ x129.a.isSome = true ∧
                    0 ≤ x11 ∧ x11 < (x117.n : Int) ∧ x117.a.isSome = true ∧
                    ∃ x145 : Z, hld h5 (elemA x117.a x1 2) (some 2) = some (x145.v) ∧
                    ∃ x149 : Z, hld h5 (elemA x129.a x11 2) (some 2) = some (x149.v) ∧
                    ∃ x155 : Z, hld h5 (elemA x117.a x11 2) (some 2) = some (x155.v) ∧
                    Tri Try.prog (.func (.func 11) #[] #[]) [x145.v, x149.v] h5 fun r h6 => h5.le h6 ∧ ∃ x150 : Z, r = x150.v ∧
                    Tri Try.prog (.func (.func 11) #[] #[]) [x133.v, x155.v] h6 fun r1 h7 => h6.le h7 ∧ ∃ x156 : Z, r1 = x156.v ∧
                    Tri Try.prog (.func (.func 79) #[] #[]) [x150.v, x156.v] h7 fun r2 h8 => h7.le h8 ∧ ∃ x157 : Z, r2 = x157.v ∧
                    ∃ x165 : Z, hld h8 (x0.add 3) (some 2) = some (x165.v) ∧
                    Tri Try.prog (.func (.func 51) #[] #[]) [x157.v, x165.v] h8 fun r3 h9 => ∃ x166a : Z, ∃ x166b : Int, r3 = .tuple #[x166a.v, .int .i64 x166b] ∧
                    0 ≤ x11 ∧ x11 < (x129.n : Int) ∧ x129.a.isSome = true ∧
                    ∃ h10 : Hp, hst h9 (elemA x129.a x11 2) [.bool x166a.neg, x166a.mag.v] = some h10 ∧
                    ∀ x141 : Int, x141 = IntKind.i64.wrap (x11 + 1) →
                    I2 x141 h10 ∧ mu2 x141 h10 < mu2 x11 h5
                  ) ∧ ((decide (x11 < (x129.n : Int))) = false →
                    0 ≤ x1 ∧ x1 < (x129.n : Int) ∧ x129.a.isSome = true ∧
                    ∃ h11 : Hp, hst h5 (elemA x129.a x1 2) [.bool false, .slice none 0 0] = some h11 ∧
                    ∀ x174 : Int, x174 = IntKind.i64.wrap (x126 + 1) →
                    I1 x174 h11 ∧ mu1 x174 h11 < mu1 x126 h4
                  )
                )
              ) ∧ ((decide (x126 < (((x121.n : Int) - x123).toNat : Int))) = false →
                0 ≤ x1 ∧ x1 < (x117.n : Int) ∧ x117.a.isSome = true ∧
                ∃ x179 : Z, hld h4 (elemA x117.a x1 2) (some 2) = some (x179.v) ∧
                ∃ h12 : Hp, hst h4 (x0.add 3) [.bool x179.neg, x179.mag.v] = some h12 ∧
                ∃ x185 : Int, hld h12 (x0.add 5) none = some (.int .i64 x185) ∧
                ∀ x186 : Int, x186 = IntKind.i64.wrap (x185 + 1) →
                ∃ h13 : Hp, hst h12 (x0.add 5) [.int .i64 x186] = some h13 ∧
                R (.bool true) h13
              )
            )
          ) → J1 h3) →
          ((!decide (x6 = x16)) = true →
            ∃ x54 : Sl, hld h2 (x0.add 0) none = some (x54.v) ∧
            ∃ x59 : Sl, hld h2 (x0.add 0) none = some (x59.v) ∧
            ∃ x64 : Sl, hld h2 (x0.add 0) none = some (x64.v) ∧
            0 ≤ x16 ∧ x16 < (x64.n : Int) ∧ x64.a.isSome = true ∧
            ∃ x67 : Sl, hld h2 (elemA x64.a x16 1) none = some (x67.v) ∧
            ∃ x71 : Sl, hld h2 (x0.add 0) none = some (x71.v) ∧
            0 ≤ x6 ∧ x6 < (x71.n : Int) ∧ x71.a.isSome = true ∧
            ∃ x74 : Sl, hld h2 (elemA x71.a x6 1) none = some (x74.v) ∧
            0 ≤ x6 ∧ x6 < (x54.n : Int) ∧ x54.a.isSome = true ∧
            ∃ h14 : Hp, hst h2 (elemA x54.a x6 1) [x67.v] = some h14 ∧
            0 ≤ x16 ∧ x16 < (x59.n : Int) ∧ x59.a.isSome = true ∧
            ∃ h15 : Hp, hst h14 (elemA x59.a x16 1) [x74.v] = some h15 ∧
            ∃ x80 : Sl, hld h15 (x0.add 1) none = some (x80.v) ∧
            ∃ x85 : Sl, hld h15 (x0.add 1) none = some (x85.v) ∧
            ∃ x90 : Sl, hld h15 (x0.add 1) none = some (x90.v) ∧
            0 ≤ x16 ∧ x16 < (x90.n : Int) ∧ x90.a.isSome = true ∧
            ∃ x93 : Int, hld h15 (elemA x90.a x16 1) none = some (.int .i64 x93) ∧
            ∃ x97 : Sl, hld h15 (x0.add 1) none = some (x97.v) ∧
            0 ≤ x6 ∧ x6 < (x97.n : Int) ∧ x97.a.isSome = true ∧
            ∃ x100 : Int, hld h15 (elemA x97.a x6 1) none = some (.int .i64 x100) ∧
            0 ≤ x6 ∧ x6 < (x80.n : Int) ∧ x80.a.isSome = true ∧
            ∃ h16 : Hp, hst h15 (elemA x80.a x6 1) [.int .i64 x93] = some h16 ∧
            0 ≤ x16 ∧ x16 < (x85.n : Int) ∧ x85.a.isSome = true ∧
            ∃ h17 : Hp, hst h16 (elemA x85.a x16 1) [.int .i64 x100] = some h17 ∧
            ∃ x107 : Bool, hld h17 (x0.add 2) none = some (.bool x107) ∧
            ∃ h18 : Hp, hst h17 (x0.add 2) [.bool (!x107)] = some h18 ∧
            J1 h18
          ) ∧ ((!decide (x6 = x16)) = false →
            J1 h2
          )
        )
      )
    ) → J x38 h2) →
    ((decide (x6 < (x22.n : Int))) = true →
    ∃ x29 : Sl, hld h1 (x0.add 0) none = some (x29.v) ∧
    0 ≤ x6 ∧ x6 < (x29.n : Int) ∧ x29.a.isSome = true ∧
    ∃ x32 : Sl, hld h1 (elemA x29.a x6 1) none = some (x32.v) ∧
    0 ≤ x1 ∧ x1 < (x32.n : Int) ∧ x32.a.isSome = true ∧
    ∃ x35 : Z, hld h1 (elemA x32.a x1 2) (some 2) = some (x35.v) ∧
    Tri Try.prog (.func (.func 8) #[] #[]) [x35.v] h1 fun r4 h19 => ∃ x36 : Int, r4 = .int .i64 x36 ∧
    J (decide (x36 = 0)) h19
    ) ∧ ((decide (x6 < (x22.n : Int))) = false →
    J false h1
    )
  )
set_option maxRecDepth 100000 in
theorem t_bareiss_field_step {x0 : Addr} {x1 : Int} {h : Hp} {R : Value → Hp → Prop} (hv : v_bareiss_field_step x0 x1 h R) : Tri Try.prog (.func (.func 84) #[] #[]) [.pointer (some x0), .int .i64 x1] h R :=
  tri_of_vc mixed Try.func84 (d := d_bareiss_field_step) (RM := [(10, 10), (12, 12)]) (rvs := [.tmp 4]) (args := [.pointer (some x0), .int .i64 x1]) (caps := []) (by kernel_rfl) Try.ntmps84 (V := v_bareiss_field_step x0 x1 h R) (by kernel_rfl) (by simp) hv

/- trellis/bareiss.Pivots -/
def d_bareiss_Pivots : Vd :=
  .seq (.ops [.op 0 ⟨none, some 1, .box 3 (.t 0)⟩ false (.sh (.one .val)), .op 1 ⟨none, some 2, .mov (.nil)⟩ false (.no), .op 2 ⟨none, some 3, .mov (.i .i64 0)⟩ false (.no)] [0, 1, 2, 3, 4, 8]) (.seq (.seq (.ops [.op 0 ⟨none, some 5, .ldb 1 1 (some 3)⟩ false (.no), .op 1 ⟨none, some 6, .call false (.f 7) [.t 5]⟩ false (.sh (.one (.int .i64))), .op 2 ⟨none, some 4, .mov (.t 6)⟩ false (.no)] [0, 1, 2, 3, 4, 8]) (.seq (.ops [.op 0 ⟨none, some 7, .mov (.t 4)⟩ false (.no), .op 1 ⟨none, some 8, .bin .neq (.t 7) (.i .i64 0)⟩ false (.sh (.one .val))] [0, 1, 2, 3, 4, 8]) (.cond (.t 8) (.seq (.ops [.op 0 ⟨none, some 9, .mov (.t 4)⟩ false (.no), .op 1 ⟨none, some 2, .mov (.nil)⟩ false (.no), .op 2 ⟨none, some 3, .mov (.t 9)⟩ false (.no)] [0, 1, 2, 3, 4, 8]) (.ret)) (.skip)))) (.seq (.ops [.op 0 ⟨none, some 10, .ldb 1 1 (some 3)⟩ false (.no), .op 2 ⟨none, some 12, .fab 1 1 1⟩ false (.no), .op 3 ⟨none, some 13, .ldb 12 1 none⟩ false (.no), .op 1 ⟨none, some 11, .call false (.f 64) [.t 10]⟩ false (.sh (.one (.addr))), .op 4 ⟨none, some 14, .call false (.f 65) [.t 11, .t 13]⟩ false (.sh (.one (.slice))), .op 5 ⟨none, some 2, .mov (.t 14)⟩ false (.no), .op 6 ⟨none, some 3, .mov (.i .i64 0)⟩ false (.no)] [0, 1, 2, 3, 4, 8]) (.ret)))
def v_bareiss_Pivots (a : M) (h : Hp) (R : Value → Hp → Prop) : Prop :=
  Tri Try.prog (.func (.func 7) #[] #[]) [a.v] h fun r h1 => ∃ x6 : Int, r = .int .i64 x6 ∧
  ((!decide (x6 = 0)) = true →
    R (.tuple #[.slice none 0 0, .int .i64 x6]) h1
  ) ∧ ((!decide (x6 = 0)) = false →
    Tri Try.prog (.func (.func 64) #[] #[]) [a.v] h1 fun r1 h2 => ∃ x11 : Addr, r1 = .pointer (some x11) ∧
    Tri Try.prog (.func (.func 65) #[] #[]) [.pointer (some x11), .int .i64 a.cols] h2 fun r2 h3 => ∃ x14 : Sl, r2 = x14.v ∧
    R (.tuple #[x14.v, .int .i64 0]) h3
  )
set_option maxRecDepth 100000 in
theorem t_bareiss_Pivots {a : M} {h : Hp} {R : Value → Hp → Prop} (hv : v_bareiss_Pivots a h R) : Tri Try.prog (.func (.func 43) #[] #[]) [a.v] h R :=
  tri_of_vc mixed Try.func43 (d := d_bareiss_Pivots) (RM := [(1, 1), (12, 1)]) (rvs := [.tmp 2, .tmp 3]) (args := [a.v]) (caps := []) (by kernel_rfl) Try.ntmps43 (V := v_bareiss_Pivots a h R) (by kernel_rfl) (by simp) hv

/- trellis/bareiss.RowSet -/
def d_bareiss_RowSet : Vd :=
  .seq (.ops [.op 0 ⟨none, some 1, .box 3 (.t 0)⟩ false (.sh (.one .val)), .op 1 ⟨none, some 2, .mov (.nil)⟩ false (.no), .op 2 ⟨none, some 3, .mov (.i .i64 0)⟩ false (.no)] [0, 1, 2, 3, 4, 5, 12]) (.seq (.ops [.op 0 ⟨none, some 7, .ldb 1 1 (some 3)⟩ false (.no), .op 1 ⟨none, some 8, .call false (.f 85) [.t 7]⟩ false (.sh (.tup [(some [.m], .val), (none, .int .i64)])), .op 2 ⟨none, some 6, .mov (.t 8)⟩ false (.no), .op 3 ⟨none, some 9, .ext (.t 6) 0⟩ false (.no), .op 4 ⟨none, some 10, .ext (.t 6) 1⟩ false (.no), .op 5 ⟨none, some 4, .new [.i .i64 0, .i .i64 0, .nil]⟩ false (.sh (.one .val)), .op 6 ⟨none, none, .stb 4 4 3 (.t 9)⟩ false (.sh (.one .val)), .op 7 ⟨none, some 5, .mov (.t 10)⟩ false (.no)] [0, 1, 2, 3, 4, 5, 12]) (.seq (.seq (.ops [.op 0 ⟨none, some 11, .mov (.t 5)⟩ false (.no), .op 1 ⟨none, some 12, .bin .neq (.t 11) (.i .i64 0)⟩ false (.sh (.one .val))] [0, 1, 2, 3, 4, 5, 12]) (.cond (.t 12) (.seq (.ops [.op 0 ⟨none, some 13, .mov (.t 5)⟩ false (.no), .op 1 ⟨none, some 2, .mov (.nil)⟩ false (.no), .op 2 ⟨none, some 3, .mov (.t 13)⟩ false (.no)] [0, 1, 2, 3, 4, 5, 12]) (.ret)) (.skip))) (.seq (.ops [.op 0 ⟨none, some 14, .ldb 4 4 (some 3)⟩ false (.no), .op 1 ⟨none, some 15, .call false (.f 43) [.t 14]⟩ false (.sh (.tup [(none, .slice), (none, .int .i64)])), .op 2 ⟨none, some 16, .ext (.t 15) 0⟩ false (.no), .op 3 ⟨none, some 17, .ext (.t 15) 1⟩ false (.no), .op 4 ⟨none, some 2, .mov (.t 16)⟩ false (.no), .op 5 ⟨none, some 3, .mov (.t 17)⟩ false (.no)] [0, 1, 2, 3, 4, 5, 12]) (.ret))))
def v_bareiss_RowSet (a : M) (h : Hp) (R : Value → Hp → Prop) : Prop :=
  Tri Try.prog (.func (.func 85) #[] #[]) [a.v] h fun r h1 => ∃ x8a : M, ∃ x8b : Int, r = .tuple #[x8a.v, .int .i64 x8b] ∧
  ((!decide (x8b = 0)) = true →
    R (.tuple #[.slice none 0 0, .int .i64 x8b]) h1
  ) ∧ ((!decide (x8b = 0)) = false →
    Tri Try.prog (.func (.func 43) #[] #[]) [x8a.v] h1 fun r1 h2 => ∃ x15a : Sl, ∃ x15b : Int, r1 = .tuple #[x15a.v, .int .i64 x15b] ∧
    R (.tuple #[x15a.v, .int .i64 x15b]) h2
  )
set_option maxRecDepth 100000 in
theorem t_bareiss_RowSet {a : M} {h : Hp} {R : Value → Hp → Prop} (hv : v_bareiss_RowSet a h R) : Tri Try.prog (.func (.func 66) #[] #[]) [a.v] h R :=
  tri_of_vc mixed Try.func66 (d := d_bareiss_RowSet) (RM := [(1, 1), (4, 4)]) (rvs := [.tmp 2, .tmp 3]) (args := [a.v]) (caps := []) (by kernel_rfl) Try.ntmps66 (V := v_bareiss_RowSet a h R) (by kernel_rfl) (by simp) hv

/- trellis/bareiss.Det -/
def d_bareiss_Det : Vd :=
  .seq (.ops [.op 0 ⟨none, some 1, .box 3 (.t 0)⟩ false (.sh (.one .val)), .op 1 ⟨none, some 2, .new [.b false, .nil]⟩ false (.sh (.one .val)), .op 2 ⟨none, some 3, .mov (.i .i64 0)⟩ false (.no)] [0, 1, 2, 3, 4, 5, 6, 10, 17, 22, 23, 24, 29, 35]) (.seq (.seq (.ops [.op 0 ⟨none, some 7, .ldb 1 1 (some 3)⟩ false (.no), .op 1 ⟨none, some 8, .call false (.f 7) [.t 7]⟩ false (.sh (.one (.int .i64))), .op 2 ⟨none, some 4, .mov (.t 8)⟩ false (.no)] [0, 1, 2, 3, 4, 5, 6, 10, 17, 22, 23, 24, 29, 35]) (.seq (.ops [.op 0 ⟨none, some 9, .mov (.t 4)⟩ false (.no), .op 1 ⟨none, some 10, .bin .neq (.t 9) (.i .i64 0)⟩ false (.sh (.one .val))] [0, 1, 2, 3, 4, 5, 6, 10, 17, 22, 23, 24, 29, 35]) (.cond (.t 10) (.seq (.ops [.op 0 ⟨none, some 11, .bd [.b false, .nil] []⟩ false (.no), .op 1 ⟨none, some 12, .mov (.t 4)⟩ false (.no), .op 2 ⟨none, none, .stb 2 2 2 (.t 11)⟩ false (.sh (.one .val)), .op 3 ⟨none, some 3, .mov (.t 12)⟩ false (.no)] [0, 1, 2, 3, 4, 5, 6, 10, 17, 22, 23, 24, 29, 35]) (.ret)) (.skip)))) (.seq (.seq (.ops [.op 0 ⟨none, some 13, .fab 1 1 0⟩ false (.no), .op 1 ⟨none, some 14, .ldb 13 1 none⟩ false (.no), .op 2 ⟨none, some 15, .fab 1 1 1⟩ false (.no), .op 3 ⟨none, some 16, .ldb 15 1 none⟩ false (.no), .op 4 ⟨none, some 17, .bin .neq (.t 14) (.t 16)⟩ false (.sh (.one .val))] [0, 1, 2, 3, 4, 5, 6, 10, 17, 22, 23, 24, 29, 35]) (.cond (.t 17) (.seq (.ops [.op 0 ⟨none, some 18, .bd [.b false, .nil] []⟩ false (.no), .op 1 ⟨none, none, .stb 2 2 2 (.t 18)⟩ false (.sh (.one .val)), .op 2 ⟨none, some 3, .mov (.i .i64 2)⟩ false (.no)] [0, 1, 2, 3, 4, 5, 6, 10, 17, 22, 23, 24, 29, 35]) (.ret)) (.skip))) (.seq (.ops [.op 0 ⟨none, some 19, .ldb 1 1 (some 3)⟩ false (.no), .op 1 ⟨none, some 20, .call false (.f 64) [.t 19]⟩ false (.sh (.one (.addr))), .op 2 ⟨none, some 5, .mov (.t 20)⟩ false (.no)] [0, 1, 2, 3, 4, 5, 6, 10, 17, 22, 23, 24, 29, 35]) (.seq (.seq (.ops [.op 0 ⟨none, some 21, .fab 1 1 1⟩ false (.no), .op 1 ⟨none, some 22, .ldb 21 1 none⟩ false (.no), .op 2 ⟨none, some 23, .mov (.i .i64 0)⟩ false (.no)] [0, 1, 2, 3, 4, 5, 6, 10, 17, 22, 23, 24, 29, 35]) (.block 0 (.loop ⟨[2, 5, 22], [], [2]⟩ [.t 23 (.int .i64), .x 2 [.z]] (.seq (.ops [.op 0 ⟨none, some 24, .bin .lss (.t 23) (.t 22)⟩ false (.sh (.one .val))] [0, 1, 2, 3, 4, 5, 6, 10, 17, 22, 23, 24, 29, 35]) (.seq (.cond (.t 24) (.skip) (.exit 0)) (.seq (.block 1 (.seq (.ops [.op 0 ⟨none, some 25, .mov (.t 23)⟩ false (.no), .op 1 ⟨none, some 6, .mov (.t 25)⟩ false (.no)] [0, 1, 2, 3, 4, 5, 6, 10, 17, 22, 23, 24, 29, 35]) (.seq (.ops [.op 0 ⟨none, some 26, .mov (.t 5)⟩ false (.no), .op 1 ⟨none, some 27, .mov (.t 6)⟩ false (.no), .op 2 ⟨none, some 28, .call false (.f 84) [.t 26, .t 27]⟩ false (.sh (.one (.bool))), .op 3 ⟨none, some 29, .un .not (.t 28)⟩ false (.no)] [0, 1, 2, 3, 4, 5, 6, 10, 17, 22, 23, 24, 29, 35]) (.cond (.t 29) (.seq (.ops [.op 0 ⟨none, some 30, .bd [.b false, .nil] []⟩ false (.no), .op 1 ⟨none, none, .stb 2 2 2 (.t 30)⟩ false (.sh (.one .val)), .op 2 ⟨none, some 3, .mov (.i .i64 0)⟩ false (.no)] [0, 1, 2, 3, 4, 5, 6, 10, 17, 22, 23, 24, 29, 35]) (.ret)) (.skip))))) (.ops [.op 0 ⟨none, some 31, .bin .add (.t 23) (.i .i64 1)⟩ false (.sh (.one .val)), .op 1 ⟨none, some 23, .mov (.t 31)⟩ false (.no)] [0, 1, 2, 3, 4, 5, 6, 10, 17, 22, 23, 24, 29, 35]))))))) (.seq (.seq (.ops [.op 0 ⟨none, some 32, .mov (.t 5)⟩ false (.no), .op 1 ⟨none, some 33, .nilck (.t 32)⟩ false (.no), .op 2 ⟨none, some 34, .fa 2 (.t 33)⟩ false (.no), .op 3 ⟨none, some 35, .ldh none (.t 34)⟩ false (.sh (.one (.bool)))] [0, 1, 2, 3, 4, 5, 6, 10, 17, 22, 23, 24, 29, 35]) (.cond (.t 35) (.seq (.ops [.op 0 ⟨none, some 36, .mov (.t 5)⟩ false (.no), .op 1 ⟨none, some 37, .nilck (.t 36)⟩ false (.no), .op 2 ⟨none, some 38, .fa 3 (.t 37)⟩ false (.no), .op 3 ⟨none, some 39, .ldh (some 2) (.t 38)⟩ false (.sh (.agg [.z])), .op 4 ⟨none, some 40, .call false (.f 10) [.t 39]⟩ false (.sh (.agg [.z])), .op 5 ⟨none, none, .stb 2 2 2 (.t 40)⟩ false (.sh (.one .val)), .op 6 ⟨none, some 3, .mov (.i .i64 0)⟩ false (.no)] [0, 1, 2, 3, 4, 5, 6, 10, 17, 22, 23, 24, 29, 35]) (.ret)) (.skip))) (.seq (.ops [.op 0 ⟨none, some 41, .mov (.t 5)⟩ false (.no), .op 1 ⟨none, some 42, .nilck (.t 41)⟩ false (.no), .op 2 ⟨none, some 43, .fa 3 (.t 42)⟩ false (.no), .op 3 ⟨none, some 44, .ldh (some 2) (.t 43)⟩ false (.sh (.agg [.z])), .op 4 ⟨none, some 45, .call false (.f 33) [.t 44]⟩ false (.sh (.agg [.z])), .op 5 ⟨none, none, .stb 2 2 2 (.t 45)⟩ false (.sh (.one .val)), .op 6 ⟨none, some 3, .mov (.i .i64 0)⟩ false (.no)] [0, 1, 2, 3, 4, 5, 6, 10, 17, 22, 23, 24, 29, 35]) (.ret)))))))
def v_bareiss_Det (a : M) (h : Hp) (R : Value → Hp → Prop) : Prop :=
  Tri Try.prog (.func (.func 7) #[] #[]) [a.v] h fun r h1 => ∃ x8 : Int, r = .int .i64 x8 ∧
  ((!decide (x8 = 0)) = true →
    R (.tuple #[.agg #[.bool false, .slice none 0 0], .int .i64 x8]) h1
  ) ∧ ((!decide (x8 = 0)) = false →
    ((!decide (a.rows = a.cols)) = true →
      R (.tuple #[.agg #[.bool false, .slice none 0 0], .int .i64 2]) h1
    ) ∧ ((!decide (a.rows = a.cols)) = false →
      Tri Try.prog (.func (.func 64) #[] #[]) [a.v] h1 fun r1 h2 => ∃ x20 : Addr, r1 = .pointer (some x20) ∧
      ∃ I : Int → Z → Hp → Prop, ∃ mu : Int → Z → Hp → Nat, I 0 ⟨false, ⟨none, 0, 0⟩⟩ h2 ∧ (∀ x23 : Int, ∀ x2 : Z, ∀ h3 : Hp, I x23 x2 h3 →
        ((decide (x23 < a.cols)) = true →
          Tri Try.prog (.func (.func 84) #[] #[]) [.pointer (some x20), .int .i64 x23] h3 fun r2 h4 => ∃ x28 : Bool, r2 = .bool x28 ∧
          ((!x28) = true →
            R (.tuple #[.agg #[.bool false, .slice none 0 0], .int .i64 0]) h4
          ) ∧ ((!x28) = false →
            ∀ x31 : Int, x31 = IntKind.i64.wrap (x23 + 1) →
            I x31 x2 h4 ∧ mu x31 x2 h4 < mu x23 x2 h3
          )
        ) ∧ ((decide (x23 < a.cols)) = false →
          ∃ x35 : Bool, hld h3 (x20.add 2) none = some (.bool x35) ∧
          (x35 = true →
            ∃ x39 : Z, hld h3 (x20.add 3) (some 2) = some (x39.v) ∧
            Tri Try.prog (.func (.func 10) #[] #[]) [x39.v] h3 fun r3 h5 => ∃ x40 : Z, r3 = x40.v ∧
            R (.tuple #[x40.v, .int .i64 0]) h5
          ) ∧ (x35 = false →
            ∃ x44 : Z, hld h3 (x20.add 3) (some 2) = some (x44.v) ∧
            Tri Try.prog (.func (.func 33) #[] #[]) [x44.v] h3 fun r4 h6 => ∃ x45 : Z, r4 = x45.v ∧
            R (.tuple #[x45.v, .int .i64 0]) h6
          )
        )
      )
    )
  )
set_option maxRecDepth 100000 in
theorem t_bareiss_Det {a : M} {h : Hp} {R : Value → Hp → Prop} (hv : v_bareiss_Det a h R) : Tri Try.prog (.func (.func 67) #[] #[]) [a.v] h R :=
  tri_of_vc mixed Try.func67 (d := d_bareiss_Det) (RM := [(1, 1), (2, 2), (13, 1), (15, 1), (21, 1)]) (rvs := [.cell 2 (some 2), .tmp 3]) (args := [a.v]) (caps := []) (by kernel_rfl) Try.ntmps67 (V := v_bareiss_Det a h R) (by kernel_rfl) (by simp) hv

/- trellis/bareiss.Core -/
def d_bareiss_Core : Vd :=
  .seq (.ops [.op 0 ⟨none, some 1, .box 3 (.t 0)⟩ false (.sh (.one .val)), .op 1 ⟨none, some 2, .mov (.nil)⟩ false (.no), .op 2 ⟨none, some 3, .mov (.nil)⟩ false (.no), .op 3 ⟨none, some 4, .new [.b false, .nil]⟩ false (.sh (.one .val)), .op 4 ⟨none, some 5, .mov (.i .i64 0)⟩ false (.no)] [0, 1, 2, 3, 4, 5, 6, 14]) (.seq (.ops [.op 0 ⟨none, some 9, .ldb 1 1 (some 3)⟩ false (.no), .op 1 ⟨none, some 10, .call false (.f 66) [.t 9]⟩ false (.sh (.tup [(none, .slice), (none, .int .i64)])), .op 2 ⟨none, some 8, .mov (.t 10)⟩ false (.no), .op 3 ⟨none, some 11, .ext (.t 8) 0⟩ false (.no), .op 4 ⟨none, some 12, .ext (.t 8) 1⟩ false (.no), .op 5 ⟨none, some 2, .mov (.t 11)⟩ false (.no), .op 6 ⟨none, some 5, .mov (.t 12)⟩ false (.no)] [0, 1, 2, 3, 4, 5, 6, 14]) (.seq (.seq (.ops [.op 0 ⟨none, some 13, .mov (.t 5)⟩ false (.no), .op 1 ⟨none, some 14, .bin .neq (.t 13) (.i .i64 0)⟩ false (.sh (.one .val))] [0, 1, 2, 3, 4, 5, 6, 14]) (.cond (.t 14) (.seq (.ops [.op 0 ⟨none, some 15, .bd [.b false, .nil] []⟩ false (.no), .op 1 ⟨none, some 16, .mov (.t 5)⟩ false (.no), .op 2 ⟨none, some 2, .mov (.nil)⟩ false (.no), .op 3 ⟨none, some 3, .mov (.nil)⟩ false (.no), .op 4 ⟨none, none, .stb 4 4 2 (.t 15)⟩ false (.sh (.one .val)), .op 5 ⟨none, some 5, .mov (.t 16)⟩ false (.no)] [0, 1, 2, 3, 4, 5, 6, 14]) (.ret)) (.skip))) (.seq (.ops [.op 0 ⟨none, some 18, .ldb 1 1 (some 3)⟩ false (.no), .op 1 ⟨none, some 19, .call false (.f 43) [.t 18]⟩ false (.sh (.tup [(none, .slice), (none, .int .i64)])), .op 2 ⟨none, some 17, .mov (.t 19)⟩ false (.no), .op 3 ⟨none, some 20, .ext (.t 17) 0⟩ false (.no), .op 4 ⟨none, some 21, .ext (.t 17) 1⟩ false (.no), .op 5 ⟨none, some 3, .mov (.t 20)⟩ false (.no)] [0, 1, 2, 3, 4, 5, 6, 14]) (.seq (.ops [.op 0 ⟨none, some 23, .ldb 1 1 (some 3)⟩ false (.no), .op 1 ⟨none, some 24, .mov (.t 2)⟩ false (.no), .op 2 ⟨none, some 25, .mov (.t 3)⟩ false (.no), .op 3 ⟨none, some 26, .call false (.f 46) [.t 23, .t 24, .t 25]⟩ false (.sh (.tup [(some [.m], .val), (none, .int .i64)])), .op 4 ⟨none, some 22, .mov (.t 26)⟩ false (.no), .op 5 ⟨none, some 27, .ext (.t 22) 0⟩ false (.no), .op 6 ⟨none, some 28, .ext (.t 22) 1⟩ false (.no), .op 7 ⟨none, some 6, .new [.i .i64 0, .i .i64 0, .nil]⟩ false (.sh (.one .val)), .op 8 ⟨none, none, .stb 6 6 3 (.t 27)⟩ false (.sh (.one .val)), .op 9 ⟨none, some 7, .mov (.t 28)⟩ false (.no)] [0, 1, 2, 3, 4, 5, 6, 14]) (.seq (.ops [.op 0 ⟨none, some 30, .ldb 6 6 (some 3)⟩ false (.no), .op 1 ⟨none, some 31, .call false (.f 67) [.t 30]⟩ false (.sh (.tup [(some [.z], .val), (none, .int .i64)])), .op 2 ⟨none, some 29, .mov (.t 31)⟩ false (.no), .op 3 ⟨none, some 32, .ext (.t 29) 0⟩ false (.no), .op 4 ⟨none, some 33, .ext (.t 29) 1⟩ false (.no), .op 5 ⟨none, none, .stb 4 4 2 (.t 32)⟩ false (.sh (.one .val)), .op 6 ⟨none, some 5, .mov (.t 33)⟩ false (.no)] [0, 1, 2, 3, 4, 5, 6, 14]) (.seq (.ops [.op 0 ⟨none, some 34, .mov (.t 2)⟩ false (.no), .op 1 ⟨none, some 35, .mov (.t 3)⟩ false (.no), .op 2 ⟨none, some 36, .ldb 4 4 (some 2)⟩ false (.no), .op 3 ⟨none, some 37, .mov (.t 5)⟩ false (.no), .op 4 ⟨none, some 2, .mov (.t 34)⟩ false (.no), .op 5 ⟨none, some 3, .mov (.t 35)⟩ false (.no), .op 6 ⟨none, none, .stb 4 4 2 (.t 36)⟩ false (.sh (.one .val)), .op 7 ⟨none, some 5, .mov (.t 37)⟩ false (.no)] [0, 1, 2, 3, 4, 5, 6, 14]) (.ret)))))))
def v_bareiss_Core (a : M) (h : Hp) (R : Value → Hp → Prop) : Prop :=
  Tri Try.prog (.func (.func 66) #[] #[]) [a.v] h fun r h1 => ∃ x10a : Sl, ∃ x10b : Int, r = .tuple #[x10a.v, .int .i64 x10b] ∧
  ((!decide (x10b = 0)) = true →
    R (.tuple #[.slice none 0 0, .slice none 0 0, .agg #[.bool false, .slice none 0 0], .int .i64 x10b]) h1
  ) ∧ ((!decide (x10b = 0)) = false →
    Tri Try.prog (.func (.func 43) #[] #[]) [a.v] h1 fun r1 h2 => ∃ x19a : Sl, ∃ x19b : Int, r1 = .tuple #[x19a.v, .int .i64 x19b] ∧
    Tri Try.prog (.func (.func 46) #[] #[]) [a.v, x10a.v, x19a.v] h2 fun r2 h3 => ∃ x26a : M, ∃ x26b : Int, r2 = .tuple #[x26a.v, .int .i64 x26b] ∧
    Tri Try.prog (.func (.func 67) #[] #[]) [x26a.v] h3 fun r3 h4 => ∃ x31a : Z, ∃ x31b : Int, r3 = .tuple #[x31a.v, .int .i64 x31b] ∧
    R (.tuple #[x10a.v, x19a.v, x31a.v, .int .i64 x31b]) h4
  )
set_option maxRecDepth 100000 in
theorem t_bareiss_Core {a : M} {h : Hp} {R : Value → Hp → Prop} (hv : v_bareiss_Core a h R) : Tri Try.prog (.func (.func 45) #[] #[]) [a.v] h R :=
  tri_of_vc mixed Try.func45 (d := d_bareiss_Core) (RM := [(1, 1), (4, 4), (6, 6)]) (rvs := [.tmp 2, .tmp 3, .cell 4 (some 2), .tmp 5]) (args := [a.v]) (caps := []) (by kernel_rfl) Try.ntmps45 (V := v_bareiss_Core a h R) (by kernel_rfl) (by simp) hv

/- trellis/mat.Turn -/
def d_mat_Turn : Vd :=
  .seq (.ops [.op 0 ⟨none, some 1, .boxp 3 (.t 0)⟩ false (.sh (.one .val)), .op 1 ⟨none, some 2, .new [.i .i64 0, .i .i64 0, .nil]⟩ false (.sh (.one .val)), .op 2 ⟨none, some 3, .mov (.i .i64 0)⟩ false (.no)] [0, 1, 2, 3, 4, 8]) (.seq (.seq (.ops [.op 0 ⟨none, some 5, .ldh (some 3) (.t 1)⟩ false (.sh (.agg [.m])), .op 1 ⟨none, some 6, .call false (.f 7) [.t 5]⟩ false (.sh (.one (.int .i64))), .op 2 ⟨none, some 4, .mov (.t 6)⟩ false (.no)] [0, 1, 2, 3, 4, 8]) (.seq (.ops [.op 0 ⟨none, some 7, .mov (.t 4)⟩ false (.no), .op 1 ⟨none, some 8, .bin .neq (.t 7) (.i .i64 0)⟩ false (.sh (.one .val))] [0, 1, 2, 3, 4, 8]) (.cond (.t 8) (.seq (.ops [.op 0 ⟨none, some 9, .bd [.i .i64 0, .i .i64 0, .nil] []⟩ false (.no), .op 1 ⟨none, some 10, .mov (.t 4)⟩ false (.no), .op 2 ⟨none, none, .stb 2 2 3 (.t 9)⟩ false (.sh (.one .val)), .op 3 ⟨none, some 3, .mov (.t 10)⟩ false (.no)] [0, 1, 2, 3, 4, 8]) (.ret)) (.skip)))) (.seq (.ops [.op 0 ⟨none, some 11, .fa 1 (.t 1)⟩ false (.no), .op 1 ⟨none, some 12, .ldh none (.t 11)⟩ false (.sh (.one (.int .i64))), .op 2 ⟨none, some 13, .fa 0 (.t 1)⟩ false (.no), .op 3 ⟨none, some 14, .ldh none (.t 13)⟩ false (.sh (.one (.int .i64))), .op 4 ⟨none, some 15, .mkf 95 [.t 1]⟩ false (.no), .op 5 ⟨none, some 16, .call false (.f 38) [.t 12, .t 14, .t 15]⟩ false (.sh (.agg [.m])), .op 6 ⟨none, none, .stb 2 2 3 (.t 16)⟩ false (.sh (.one .val)), .op 7 ⟨none, some 3, .mov (.i .i64 0)⟩ false (.no)] [0, 1, 2, 3, 4, 8]) (.ret)))
def v_mat_Turn (a : M) (h : Hp) (R : Value → Hp → Prop) : Prop :=
  ∀ b : Nat, ∀ h1 : Hp, h b = none → h1 = h.up b ⟨[.int .i64 a.rows, .int .i64 a.cols, a.el.v], true⟩ →
  ∃ x5 : M, hld h1 (blkA b) (some 3) = some (x5.v) ∧
  Tri Try.prog (.func (.func 7) #[] #[]) [x5.v] h1 fun r h2 => ∃ x6 : Int, r = .int .i64 x6 ∧
  ((!decide (x6 = 0)) = true →
    R (.tuple #[.agg #[.int .i64 0, .int .i64 0, .slice none 0 0], .int .i64 x6]) h2
  ) ∧ ((!decide (x6 = 0)) = false →
    ∃ x12 : Int, hld h2 ((blkA b).add 1) none = some (.int .i64 x12) ∧
    ∃ x14 : Int, hld h2 ((blkA b).add 0) none = some (.int .i64 x14) ∧
    Tri Try.prog (.func (.func 38) #[] #[]) [.int .i64 x12, .int .i64 x14, .func (.func 95) #[] #[.pointer (some (blkA b))]] h2 fun r1 h3 => ∃ x16 : M, r1 = x16.v ∧
    R (.tuple #[x16.v, .int .i64 0]) h3
  )
set_option maxRecDepth 100000 in
theorem t_mat_Turn {a : M} {h : Hp} {R : Value → Hp → Prop} (hv : v_mat_Turn a h R) : Tri Try.prog (.func (.func 85) #[] #[]) [a.v] h R :=
  tri_of_vc mixed Try.func85 (d := d_mat_Turn) (RM := [(2, 2)]) (rvs := [.cell 2 (some 3), .tmp 3]) (args := [a.v]) (caps := []) (by kernel_rfl) Try.ntmps85 (V := v_mat_Turn a h R) (by kernel_rfl) (by simp) hv

/- trellis/mat.Turn$1 -/
def d_mat_Turn_1 : Vd :=
  .seq (.ops [.op 0 ⟨none, some 5, .new [.b false, .nil]⟩ false (.sh (.one .val))] [0, 1, 2, 5]) (.seq (.ops [.op 0 ⟨none, some 6, .fa 2 (.t 2)⟩ false (.no), .op 1 ⟨none, some 7, .ldh none (.t 6)⟩ false (.sh (.one (.slice))), .op 2 ⟨none, some 8, .mov (.t 1)⟩ false (.no), .op 3 ⟨none, some 9, .fa 1 (.t 2)⟩ false (.no), .op 4 ⟨none, some 10, .ldh none (.t 9)⟩ false (.sh (.one (.int .i64))), .op 5 ⟨none, some 11, .bin .mul (.t 8) (.t 10)⟩ false (.sh (.one .val)), .op 6 ⟨none, some 12, .mov (.t 0)⟩ false (.no), .op 7 ⟨none, some 13, .bin .add (.t 11) (.t 12)⟩ false (.sh (.one .val)), .op 8 ⟨none, some 14, .ia 2 (.t 7) (.t 13)⟩ false (.no), .op 9 ⟨none, some 15, .ldh (some 2) (.t 14)⟩ false (.sh (.agg [.z])), .op 10 ⟨none, some 16, .call false (.f 33) [.t 15]⟩ false (.sh (.agg [.z])), .op 11 ⟨none, none, .stb 5 5 2 (.t 16)⟩ false (.sh (.one .val))] [0, 1, 2, 5]) (.ret))
def v_mat_Turn_1 (i : Int) (j : Int) (x2 : Addr) (h : Hp) (R : Value → Hp → Prop) : Prop :=
  ∃ x7 : Sl, hld h (x2.add 2) none = some (x7.v) ∧
  ∃ x10 : Int, hld h (x2.add 1) none = some (.int .i64 x10) ∧
  ∀ x11 : Int, x11 = IntKind.i64.wrap (j * x10) →
  ∀ x13 : Int, x13 = IntKind.i64.wrap (x11 + i) →
  0 ≤ x13 ∧ x13 < (x7.n : Int) ∧ x7.a.isSome = true ∧
  ∃ x15 : Z, hld h (elemA x7.a x13 2) (some 2) = some (x15.v) ∧
  Tri Try.prog (.func (.func 33) #[] #[]) [x15.v] h fun r h1 => ∃ x16 : Z, r = x16.v ∧
  R (x16.v) h1
set_option maxRecDepth 100000 in
theorem t_mat_Turn_1 {i : Int} {j : Int} {x2 : Addr} {h : Hp} {R : Value → Hp → Prop} (hv : v_mat_Turn_1 i j x2 h R) : Tri Try.prog (.func (.func 95) #[] #[.pointer (some x2)]) [.int .i64 i, .int .i64 j] h R :=
  tri_of_vc mixed Try.func95 (d := d_mat_Turn_1) (RM := [(5, 5)]) (rvs := [.cell 5 (some 2)]) (args := [.int .i64 i, .int .i64 j]) (caps := [.pointer (some x2)]) (by kernel_rfl) Try.ntmps95 (V := v_mat_Turn_1 i j x2 h R) (by kernel_rfl) (by simp) hv

/- trellis/mat.Pick -/
def d_mat_Pick : Vd :=
  .seq (.ops [.op 0 ⟨none, some 3, .boxp 3 (.t 0)⟩ false (.sh (.one .val)), .op 1 ⟨none, some 4, .boxp 1 (.t 1)⟩ false (.sh (.one .val)), .op 2 ⟨none, some 5, .boxp 1 (.t 2)⟩ false (.sh (.one .val)), .op 3 ⟨none, some 6, .new [.i .i64 0, .i .i64 0, .nil]⟩ false (.sh (.one .val)), .op 4 ⟨none, some 7, .mov (.i .i64 0)⟩ false (.no)] [0, 1, 2, 3, 4, 5, 6, 7, 8, 10, 12, 16, 19, 20, 21, 22, 32, 35, 36, 37, 38, 48, 58]) (.seq (.seq (.ops [.op 0 ⟨none, some 13, .ldh (some 3) (.t 3)⟩ false (.sh (.agg [.m])), .op 1 ⟨none, some 14, .call false (.f 7) [.t 13]⟩ false (.sh (.one (.int .i64))), .op 2 ⟨none, some 8, .mov (.t 14)⟩ false (.no)] [0, 1, 2, 3, 4, 5, 6, 7, 8, 10, 12, 16, 19, 20, 21, 22, 32, 35, 36, 37, 38, 48, 58]) (.seq (.ops [.op 0 ⟨none, some 15, .mov (.t 8)⟩ false (.no), .op 1 ⟨none, some 16, .bin .neq (.t 15) (.i .i64 0)⟩ false (.sh (.one .val))] [0, 1, 2, 3, 4, 5, 6, 7, 8, 10, 12, 16, 19, 20, 21, 22, 32, 35, 36, 37, 38, 48, 58]) (.cond (.t 16) (.seq (.ops [.op 0 ⟨none, some 17, .bd [.i .i64 0, .i .i64 0, .nil] []⟩ false (.no), .op 1 ⟨none, some 18, .mov (.t 8)⟩ false (.no), .op 2 ⟨none, none, .stb 6 6 3 (.t 17)⟩ false (.sh (.one .val)), .op 3 ⟨none, some 7, .mov (.t 18)⟩ false (.no)] [0, 1, 2, 3, 4, 5, 6, 7, 8, 10, 12, 16, 19, 20, 21, 22, 32, 35, 36, 37, 38, 48, 58]) (.ret)) (.skip)))) (.seq (.seq (.ops [.op 0 ⟨none, some 19, .ldh none (.t 4)⟩ false (.sh (.one (.slice))), .op 1 ⟨none, some 20, .len (.t 19)⟩ false (.no), .op 2 ⟨none, some 21, .mov (.i .i64 0)⟩ false (.no)] [0, 1, 2, 3, 4, 5, 6, 7, 8, 10, 12, 16, 19, 20, 21, 22, 32, 35, 36, 37, 38, 48, 58]) (.block 0 (.loop ⟨[3, 4, 5, 6, 19, 20], [], [6]⟩ [.t 21 (.int .i64), .x 6 [.m]] (.seq (.ops [.op 0 ⟨none, some 22, .bin .lss (.t 21) (.t 20)⟩ false (.sh (.one .val))] [0, 1, 2, 3, 4, 5, 6, 7, 8, 10, 12, 16, 19, 20, 21, 22, 32, 35, 36, 37, 38, 48, 58]) (.seq (.cond (.t 22) (.skip) (.exit 0)) (.seq (.block 1 (.seq (.ops [.op 0 ⟨none, some 23, .ia 1 (.t 19) (.t 21)⟩ false (.no), .op 1 ⟨none, some 24, .ldh none (.t 23)⟩ false (.sh (.one (.int .i64))), .op 2 ⟨none, some 10, .mov (.t 24)⟩ false (.no)] [0, 1, 2, 3, 4, 5, 6, 7, 8, 10, 12, 16, 19, 20, 21, 22, 32, 35, 36, 37, 38, 48, 58]) (.seq (.ops [.op 0 ⟨none, some 25, .mov (.t 10)⟩ false (.no), .op 1 ⟨none, some 26, .bin .lss (.t 25) (.i .i64 0)⟩ false (.sh (.one .val)), .op 2 ⟨none, some 27, .mov (.t 26)⟩ false (.no), .grp ⟨[3, 4, 5, 6, 19, 20, 21], [6], [6]⟩ [.t 32 (.bool)] [(3, ⟨some (27, false), some 28, .mov (.t 10)⟩, true, .no), (4, ⟨some (27, false), some 29, .fa 0 (.t 3)⟩, false, .no), (5, ⟨some (27, false), some 30, .ldh none (.t 29)⟩, false, .sh (.one (.int .i64))), (6, ⟨some (27, false), some 31, .bin .geq (.t 28) (.t 30)⟩, false, .sh (.one .val)), (7, ⟨none, some 32, .pick (.t 27) (.b true) (.t 31)⟩, false, .no)]] [0, 1, 2, 3, 4, 5, 6, 7, 8, 10, 12, 16, 19, 20, 21, 22, 32, 35, 36, 37, 38, 48, 58]) (.cond (.t 32) (.seq (.ops [.op 0 ⟨none, some 33, .bd [.i .i64 0, .i .i64 0, .nil] []⟩ false (.no), .op 1 ⟨none, none, .stb 6 6 3 (.t 33)⟩ false (.sh (.one .val)), .op 2 ⟨none, some 7, .mov (.i .i64 3)⟩ false (.no)] [0, 1, 2, 3, 4, 5, 6, 7, 8, 10, 12, 16, 19, 20, 21, 22, 32, 35, 36, 37, 38, 48, 58]) (.ret)) (.skip))))) (.ops [.op 0 ⟨none, some 34, .bin .add (.t 21) (.i .i64 1)⟩ false (.sh (.one .val)), .op 1 ⟨none, some 21, .mov (.t 34)⟩ false (.no)] [0, 1, 2, 3, 4, 5, 6, 7, 8, 10, 12, 16, 19, 20, 21, 22, 32, 35, 36, 37, 38, 48, 58]))))))) (.seq (.seq (.ops [.op 0 ⟨none, some 35, .ldh none (.t 5)⟩ false (.sh (.one (.slice))), .op 1 ⟨none, some 36, .len (.t 35)⟩ false (.no), .op 2 ⟨none, some 37, .mov (.i .i64 0)⟩ false (.no)] [0, 1, 2, 3, 4, 5, 6, 7, 8, 10, 12, 16, 19, 20, 21, 22, 32, 35, 36, 37, 38, 48, 58]) (.block 2 (.loop ⟨[3, 4, 5, 6, 35, 36], [], [6]⟩ [.t 37 (.int .i64), .x 6 [.m]] (.seq (.ops [.op 0 ⟨none, some 38, .bin .lss (.t 37) (.t 36)⟩ false (.sh (.one .val))] [0, 1, 2, 3, 4, 5, 6, 7, 8, 10, 12, 16, 19, 20, 21, 22, 32, 35, 36, 37, 38, 48, 58]) (.seq (.cond (.t 38) (.skip) (.exit 2)) (.seq (.block 3 (.seq (.ops [.op 0 ⟨none, some 39, .ia 1 (.t 35) (.t 37)⟩ false (.no), .op 1 ⟨none, some 40, .ldh none (.t 39)⟩ false (.sh (.one (.int .i64))), .op 2 ⟨none, some 12, .mov (.t 40)⟩ false (.no)] [0, 1, 2, 3, 4, 5, 6, 7, 8, 10, 12, 16, 19, 20, 21, 22, 32, 35, 36, 37, 38, 48, 58]) (.seq (.ops [.op 0 ⟨none, some 41, .mov (.t 12)⟩ false (.no), .op 1 ⟨none, some 42, .bin .lss (.t 41) (.i .i64 0)⟩ false (.sh (.one .val)), .op 2 ⟨none, some 43, .mov (.t 42)⟩ false (.no), .grp ⟨[3, 4, 5, 6, 35, 36, 37], [6], [6]⟩ [.t 48 (.bool)] [(3, ⟨some (43, false), some 44, .mov (.t 12)⟩, true, .no), (4, ⟨some (43, false), some 45, .fa 1 (.t 3)⟩, false, .no), (5, ⟨some (43, false), some 46, .ldh none (.t 45)⟩, false, .sh (.one (.int .i64))), (6, ⟨some (43, false), some 47, .bin .geq (.t 44) (.t 46)⟩, false, .sh (.one .val)), (7, ⟨none, some 48, .pick (.t 43) (.b true) (.t 47)⟩, false, .no)]] [0, 1, 2, 3, 4, 5, 6, 7, 8, 10, 12, 16, 19, 20, 21, 22, 32, 35, 36, 37, 38, 48, 58]) (.cond (.t 48) (.seq (.ops [.op 0 ⟨none, some 49, .bd [.i .i64 0, .i .i64 0, .nil] []⟩ false (.no), .op 1 ⟨none, none, .stb 6 6 3 (.t 49)⟩ false (.sh (.one .val)), .op 2 ⟨none, some 7, .mov (.i .i64 3)⟩ false (.no)] [0, 1, 2, 3, 4, 5, 6, 7, 8, 10, 12, 16, 19, 20, 21, 22, 32, 35, 36, 37, 38, 48, 58]) (.ret)) (.skip))))) (.ops [.op 0 ⟨none, some 50, .bin .add (.t 37) (.i .i64 1)⟩ false (.sh (.one .val)), .op 1 ⟨none, some 37, .mov (.t 50)⟩ false (.no)] [0, 1, 2, 3, 4, 5, 6, 7, 8, 10, 12, 16, 19, 20, 21, 22, 32, 35, 36, 37, 38, 48, 58]))))))) (.seq (.seq (.ops [.op 0 ⟨none, some 51, .ldh none (.t 4)⟩ false (.sh (.one (.slice))), .op 1 ⟨none, some 52, .len (.t 51)⟩ false (.no), .op 2 ⟨none, some 53, .bin .gtr (.t 52) (.i .i64 64)⟩ false (.sh (.one .val)), .op 3 ⟨none, some 54, .mov (.t 53)⟩ false (.no), .grp ⟨[3, 4, 5, 6], [6], [6]⟩ [.t 58 (.bool)] [(4, ⟨some (54, false), some 55, .ldh none (.t 5)⟩, true, .sh (.one (.slice))), (5, ⟨some (54, false), some 56, .len (.t 55)⟩, false, .no), (6, ⟨some (54, false), some 57, .bin .gtr (.t 56) (.i .i64 64)⟩, false, .sh (.one .val)), (7, ⟨none, some 58, .pick (.t 54) (.b true) (.t 57)⟩, false, .no)]] [0, 1, 2, 3, 4, 5, 6, 7, 8, 10, 12, 16, 19, 20, 21, 22, 32, 35, 36, 37, 38, 48, 58]) (.cond (.t 58) (.seq (.ops [.op 0 ⟨none, some 59, .bd [.i .i64 0, .i .i64 0, .nil] []⟩ false (.no), .op 1 ⟨none, none, .stb 6 6 3 (.t 59)⟩ false (.sh (.one .val)), .op 2 ⟨none, some 7, .mov (.i .i64 5)⟩ false (.no)] [0, 1, 2, 3, 4, 5, 6, 7, 8, 10, 12, 16, 19, 20, 21, 22, 32, 35, 36, 37, 38, 48, 58]) (.ret)) (.skip))) (.seq (.ops [.op 0 ⟨none, some 60, .ldh none (.t 4)⟩ false (.sh (.one (.slice))), .op 1 ⟨none, some 61, .len (.t 60)⟩ false (.no), .op 2 ⟨none, some 62, .ldh none (.t 5)⟩ false (.sh (.one (.slice))), .op 3 ⟨none, some 63, .len (.t 62)⟩ false (.no), .op 4 ⟨none, some 64, .mkf 68 [.t 3, .t 4, .t 5]⟩ false (.no), .op 5 ⟨none, some 65, .call false (.f 38) [.t 61, .t 63, .t 64]⟩ false (.sh (.agg [.m])), .op 6 ⟨none, none, .stb 6 6 3 (.t 65)⟩ false (.sh (.one .val)), .op 7 ⟨none, some 7, .mov (.i .i64 0)⟩ false (.no)] [0, 1, 2, 3, 4, 5, 6, 7, 8, 10, 12, 16, 19, 20, 21, 22, 32, 35, 36, 37, 38, 48, 58]) (.ret))))))
def v_mat_Pick (x0 : M) (x1 : Sl) (x2 : Sl) (h : Hp) (R : Value → Hp → Prop) : Prop :=
  ∀ b : Nat, ∀ h1 : Hp, h b = none → h1 = h.up b ⟨[.int .i64 x0.rows, .int .i64 x0.cols, x0.el.v], true⟩ →
  ∀ b1 : Nat, ∀ h2 : Hp, h1 b1 = none → h2 = h1.up b1 ⟨[x1.v], true⟩ →
  ∀ b2 : Nat, ∀ h3 : Hp, h2 b2 = none → h3 = h2.up b2 ⟨[x2.v], true⟩ →
  ∃ x13 : M, hld h3 (blkA b) (some 3) = some (x13.v) ∧
  Tri Try.prog (.func (.func 7) #[] #[]) [x13.v] h3 fun r h4 => ∃ x14 : Int, r = .int .i64 x14 ∧
  ((!decide (x14 = 0)) = true →
    R (.tuple #[.agg #[.int .i64 0, .int .i64 0, .slice none 0 0], .int .i64 x14]) h4
  ) ∧ ((!decide (x14 = 0)) = false →
    ∃ x19 : Sl, hld h4 (blkA b1) none = some (x19.v) ∧
    ∃ I : Int → M → Hp → Prop, ∃ mu : Int → M → Hp → Nat, I 0 ⟨0, 0, ⟨none, 0, 0⟩⟩ h4 ∧ (∀ x21 : Int, ∀ x6 : M, ∀ h5 : Hp, I x21 x6 h5 →
      ((decide (x21 < (x19.n : Int))) = true →
        0 ≤ x21 ∧ x21 < (x19.n : Int) ∧ x19.a.isSome = true ∧
        ∃ x24 : Int, hld h5 (elemA x19.a x21 1) none = some (.int .i64 x24) ∧
        ∀ J : Bool → Hp → Prop, (∀ x32 : Bool, ∀ h6 : Hp, (
          (x32 = true →
            R (.tuple #[.agg #[.int .i64 0, .int .i64 0, .slice none 0 0], .int .i64 3]) h6
          ) ∧ (x32 = false →
            ∀ x34 : Int, x34 = IntKind.i64.wrap (x21 + 1) →
            I x34 x6 h6 ∧ mu x34 x6 h6 < mu x21 x6 h5
          )
        ) → J x32 h6) →
        ((decide (x24 < 0)) = true →
        J true h5
        ) ∧ ((decide (x24 < 0)) = false →
        ∃ x30 : Int, hld h5 ((blkA b).add 0) none = some (.int .i64 x30) ∧
        J (decide (x30 ≤ x24)) h5
        )
      ) ∧ ((decide (x21 < (x19.n : Int))) = false →
        ∃ x35 : Sl, hld h5 (blkA b2) none = some (x35.v) ∧
        ∃ I1 : Int → M → Hp → Prop, ∃ mu1 : Int → M → Hp → Nat, I1 0 x6 h5 ∧ (∀ x37 : Int, ∀ x61 : M, ∀ h7 : Hp, I1 x37 x61 h7 →
          ((decide (x37 < (x35.n : Int))) = true →
            0 ≤ x37 ∧ x37 < (x35.n : Int) ∧ x35.a.isSome = true ∧
            ∃ x40 : Int, hld h7 (elemA x35.a x37 1) none = some (.int .i64 x40) ∧
            ∀ J1 : Bool → Hp → Prop, (∀ x48 : Bool, ∀ h8 : Hp, (
              (x48 = true →
                R (.tuple #[.agg #[.int .i64 0, .int .i64 0, .slice none 0 0], .int .i64 3]) h8
              ) ∧ (x48 = false →
                ∀ x50 : Int, x50 = IntKind.i64.wrap (x37 + 1) →
                I1 x50 x61 h8 ∧ mu1 x50 x61 h8 < mu1 x37 x61 h7
              )
            ) → J1 x48 h8) →
            ((decide (x40 < 0)) = true →
            J1 true h7
            ) ∧ ((decide (x40 < 0)) = false →
            ∃ x46 : Int, hld h7 ((blkA b).add 1) none = some (.int .i64 x46) ∧
            J1 (decide (x46 ≤ x40)) h7
            )
          ) ∧ ((decide (x37 < (x35.n : Int))) = false →
            ∃ x51 : Sl, hld h7 (blkA b1) none = some (x51.v) ∧
            ∀ J2 : Bool → Hp → Prop, (∀ x58 : Bool, ∀ h9 : Hp, (
              (x58 = true →
                R (.tuple #[.agg #[.int .i64 0, .int .i64 0, .slice none 0 0], .int .i64 5]) h9
              ) ∧ (x58 = false →
                ∃ x60 : Sl, hld h9 (blkA b1) none = some (x60.v) ∧
                ∃ x62 : Sl, hld h9 (blkA b2) none = some (x62.v) ∧
                Tri Try.prog (.func (.func 38) #[] #[]) [.int .i64 (x60.n : Int), .int .i64 (x62.n : Int), .func (.func 68) #[] #[.pointer (some (blkA b)), .pointer (some (blkA b1)), .pointer (some (blkA b2))]] h9 fun r1 h10 => ∃ x65 : M, r1 = x65.v ∧
                R (.tuple #[x65.v, .int .i64 0]) h10
              )
            ) → J2 x58 h9) →
            ((decide (64 < (x51.n : Int))) = true →
            J2 true h7
            ) ∧ ((decide (64 < (x51.n : Int))) = false →
              ∃ x55 : Sl, hld h7 (blkA b2) none = some (x55.v) ∧
            J2 (decide (64 < (x55.n : Int))) h7
            )
          )
        )
      )
    )
  )
set_option maxRecDepth 100000 in
theorem t_mat_Pick {x0 : M} {x1 : Sl} {x2 : Sl} {h : Hp} {R : Value → Hp → Prop} (hv : v_mat_Pick x0 x1 x2 h R) : Tri Try.prog (.func (.func 46) #[] #[]) [x0.v, x1.v, x2.v] h R :=
  tri_of_vc mixed Try.func46 (d := d_mat_Pick) (RM := [(6, 6)]) (rvs := [.cell 6 (some 3), .tmp 7]) (args := [x0.v, x1.v, x2.v]) (caps := []) (by kernel_rfl) Try.ntmps46 (V := v_mat_Pick x0 x1 x2 h R) (by kernel_rfl) (by simp) hv

/- trellis/mat.Pick$1 -/
def d_mat_Pick_1 : Vd :=
  .seq (.ops [.op 0 ⟨none, some 7, .new [.b false, .nil]⟩ false (.sh (.one .val))] [0, 1, 2, 3, 4, 7]) (.seq (.ops [.op 0 ⟨none, some 8, .fa 2 (.t 2)⟩ false (.no), .op 3 ⟨none, some 11, .mov (.t 0)⟩ false (.no), .op 6 ⟨none, some 14, .fa 1 (.t 2)⟩ false (.no), .op 10 ⟨none, some 18, .mov (.t 1)⟩ false (.no), .op 1 ⟨none, some 9, .ldh none (.t 8)⟩ false (.sh (.one (.slice))), .op 2 ⟨none, some 10, .ldh none (.t 3)⟩ false (.sh (.one (.slice))), .op 4 ⟨none, some 12, .ia 1 (.t 10) (.t 11)⟩ false (.no), .op 5 ⟨none, some 13, .ldh none (.t 12)⟩ false (.sh (.one (.int .i64))), .op 7 ⟨none, some 15, .ldh none (.t 14)⟩ false (.sh (.one (.int .i64))), .op 8 ⟨none, some 16, .bin .mul (.t 13) (.t 15)⟩ false (.sh (.one .val)), .op 9 ⟨none, some 17, .ldh none (.t 4)⟩ false (.sh (.one (.slice))), .op 11 ⟨none, some 19, .ia 1 (.t 17) (.t 18)⟩ false (.no), .op 12 ⟨none, some 20, .ldh none (.t 19)⟩ false (.sh (.one (.int .i64))), .op 13 ⟨none, some 21, .bin .add (.t 16) (.t 20)⟩ false (.sh (.one .val)), .op 14 ⟨none, some 22, .ia 2 (.t 9) (.t 21)⟩ false (.no), .op 15 ⟨none, some 23, .ldh (some 2) (.t 22)⟩ false (.sh (.agg [.z])), .op 16 ⟨none, some 24, .call true (.f 33) [.t 23]⟩ false (.sh (.agg [.z])), .op 17 ⟨none, none, .stb 7 7 2 (.t 24)⟩ false (.sh (.one .val))] [0, 1, 2, 3, 4, 7]) (.ret))
def v_mat_Pick_1 (i : Int) (j : Int) (x2 : Addr) (x3 : Addr) (x4 : Addr) (h : Hp) (R : Value → Hp → Prop) : Prop :=
  ∃ x9 : Sl, hld h (x2.add 2) none = some (x9.v) ∧
  ∃ x10 : Sl, hld h x3 none = some (x10.v) ∧
  0 ≤ i ∧ i < (x10.n : Int) ∧ x10.a.isSome = true ∧
  ∃ x13 : Int, hld h (elemA x10.a i 1) none = some (.int .i64 x13) ∧
  ∃ x15 : Int, hld h (x2.add 1) none = some (.int .i64 x15) ∧
  ∀ x16 : Int, x16 = IntKind.i64.wrap (x13 * x15) →
  ∃ x17 : Sl, hld h x4 none = some (x17.v) ∧
  0 ≤ j ∧ j < (x17.n : Int) ∧ x17.a.isSome = true ∧
  ∃ x20 : Int, hld h (elemA x17.a j 1) none = some (.int .i64 x20) ∧
  ∀ x21 : Int, x21 = IntKind.i64.wrap (x16 + x20) →
  0 ≤ x21 ∧ x21 < (x9.n : Int) ∧ x9.a.isSome = true ∧
  ∃ x23 : Z, hld h (elemA x9.a x21 2) (some 2) = some (x23.v) ∧
  Tri Try.prog (.func (.func 33) #[] #[]) [x23.v] h fun r h1 => h.le h1 ∧ ∃ x24 : Z, r = x24.v ∧
  R (x24.v) h1
set_option maxRecDepth 100000 in
theorem t_mat_Pick_1 {i : Int} {j : Int} {x2 : Addr} {x3 : Addr} {x4 : Addr} {h : Hp} {R : Value → Hp → Prop} (hv : v_mat_Pick_1 i j x2 x3 x4 h R) : Tri Try.prog (.func (.func 68) #[] #[.pointer (some x2), .pointer (some x3), .pointer (some x4)]) [.int .i64 i, .int .i64 j] h R :=
  tri_of_vc mixed Try.func68 (d := d_mat_Pick_1) (RM := [(7, 7)]) (rvs := [.cell 7 (some 2)]) (args := [.int .i64 i, .int .i64 j]) (caps := [.pointer (some x2), .pointer (some x3), .pointer (some x4)]) (by kernel_rfl) Try.ntmps68 (V := v_mat_Pick_1 i j x2 x3 x4 h R) (by kernel_rfl) (by simp) hv

/- trellis/modhnf.narrow -/
def d_modhnf_narrow : Vd :=
  .seq (.ops [.op 0 ⟨none, some 1, .box 3 (.t 0)⟩ false (.sh (.one .val)), .op 1 ⟨none, some 2, .new [.i .i64 0, .i .i64 0, .nil]⟩ false (.sh (.one .val)), .op 2 ⟨none, some 3, .mov (.nil)⟩ false (.no), .op 3 ⟨none, some 4, .mov (.nil)⟩ false (.no), .op 4 ⟨none, some 5, .new [.b false, .nil]⟩ false (.sh (.one .val)), .op 5 ⟨none, some 6, .mov (.i .i64 0)⟩ false (.no)] [0, 1, 2, 3, 4, 5, 6, 7, 17]) (.seq (.ops [.op 0 ⟨none, some 10, .ldb 1 1 (some 3)⟩ false (.no), .op 1 ⟨none, some 11, .call false (.f 45) [.t 10]⟩ false (.sh (.tup [(none, .slice), (none, .slice), (some [.z], .val), (none, .int .i64)])), .op 2 ⟨none, some 9, .mov (.t 11)⟩ false (.no), .op 3 ⟨none, some 12, .ext (.t 9) 0⟩ false (.no), .op 4 ⟨none, some 13, .ext (.t 9) 1⟩ false (.no), .op 5 ⟨none, some 14, .ext (.t 9) 2⟩ false (.no), .op 6 ⟨none, some 15, .ext (.t 9) 3⟩ false (.no), .op 7 ⟨none, some 3, .mov (.t 12)⟩ false (.no), .op 8 ⟨none, some 4, .mov (.t 13)⟩ false (.no), .op 9 ⟨none, none, .stb 5 5 2 (.t 14)⟩ false (.sh (.one .val)), .op 10 ⟨none, some 6, .mov (.t 15)⟩ false (.no)] [0, 1, 2, 3, 4, 5, 6, 7, 17]) (.seq (.seq (.ops [.op 0 ⟨none, some 16, .mov (.t 6)⟩ false (.no), .op 1 ⟨none, some 17, .bin .neq (.t 16) (.i .i64 0)⟩ false (.sh (.one .val))] [0, 1, 2, 3, 4, 5, 6, 7, 17]) (.cond (.t 17) (.seq (.ops [.op 0 ⟨none, some 18, .bd [.i .i64 0, .i .i64 0, .nil] []⟩ false (.no), .op 1 ⟨none, some 19, .bd [.b false, .nil] []⟩ false (.no), .op 2 ⟨none, some 20, .mov (.t 6)⟩ false (.no), .op 3 ⟨none, none, .stb 2 2 3 (.t 18)⟩ false (.sh (.one .val)), .op 4 ⟨none, some 3, .mov (.nil)⟩ false (.no), .op 5 ⟨none, some 4, .mov (.nil)⟩ false (.no), .op 6 ⟨none, none, .stb 5 5 2 (.t 19)⟩ false (.sh (.one .val)), .op 7 ⟨none, some 6, .mov (.t 20)⟩ false (.no)] [0, 1, 2, 3, 4, 5, 6, 7, 17]) (.ret)) (.skip))) (.seq (.ops [.op 0 ⟨none, some 22, .ldb 1 1 (some 3)⟩ false (.no), .op 1 ⟨none, some 23, .fab 1 1 0⟩ false (.no), .op 2 ⟨none, some 24, .ldb 23 1 none⟩ false (.no), .op 4 ⟨none, some 26, .mov (.t 4)⟩ false (.no), .op 9 ⟨none, some 7, .new [.i .i64 0, .i .i64 0, .nil]⟩ false (.sh (.one .val)), .op 3 ⟨none, some 25, .call false (.f 47) [.t 24]⟩ false (.sh (.one (.slice))), .op 5 ⟨none, some 27, .call false (.f 46) [.t 22, .t 25, .t 26]⟩ false (.sh (.tup [(some [.m], .val), (none, .int .i64)])), .op 6 ⟨none, some 21, .mov (.t 27)⟩ false (.no), .op 7 ⟨none, some 28, .ext (.t 21) 0⟩ false (.no), .op 8 ⟨none, some 29, .ext (.t 21) 1⟩ false (.no), .op 10 ⟨none, none, .stb 7 7 3 (.t 28)⟩ false (.sh (.one .val)), .op 11 ⟨none, some 8, .mov (.t 29)⟩ false (.no)] [0, 1, 2, 3, 4, 5, 6, 7, 17]) (.seq (.ops [.op 0 ⟨none, some 31, .ldb 7 7 (some 3)⟩ false (.no), .op 1 ⟨none, some 32, .ldb 5 5 (some 2)⟩ false (.no), .op 2 ⟨none, some 33, .call false (.f 9) [.t 31, .t 32]⟩ false (.sh (.tup [(some [.m], .val), (none, .int .i64)])), .op 3 ⟨none, some 30, .mov (.t 33)⟩ false (.no), .op 4 ⟨none, some 34, .ext (.t 30) 0⟩ false (.no), .op 5 ⟨none, some 35, .ext (.t 30) 1⟩ false (.no), .op 6 ⟨none, none, .stb 2 2 3 (.t 34)⟩ false (.sh (.one .val)), .op 7 ⟨none, some 6, .mov (.t 35)⟩ false (.no)] [0, 1, 2, 3, 4, 5, 6, 7, 17]) (.seq (.ops [.op 0 ⟨none, some 36, .ldb 2 2 (some 3)⟩ false (.no), .op 1 ⟨none, some 37, .mov (.t 3)⟩ false (.no), .op 2 ⟨none, some 38, .mov (.t 4)⟩ false (.no), .op 3 ⟨none, some 39, .ldb 5 5 (some 2)⟩ false (.no), .op 4 ⟨none, some 40, .mov (.t 6)⟩ false (.no), .op 5 ⟨none, none, .stb 2 2 3 (.t 36)⟩ false (.sh (.one .val)), .op 6 ⟨none, some 3, .mov (.t 37)⟩ false (.no), .op 7 ⟨none, some 4, .mov (.t 38)⟩ false (.no), .op 8 ⟨none, none, .stb 5 5 2 (.t 39)⟩ false (.sh (.one .val)), .op 9 ⟨none, some 6, .mov (.t 40)⟩ false (.no)] [0, 1, 2, 3, 4, 5, 6, 7, 17]) (.ret))))))
def v_modhnf_narrow (a : M) (h : Hp) (R : Value → Hp → Prop) : Prop :=
  Tri Try.prog (.func (.func 45) #[] #[]) [a.v] h fun r h1 => ∃ x11a : Sl, ∃ x11b : Sl, ∃ x11c : Z, ∃ x11d : Int, r = .tuple #[x11a.v, x11b.v, x11c.v, .int .i64 x11d] ∧
  ((!decide (x11d = 0)) = true →
    R (.tuple #[.agg #[.int .i64 0, .int .i64 0, .slice none 0 0], .slice none 0 0, .slice none 0 0, .agg #[.bool false, .slice none 0 0], .int .i64 x11d]) h1
  ) ∧ ((!decide (x11d = 0)) = false →
    Tri Try.prog (.func (.func 47) #[] #[]) [.int .i64 a.rows] h1 fun r1 h2 => ∃ x25 : Sl, r1 = x25.v ∧
    Tri Try.prog (.func (.func 46) #[] #[]) [a.v, x25.v, x11b.v] h2 fun r2 h3 => ∃ x27a : M, ∃ x27b : Int, r2 = .tuple #[x27a.v, .int .i64 x27b] ∧
    Tri Try.prog (.func (.func 9) #[] #[]) [x27a.v, x11c.v] h3 fun r3 h4 => ∃ x33a : M, ∃ x33b : Int, r3 = .tuple #[x33a.v, .int .i64 x33b] ∧
    R (.tuple #[x33a.v, x11a.v, x11b.v, x11c.v, .int .i64 x33b]) h4
  )
set_option maxRecDepth 100000 in
theorem t_modhnf_narrow {a : M} {h : Hp} {R : Value → Hp → Prop} (hv : v_modhnf_narrow a h R) : Tri Try.prog (.func (.func 44) #[] #[]) [a.v] h R :=
  tri_of_vc mixed Try.func44 (d := d_modhnf_narrow) (RM := [(1, 1), (2, 2), (5, 5), (7, 7), (23, 1)]) (rvs := [.cell 2 (some 3), .tmp 3, .tmp 4, .cell 5 (some 2), .tmp 6]) (args := [a.v]) (caps := []) (by kernel_rfl) Try.ntmps44 (V := v_modhnf_narrow a h R) (by kernel_rfl) (by simp) hv

/- trellis/modhnf.Volume -/
def d_modhnf_Volume : Vd :=
  .seq (.ops [.op 0 ⟨none, some 1, .box 3 (.t 0)⟩ false (.sh (.one .val)), .op 1 ⟨none, some 2, .new [.b false, .nil]⟩ false (.sh (.one .val)), .op 2 ⟨none, some 3, .mov (.i .i64 0)⟩ false (.no)] [0, 1, 2, 3, 4, 8, 9, 10, 20, 25, 26, 27]) (.seq (.ops [.op 0 ⟨none, some 12, .ldb 1 1 (some 3)⟩ false (.no), .op 1 ⟨none, some 13, .call false (.f 44) [.t 12]⟩ false (.sh (.tup [(some [.m], .val), (none, .slice), (none, .slice), (some [.z], .val), (none, .int .i64)])), .op 2 ⟨none, some 11, .mov (.t 13)⟩ false (.no), .op 3 ⟨none, some 14, .ext (.t 11) 0⟩ false (.no), .op 4 ⟨none, some 15, .ext (.t 11) 1⟩ false (.no), .op 5 ⟨none, some 16, .ext (.t 11) 2⟩ false (.no), .op 6 ⟨none, some 17, .ext (.t 11) 3⟩ false (.no), .op 7 ⟨none, some 18, .ext (.t 11) 4⟩ false (.no), .op 8 ⟨none, some 4, .new [.i .i64 0, .i .i64 0, .nil]⟩ false (.sh (.one .val)), .op 9 ⟨none, some 7, .new [.b false, .nil]⟩ false (.sh (.one .val)), .op 10 ⟨none, none, .stb 4 4 3 (.t 14)⟩ false (.sh (.one .val)), .op 11 ⟨none, some 5, .mov (.t 15)⟩ false (.no), .op 12 ⟨none, some 6, .mov (.t 16)⟩ false (.no), .op 13 ⟨none, none, .stb 7 7 2 (.t 17)⟩ false (.sh (.one .val)), .op 14 ⟨none, some 8, .mov (.t 18)⟩ false (.no)] [0, 1, 2, 3, 4, 8, 9, 10, 20, 25, 26, 27]) (.seq (.seq (.ops [.op 0 ⟨none, some 19, .mov (.t 8)⟩ false (.no), .op 1 ⟨none, some 20, .bin .neq (.t 19) (.i .i64 0)⟩ false (.sh (.one .val))] [0, 1, 2, 3, 4, 8, 9, 10, 20, 25, 26, 27]) (.cond (.t 20) (.seq (.ops [.op 0 ⟨none, some 21, .bd [.b false, .nil] []⟩ false (.no), .op 1 ⟨none, some 22, .mov (.t 8)⟩ false (.no), .op 2 ⟨none, none, .stb 2 2 2 (.t 21)⟩ false (.sh (.one .val)), .op 3 ⟨none, some 3, .mov (.t 22)⟩ false (.no)] [0, 1, 2, 3, 4, 8, 9, 10, 20, 25, 26, 27]) (.ret)) (.skip))) (.seq (.ops [.op 0 ⟨none, some 23, .call false (.f 40) [.i .i64 1]⟩ false (.sh (.agg [.z])), .op 1 ⟨none, some 9, .new [.b false, .nil]⟩ false (.sh (.one .val)), .op 2 ⟨none, none, .stb 9 9 2 (.t 23)⟩ false (.sh (.one .val))] [0, 1, 2, 3, 4, 8, 9, 10, 20, 25, 26, 27]) (.seq (.seq (.ops [.op 0 ⟨none, some 24, .fab 4 4 0⟩ false (.no), .op 1 ⟨none, some 25, .ldb 24 4 none⟩ false (.no), .op 2 ⟨none, some 26, .mov (.i .i64 0)⟩ false (.no)] [0, 1, 2, 3, 4, 8, 9, 10, 20, 25, 26, 27]) (.block 0 (.loop ⟨[2, 4, 9, 25], [2, 4], [2, 4, 9]⟩ [.t 26 (.int .i64), .x 9 [.z]] (.seq (.ops [.op 0 ⟨none, some 27, .bin .lss (.t 26) (.t 25)⟩ false (.sh (.one .val))] [0, 1, 2, 3, 4, 8, 9, 10, 20, 25, 26, 27]) (.seq (.cond (.t 27) (.skip) (.exit 0)) (.seq (.block 1 (.seq (.ops [.op 0 ⟨none, some 28, .mov (.t 26)⟩ false (.no), .op 1 ⟨none, some 10, .mov (.t 28)⟩ false (.no)] [0, 1, 2, 3, 4, 8, 9, 10, 20, 25, 26, 27]) (.ops [.op 0 ⟨none, some 29, .ldb 9 9 (some 2)⟩ false (.no), .op 1 ⟨none, some 30, .fab 4 4 2⟩ false (.no), .op 2 ⟨none, some 31, .ldb 30 4 none⟩ false (.no), .op 3 ⟨none, some 32, .mov (.t 10)⟩ false (.no), .op 4 ⟨none, some 33, .fab 4 4 1⟩ false (.no), .op 5 ⟨none, some 34, .ldb 33 4 none⟩ false (.no), .op 6 ⟨none, some 35, .bin .mul (.t 32) (.t 34)⟩ false (.sh (.one .val)), .op 7 ⟨none, some 36, .mov (.t 10)⟩ false (.no), .op 8 ⟨none, some 37, .bin .add (.t 35) (.t 36)⟩ false (.sh (.one .val)), .op 9 ⟨none, some 38, .ia 2 (.t 31) (.t 37)⟩ false (.no), .op 10 ⟨none, some 39, .ldh (some 2) (.t 38)⟩ false (.sh (.agg [.z])), .op 11 ⟨none, some 40, .call false (.f 11) [.t 29, .t 39]⟩ false (.sh (.agg [.z])), .op 12 ⟨none, none, .stb 9 9 2 (.t 40)⟩ false (.sh (.one .val))] [0, 1, 2, 3, 4, 8, 9, 10, 20, 25, 26, 27]))) (.ops [.op 0 ⟨none, some 41, .bin .add (.t 26) (.i .i64 1)⟩ false (.sh (.one .val)), .op 1 ⟨none, some 26, .mov (.t 41)⟩ false (.no)] [0, 1, 2, 3, 4, 8, 9, 10, 20, 25, 26, 27]))))))) (.seq (.ops [.op 0 ⟨none, some 42, .ldb 9 9 (some 2)⟩ false (.no), .op 1 ⟨none, none, .stb 2 2 2 (.t 42)⟩ false (.sh (.one .val)), .op 2 ⟨none, some 3, .mov (.i .i64 0)⟩ false (.no)] [0, 1, 2, 3, 4, 8, 9, 10, 20, 25, 26, 27]) (.ret))))))
def v_modhnf_Volume (a : M) (h : Hp) (R : Value → Hp → Prop) : Prop :=
  Tri Try.prog (.func (.func 44) #[] #[]) [a.v] h fun r h1 => ∃ x13a : M, ∃ x13b : Sl, ∃ x13c : Sl, ∃ x13d : Z, ∃ x13e : Int, r = .tuple #[x13a.v, x13b.v, x13c.v, x13d.v, .int .i64 x13e] ∧
  ((!decide (x13e = 0)) = true →
    R (.tuple #[.agg #[.bool false, .slice none 0 0], .int .i64 x13e]) h1
  ) ∧ ((!decide (x13e = 0)) = false →
    Tri Try.prog (.func (.func 40) #[] #[]) [.int .i64 1] h1 fun r1 h2 => ∃ x23 : Z, r1 = x23.v ∧
    ∃ I : Int → Z → Hp → Prop, ∃ mu : Int → Z → Hp → Nat, I 0 x23 h2 ∧ (∀ x26 : Int, ∀ v : Z, ∀ h3 : Hp, I x26 v h3 →
      ((decide (x26 < x13a.rows)) = true →
        ∀ x35 : Int, x35 = IntKind.i64.wrap (x26 * x13a.cols) →
        ∀ x37 : Int, x37 = IntKind.i64.wrap (x35 + x26) →
        0 ≤ x37 ∧ x37 < (x13a.el.n : Int) ∧ x13a.el.a.isSome = true ∧
        ∃ x39 : Z, hld h3 (elemA x13a.el.a x37 2) (some 2) = some (x39.v) ∧
        Tri Try.prog (.func (.func 11) #[] #[]) [v.v, x39.v] h3 fun r2 h4 => ∃ x40 : Z, r2 = x40.v ∧
        ∀ x41 : Int, x41 = IntKind.i64.wrap (x26 + 1) →
        I x41 x40 h4 ∧ mu x41 x40 h4 < mu x26 v h3
      ) ∧ ((decide (x26 < x13a.rows)) = false →
        R (.tuple #[v.v, .int .i64 0]) h3
      )
    )
  )
set_option maxRecDepth 100000 in
theorem t_modhnf_Volume {a : M} {h : Hp} {R : Value → Hp → Prop} (hv : v_modhnf_Volume a h R) : Tri Try.prog (.func (.func 18) #[] #[]) [a.v] h R :=
  tri_of_vc mixed Try.func18 (d := d_modhnf_Volume) (RM := [(1, 1), (2, 2), (4, 4), (7, 7), (9, 9), (24, 4), (30, 4), (33, 4)]) (rvs := [.cell 2 (some 2), .tmp 3]) (args := [a.v]) (caps := []) (by kernel_rfl) Try.ntmps18 (V := v_modhnf_Volume a h R) (by kernel_rfl) (by simp) hv

/- trellis/trellislaw19.awake -/
def d_law19_awake : Vd :=
  .seq (.ops [.op 0 ⟨none, some 0, .mov (.b false)⟩ false (.no)] [0, 1, 2]) (.seq (.ops [.op 0 ⟨none, some 4, .bs [.i .u64 0] 1 1 [(0, .i .u64 6)]⟩ false (.sh (.one .val)), .op 1 ⟨none, some 5, .bd [.b false, .nil] [(0, 1, .b true), (1, 1, .t 4)]⟩ false (.no), .op 2 ⟨none, some 6, .bs [.b false, .nil] 1 2 [(0, .t 5)]⟩ false (.sh (.one .val)), .op 3 ⟨none, some 7, .bd [.i .i64 0, .i .i64 0, .nil] [(0, 1, .i .i64 1), (1, 1, .i .i64 1), (2, 1, .t 6)]⟩ false (.no), .op 4 ⟨none, some 8, .call false (.f 18) [.t 7]⟩ false (.sh (.tup [(some [.z], .val), (none, .int .i64)])), .op 5 ⟨none, some 3, .mov (.t 8)⟩ false (.no), .op 6 ⟨none, some 9, .ext (.t 3) 0⟩ false (.no), .op 7 ⟨none, some 10, .ext (.t 3) 1⟩ false (.no), .op 8 ⟨none, some 1, .new [.b false, .nil]⟩ false (.sh (.one .val)), .op 9 ⟨none, none, .stb 1 1 2 (.t 9)⟩ false (.sh (.one .val)), .op 10 ⟨none, some 2, .mov (.t 10)⟩ false (.no)] [0, 1, 2]) (.seq (.ops [.op 0 ⟨none, some 11, .mov (.t 2)⟩ false (.no), .op 1 ⟨none, some 12, .bin .eql (.t 11) (.i .i64 0)⟩ false (.sh (.one .val)), .op 2 ⟨none, some 13, .mov (.t 12)⟩ false (.no), .grp ⟨[], [], []⟩ [.t 17 (.bool)] [(3, ⟨some (13, true), some 14, .ldb 1 1 (some 2)⟩, true, .no), (4, ⟨some (13, true), some 15, .call false (.f 13) [.i .u64 6]⟩, false, .sh (.agg [.z])), (5, ⟨some (13, true), some 16, .call false (.f 26) [.t 14, .t 15]⟩, false, .sh (.one (.bool))), (6, ⟨none, some 17, .pick (.t 13) (.t 16) (.b false)⟩, false, .no)], .op 7 ⟨none, some 0, .mov (.t 17)⟩ false (.no)] [0, 1, 2]) (.ret)))
def v_law19_awake  (h : Hp) (R : Value → Hp → Prop) : Prop :=
  ∀ b : Nat, ∀ h1 : Hp, h b = none → h1 = h.up b ⟨[.int .u64 6], true⟩ →
  ∀ b1 : Nat, ∀ h2 : Hp, h1 b1 = none → h2 = h1.up b1 ⟨[.bool true, .slice (some (blkA b)) 1 1], true⟩ →
  Tri Try.prog (.func (.func 18) #[] #[]) [.agg #[.int .i64 1, .int .i64 1, .slice (some (blkA b1)) 1 1]] h2 fun r h3 => ∃ x8a : Z, ∃ x8b : Int, r = .tuple #[x8a.v, .int .i64 x8b] ∧
  ∀ J : Bool → Hp → Prop, (∀ x17 : Bool, ∀ h4 : Hp, (
    R (.bool x17) h4
  ) → J x17 h4) →
  ((decide (x8b = 0)) = true →
  Tri Try.prog (.func (.func 13) #[] #[]) [.int .u64 6] h3 fun r1 h5 => ∃ x15 : Z, r1 = x15.v ∧
  Tri Try.prog (.func (.func 26) #[] #[]) [x8a.v, x15.v] h5 fun r2 h6 => ∃ x16 : Bool, r2 = .bool x16 ∧
  J x16 h6
  ) ∧ ((decide (x8b = 0)) = false →
  J false h3
  )
set_option maxRecDepth 100000 in
theorem t_law19_awake {h : Hp} {R : Value → Hp → Prop} (hv : v_law19_awake h R) : Tri Try.prog (.func (.func 6) #[] #[]) [] h R :=
  tri_of_vc mixed Try.func6 (d := d_law19_awake) (RM := [(1, 1)]) (rvs := [.tmp 0]) (args := []) (caps := []) (by kernel_rfl) Try.ntmps6 (V := v_law19_awake h R) (by kernel_rfl) (by simp) hv

/- trellis/trellislaw19.ModhnfPeriods -/
def d_law19_ModhnfPeriods : Vd :=
  .seq (.ops [.op 0 ⟨none, some 3, .box 3 (.t 0)⟩ false (.sh (.one .val)), .op 1 ⟨none, some 4, .box 2 (.t 1)⟩ false (.sh (.one .val)), .op 2 ⟨none, some 5, .box 2 (.t 2)⟩ false (.sh (.one .val)), .op 3 ⟨none, some 6, .mov (.b false)⟩ false (.no)] [0, 1, 2, 3, 4, 5, 6, 7, 8, 9, 10, 11, 12, 13, 14, 15, 16, 18, 20, 21, 24, 37, 90]) (.seq (.seq (.ops [.op 0 ⟨none, some 23, .call false (.f 6) []⟩ false (.sh (.one (.bool))), .op 1 ⟨none, some 24, .un .not (.t 23)⟩ false (.no)] [0, 1, 2, 3, 4, 5, 6, 7, 8, 9, 10, 11, 12, 13, 14, 15, 16, 18, 20, 21, 24, 37, 90]) (.cond (.t 24) (.seq (.ops [.op 0 ⟨none, some 6, .mov (.b false)⟩ false (.no)] [0, 1, 2, 3, 4, 5, 6, 7, 8, 9, 10, 11, 12, 13, 14, 15, 16, 18, 20, 21, 24, 37, 90]) (.ret)) (.skip))) (.seq (.seq (.ops [.op 0 ⟨none, some 25, .ldb 3 3 (some 3)⟩ false (.no), .op 1 ⟨none, some 26, .call false (.f 7) [.t 25]⟩ false (.sh (.one (.int .i64))), .op 2 ⟨none, some 27, .bin .neq (.t 26) (.i .i64 0)⟩ false (.sh (.one .val)), .op 3 ⟨none, some 28, .mov (.t 27)⟩ false (.no), .grp ⟨[3, 4, 5], [3, 4, 5], [3, 4, 5]⟩ [.t 32 (.bool)] [(4, ⟨some (28, false), some 29, .ldb 4 4 (some 2)⟩, true, .no), (5, ⟨some (28, false), some 30, .call false (.f 8) [.t 29]⟩, false, .sh (.one (.int .i64))), (6, ⟨some (28, false), some 31, .bin .eql (.t 30) (.i .i64 0)⟩, false, .sh (.one .val)), (7, ⟨none, some 32, .pick (.t 28) (.b true) (.t 31)⟩, false, .no)], .op 8 ⟨none, some 33, .mov (.t 32)⟩ false (.no), .grp ⟨[3, 4, 5], [3, 4, 5], [3, 4, 5]⟩ [.t 37 (.bool)] [(9, ⟨some (33, false), some 34, .ldb 5 5 (some 2)⟩, true, .no), (10, ⟨some (33, false), some 35, .call false (.f 8) [.t 34]⟩, false, .sh (.one (.int .i64))), (11, ⟨some (33, false), some 36, .bin .eql (.t 35) (.i .i64 0)⟩, false, .sh (.one .val)), (12, ⟨none, some 37, .pick (.t 33) (.b true) (.t 36)⟩, false, .no)]] [0, 1, 2, 3, 4, 5, 6, 7, 8, 9, 10, 11, 12, 13, 14, 15, 16, 18, 20, 21, 24, 37, 90]) (.cond (.t 37) (.seq (.ops [.op 0 ⟨none, some 6, .mov (.b true)⟩ false (.no)] [0, 1, 2, 3, 4, 5, 6, 7, 8, 9, 10, 11, 12, 13, 14, 15, 16, 18, 20, 21, 24, 37, 90]) (.ret)) (.skip))) (.seq (.ops [.op 0 ⟨none, some 39, .ldb 3 3 (some 3)⟩ false (.no), .op 1 ⟨none, some 40, .ldb 4 4 (some 2)⟩ false (.no), .op 2 ⟨none, some 41, .call false (.f 9) [.t 39, .t 40]⟩ false (.sh (.tup [(some [.m], .val), (none, .int .i64)])), .op 3 ⟨none, some 38, .mov (.t 41)⟩ false (.no), .op 4 ⟨none, some 42, .ext (.t 38) 0⟩ false (.no), .op 5 ⟨none, some 43, .ext (.t 38) 1⟩ false (.no), .op 6 ⟨none, some 7, .new [.i .i64 0, .i .i64 0, .nil]⟩ false (.sh (.one .val)), .op 7 ⟨none, none, .stb 7 7 3 (.t 42)⟩ false (.sh (.one .val)), .op 8 ⟨none, some 8, .mov (.t 43)⟩ false (.no)] [0, 1, 2, 3, 4, 5, 6, 7, 8, 9, 10, 11, 12, 13, 14, 15, 16, 18, 20, 21, 24, 37, 90]) (.seq (.ops [.op 0 ⟨none, some 45, .ldb 3 3 (some 3)⟩ false (.no), .op 1 ⟨none, some 46, .ldb 4 4 (some 2)⟩ false (.no), .op 7 ⟨none, some 9, .new [.i .i64 0, .i .i64 0, .nil]⟩ false (.sh (.one .val)), .op 2 ⟨none, some 47, .call false (.f 10) [.t 46]⟩ false (.sh (.agg [.z])), .op 3 ⟨none, some 48, .call false (.f 9) [.t 45, .t 47]⟩ false (.sh (.tup [(some [.m], .val), (none, .int .i64)])), .op 4 ⟨none, some 44, .mov (.t 48)⟩ false (.no), .op 5 ⟨none, some 49, .ext (.t 44) 0⟩ false (.no), .op 6 ⟨none, some 50, .ext (.t 44) 1⟩ false (.no), .op 8 ⟨none, none, .stb 9 9 3 (.t 49)⟩ false (.sh (.one .val)), .op 9 ⟨none, some 10, .mov (.t 50)⟩ false (.no)] [0, 1, 2, 3, 4, 5, 6, 7, 8, 9, 10, 11, 12, 13, 14, 15, 16, 18, 20, 21, 24, 37, 90]) (.seq (.ops [.op 0 ⟨none, some 52, .ldb 3 3 (some 3)⟩ false (.no), .op 1 ⟨none, some 53, .ldb 4 4 (some 2)⟩ false (.no), .op 2 ⟨none, some 54, .ldb 5 5 (some 2)⟩ false (.no), .op 8 ⟨none, some 11, .new [.i .i64 0, .i .i64 0, .nil]⟩ false (.sh (.one .val)), .op 3 ⟨none, some 55, .call false (.f 11) [.t 53, .t 54]⟩ false (.sh (.agg [.z])), .op 4 ⟨none, some 56, .call false (.f 9) [.t 52, .t 55]⟩ false (.sh (.tup [(some [.m], .val), (none, .int .i64)])), .op 5 ⟨none, some 51, .mov (.t 56)⟩ false (.no), .op 6 ⟨none, some 57, .ext (.t 51) 0⟩ false (.no), .op 7 ⟨none, some 58, .ext (.t 51) 1⟩ false (.no), .op 9 ⟨none, none, .stb 11 11 3 (.t 57)⟩ false (.sh (.one .val)), .op 10 ⟨none, some 12, .mov (.t 58)⟩ false (.no)] [0, 1, 2, 3, 4, 5, 6, 7, 8, 9, 10, 11, 12, 13, 14, 15, 16, 18, 20, 21, 24, 37, 90]) (.seq (.ops [.op 0 ⟨none, some 60, .ldb 11 11 (some 3)⟩ false (.no), .op 1 ⟨none, some 61, .ldb 4 4 (some 2)⟩ false (.no), .op 2 ⟨none, some 62, .call false (.f 9) [.t 60, .t 61]⟩ false (.sh (.tup [(some [.m], .val), (none, .int .i64)])), .op 3 ⟨none, some 59, .mov (.t 62)⟩ false (.no), .op 4 ⟨none, some 63, .ext (.t 59) 0⟩ false (.no), .op 5 ⟨none, some 64, .ext (.t 59) 1⟩ false (.no), .op 6 ⟨none, some 13, .new [.i .i64 0, .i .i64 0, .nil]⟩ false (.sh (.one .val)), .op 7 ⟨none, none, .stb 13 13 3 (.t 63)⟩ false (.sh (.one .val)), .op 8 ⟨none, some 14, .mov (.t 64)⟩ false (.no)] [0, 1, 2, 3, 4, 5, 6, 7, 8, 9, 10, 11, 12, 13, 14, 15, 16, 18, 20, 21, 24, 37, 90]) (.seq (.seq (.ops [.op 0 ⟨none, some 65, .mov (.t 8)⟩ false (.no), .op 1 ⟨none, some 66, .bin .neq (.t 65) (.i .i64 0)⟩ false (.sh (.one .val)), .op 2 ⟨none, some 67, .mov (.t 66)⟩ false (.no), .grp ⟨[3, 4, 7, 9, 12, 13, 14], [3, 4, 7, 9, 13], [3, 4, 7, 9, 13]⟩ [.t 70 (.bool)] [(3, ⟨some (67, false), some 68, .mov (.t 10)⟩, true, .no), (4, ⟨some (67, false), some 69, .bin .neq (.t 68) (.i .i64 0)⟩, false, .sh (.one .val)), (5, ⟨none, some 70, .pick (.t 67) (.b true) (.t 69)⟩, false, .no)], .op 6 ⟨none, some 71, .mov (.t 70)⟩ false (.no), .grp ⟨[3, 4, 7, 9, 13, 14], [3, 4, 7, 9, 13], [3, 4, 7, 9, 13]⟩ [.t 74 (.bool)] [(7, ⟨some (71, false), some 72, .mov (.t 12)⟩, true, .no), (8, ⟨some (71, false), some 73, .bin .neq (.t 72) (.i .i64 0)⟩, false, .sh (.one .val)), (9, ⟨none, some 74, .pick (.t 71) (.b true) (.t 73)⟩, false, .no)], .op 10 ⟨none, some 75, .mov (.t 74)⟩ false (.no), .grp ⟨[3, 4, 7, 9, 13], [3, 4, 7, 9, 13], [3, 4, 7, 9, 13]⟩ [.t 78 (.bool)] [(11, ⟨some (75, false), some 76, .mov (.t 14)⟩, true, .no), (12, ⟨some (75, false), some 77, .bin .neq (.t 76) (.i .i64 0)⟩, false, .sh (.one .val)), (13, ⟨none, some 78, .pick (.t 75) (.b true) (.t 77)⟩, false, .no)], .op 14 ⟨none, some 79, .mov (.t 78)⟩ false (.no), .grp ⟨[3, 4, 7, 13], [3, 4, 7, 13], [3, 4, 7, 13]⟩ [.t 84 (.bool)] [(15, ⟨some (79, false), some 80, .ldb 7 7 (some 3)⟩, true, .no), (16, ⟨some (79, false), some 81, .ldb 9 9 (some 3)⟩, false, .no), (17, ⟨some (79, false), some 82, .call false (.f 12) [.t 80, .t 81]⟩, false, .sh (.one (.bool))), (18, ⟨some (79, false), some 83, .un .not (.t 82)⟩, false, .no), (19, ⟨none, some 84, .pick (.t 79) (.b true) (.t 83)⟩, false, .no)], .op 20 ⟨none, some 85, .mov (.t 84)⟩ false (.no), .grp ⟨[3, 4], [3, 4], [3, 4]⟩ [.t 90 (.bool)] [(21, ⟨some (85, false), some 86, .ldb 7 7 (some 3)⟩, true, .no), (22, ⟨some (85, false), some 87, .ldb 13 13 (some 3)⟩, false, .no), (23, ⟨some (85, false), some 88, .call false (.f 12) [.t 86, .t 87]⟩, false, .sh (.one (.bool))), (24, ⟨some (85, false), some 89, .un .not (.t 88)⟩, false, .no), (25, ⟨none, some 90, .pick (.t 85) (.b true) (.t 89)⟩, false, .no)]] [0, 1, 2, 3, 4, 5, 6, 7, 8, 9, 10, 11, 12, 13, 14, 15, 16, 18, 20, 21, 24, 37, 90]) (.cond (.t 90) (.seq (.ops [.op 0 ⟨none, some 6, .mov (.b false)⟩ false (.no)] [0, 1, 2, 3, 4, 5, 6, 7, 8, 9, 10, 11, 12, 13, 14, 15, 16, 18, 20, 21, 24, 37, 90]) (.ret)) (.skip))) (.seq (.ops [.op 0 ⟨none, some 92, .ldb 3 3 (some 3)⟩ false (.no), .op 6 ⟨none, some 15, .new [.i .i64 0, .i .i64 0, .nil]⟩ false (.sh (.one .val)), .op 1 ⟨none, some 93, .call false (.f 13) [.i .u64 1]⟩ false (.sh (.agg [.z])), .op 2 ⟨none, some 94, .call false (.f 9) [.t 92, .t 93]⟩ false (.sh (.tup [(some [.m], .val), (none, .int .i64)])), .op 3 ⟨none, some 91, .mov (.t 94)⟩ false (.no), .op 4 ⟨none, some 95, .ext (.t 91) 0⟩ false (.no), .op 5 ⟨none, some 96, .ext (.t 91) 1⟩ false (.no), .op 7 ⟨none, none, .stb 15 15 3 (.t 95)⟩ false (.sh (.one .val)), .op 8 ⟨none, some 8, .mov (.t 96)⟩ false (.no)] [0, 1, 2, 3, 4, 5, 6, 7, 8, 9, 10, 11, 12, 13, 14, 15, 16, 18, 20, 21, 24, 37, 90]) (.seq (.ops [.op 0 ⟨none, some 98, .fab 3 3 1⟩ false (.no), .op 1 ⟨none, some 99, .ldb 98 3 none⟩ false (.no), .op 2 ⟨none, some 100, .call false (.f 14) [.t 99]⟩ false (.sh (.tup [(some [.m], .val), (none, .int .i64)])), .op 3 ⟨none, some 97, .mov (.t 100)⟩ false (.no), .op 4 ⟨none, some 101, .ext (.t 97) 0⟩ false (.no), .op 5 ⟨none, some 102, .ext (.t 97) 1⟩ false (.no), .op 6 ⟨none, some 16, .new [.i .i64 0, .i .i64 0, .nil]⟩ false (.sh (.one .val)), .op 7 ⟨none, none, .stb 16 16 3 (.t 101)⟩ false (.sh (.one .val)), .op 8 ⟨none, some 17, .mov (.t 102)⟩ false (.no)] [0, 1, 2, 3, 4, 5, 6, 7, 8, 9, 10, 11, 12, 13, 14, 15, 16, 18, 20, 21, 24, 37, 90]) (.seq (.ops [.op 0 ⟨none, some 104, .ldb 4 4 (some 2)⟩ false (.no), .op 1 ⟨none, some 105, .ldb 3 3 (some 3)⟩ false (.no), .op 2 ⟨none, some 106, .call false (.f 15) [.t 104, .t 105]⟩ false (.sh (.tup [(some [.m], .val), (none, .int .i64)])), .op 3 ⟨none, some 103, .mov (.t 106)⟩ false (.no), .op 4 ⟨none, some 107, .ext (.t 103) 0⟩ false (.no), .op 5 ⟨none, some 108, .ext (.t 103) 1⟩ false (.no), .op 6 ⟨none, some 18, .new [.i .i64 0, .i .i64 0, .nil]⟩ false (.sh (.one .val)), .op 7 ⟨none, none, .stb 18 18 3 (.t 107)⟩ false (.sh (.one .val)), .op 8 ⟨none, some 19, .mov (.t 108)⟩ false (.no)] [0, 1, 2, 3, 4, 5, 6, 7, 8, 9, 10, 11, 12, 13, 14, 15, 16, 18, 20, 21, 24, 37, 90]) (.seq (.ops [.op 0 ⟨none, some 110, .ldb 18 18 (some 3)⟩ false (.no), .op 1 ⟨none, some 111, .ldb 4 4 (some 2)⟩ false (.no), .op 2 ⟨none, some 112, .call false (.f 9) [.t 110, .t 111]⟩ false (.sh (.tup [(some [.m], .val), (none, .int .i64)])), .op 3 ⟨none, some 109, .mov (.t 112)⟩ false (.no), .op 4 ⟨none, some 113, .ext (.t 109) 0⟩ false (.no), .op 5 ⟨none, some 114, .ext (.t 109) 1⟩ false (.no), .op 6 ⟨none, some 20, .new [.i .i64 0, .i .i64 0, .nil]⟩ false (.sh (.one .val)), .op 7 ⟨none, none, .stb 20 20 3 (.t 113)⟩ false (.sh (.one .val)), .op 8 ⟨none, some 10, .mov (.t 114)⟩ false (.no)] [0, 1, 2, 3, 4, 5, 6, 7, 8, 9, 10, 11, 12, 13, 14, 15, 16, 18, 20, 21, 24, 37, 90]) (.seq (.ops [.op 0 ⟨none, some 116, .ldb 4 4 (some 2)⟩ false (.no), .op 2 ⟨none, some 118, .ldb 16 16 (some 3)⟩ false (.no), .op 7 ⟨none, some 21, .new [.i .i64 0, .i .i64 0, .nil]⟩ false (.sh (.one .val)), .op 1 ⟨none, some 117, .call false (.f 16) [.t 116]⟩ false (.sh (.agg [.z])), .op 3 ⟨none, some 119, .call false (.f 15) [.t 117, .t 118]⟩ false (.sh (.tup [(some [.m], .val), (none, .int .i64)])), .op 4 ⟨none, some 115, .mov (.t 119)⟩ false (.no), .op 5 ⟨none, some 120, .ext (.t 115) 0⟩ false (.no), .op 6 ⟨none, some 121, .ext (.t 115) 1⟩ false (.no), .op 8 ⟨none, none, .stb 21 21 3 (.t 120)⟩ false (.sh (.one .val)), .op 9 ⟨none, some 22, .mov (.t 121)⟩ false (.no)] [0, 1, 2, 3, 4, 5, 6, 7, 8, 9, 10, 11, 12, 13, 14, 15, 16, 18, 20, 21, 24, 37, 90]) (.seq (.ops [.op 0 ⟨none, some 122, .mov (.t 8)⟩ false (.no), .op 1 ⟨none, some 123, .bin .eql (.t 122) (.i .i64 0)⟩ false (.sh (.one .val)), .op 2 ⟨none, some 124, .mov (.t 123)⟩ false (.no), .grp ⟨[15, 16, 20, 21], [15, 16, 20, 21], [15, 16, 20, 21]⟩ [.t 127 (.bool)] [(3, ⟨some (124, true), some 125, .mov (.t 10)⟩, true, .no), (4, ⟨some (124, true), some 126, .bin .eql (.t 125) (.i .i64 0)⟩, false, .sh (.one .val)), (5, ⟨none, some 127, .pick (.t 124) (.t 126) (.b false)⟩, false, .no)], .op 6 ⟨none, some 128, .mov (.t 127)⟩ false (.no), .grp ⟨[20, 21], [20, 21], [20, 21]⟩ [.t 132 (.bool)] [(7, ⟨some (128, true), some 129, .ldb 15 15 (some 3)⟩, true, .no), (8, ⟨some (128, true), some 130, .ldb 16 16 (some 3)⟩, false, .no), (9, ⟨some (128, true), some 131, .call false (.f 12) [.t 129, .t 130]⟩, false, .sh (.one (.bool))), (10, ⟨none, some 132, .pick (.t 128) (.t 131) (.b false)⟩, false, .no)], .op 11 ⟨none, some 133, .mov (.t 132)⟩ false (.no), .grp ⟨[], [], []⟩ [.t 137 (.bool)] [(12, ⟨some (133, true), some 134, .ldb 20 20 (some 3)⟩, true, .no), (13, ⟨some (133, true), some 135, .ldb 21 21 (some 3)⟩, false, .no), (14, ⟨some (133, true), some 136, .call false (.f 12) [.t 134, .t 135]⟩, false, .sh (.one (.bool))), (15, ⟨none, some 137, .pick (.t 133) (.t 136) (.b false)⟩, false, .no)], .op 16 ⟨none, some 6, .mov (.t 137)⟩ false (.no)] [0, 1, 2, 3, 4, 5, 6, 7, 8, 9, 10, 11, 12, 13, 14, 15, 16, 18, 20, 21, 24, 37, 90]) (.ret))))))))))))))
def v_law19_ModhnfPeriods (x0 : M) (x1 : Z) (x2 : Z) (h : Hp) (R : Value → Hp → Prop) : Prop :=
  Tri Try.prog (.func (.func 6) #[] #[]) [] h fun r h1 => ∃ x23 : Bool, r = .bool x23 ∧
  ((!x23) = true →
    R (.bool false) h1
  ) ∧ ((!x23) = false →
    Tri Try.prog (.func (.func 7) #[] #[]) [x0.v] h1 fun r1 h2 => ∃ x26 : Int, r1 = .int .i64 x26 ∧
    ∀ J : Bool → Hp → Prop, (∀ x32 : Bool, ∀ h3 : Hp, (
      ∀ J1 : Bool → Hp → Prop, (∀ x37 : Bool, ∀ h4 : Hp, (
        (x37 = true →
          R (.bool true) h4
        ) ∧ (x37 = false →
          Tri Try.prog (.func (.func 9) #[] #[]) [x0.v, x1.v] h4 fun r2 h5 => ∃ x41a : M, ∃ x41b : Int, r2 = .tuple #[x41a.v, .int .i64 x41b] ∧
          Tri Try.prog (.func (.func 10) #[] #[]) [x1.v] h5 fun r3 h6 => ∃ x47 : Z, r3 = x47.v ∧
          Tri Try.prog (.func (.func 9) #[] #[]) [x0.v, x47.v] h6 fun r4 h7 => ∃ x48a : M, ∃ x48b : Int, r4 = .tuple #[x48a.v, .int .i64 x48b] ∧
          Tri Try.prog (.func (.func 11) #[] #[]) [x1.v, x2.v] h7 fun r5 h8 => ∃ x55 : Z, r5 = x55.v ∧
          Tri Try.prog (.func (.func 9) #[] #[]) [x0.v, x55.v] h8 fun r6 h9 => ∃ x56a : M, ∃ x56b : Int, r6 = .tuple #[x56a.v, .int .i64 x56b] ∧
          Tri Try.prog (.func (.func 9) #[] #[]) [x56a.v, x1.v] h9 fun r7 h10 => ∃ x62a : M, ∃ x62b : Int, r7 = .tuple #[x62a.v, .int .i64 x62b] ∧
          ∀ J2 : Bool → Hp → Prop, (∀ x70 : Bool, ∀ h11 : Hp, (
            ∀ J3 : Bool → Hp → Prop, (∀ x74 : Bool, ∀ h12 : Hp, (
              ∀ J4 : Bool → Hp → Prop, (∀ x78 : Bool, ∀ h13 : Hp, (
                ∀ J5 : Bool → Hp → Prop, (∀ x84 : Bool, ∀ h14 : Hp, (
                  ∀ J6 : Bool → Hp → Prop, (∀ x90 : Bool, ∀ h15 : Hp, (
                    (x90 = true →
                      R (.bool false) h15
                    ) ∧ (x90 = false →
                      Tri Try.prog (.func (.func 13) #[] #[]) [.int .u64 1] h15 fun r8 h16 => ∃ x93 : Z, r8 = x93.v ∧
                      Tri Try.prog (.func (.func 9) #[] #[]) [x0.v, x93.v] h16 fun r9 h17 => ∃ x94a : M, ∃ x94b : Int, r9 = .tuple #[x94a.v, .int .i64 x94b] ∧
                      Tri Try.prog (.func (.func 14) #[] #[]) [.int .i64 x0.cols] h17 fun r10 h18 => ∃ x100a : M, ∃ x100b : Int, r10 = .tuple #[x100a.v, .int .i64 x100b] ∧
                      Tri Try.prog (.func (.func 15) #[] #[]) [x1.v, x0.v] h18 fun r11 h19 => ∃ x106a : M, ∃ x106b : Int, r11 = .tuple #[x106a.v, .int .i64 x106b] ∧
                      Tri Try.prog (.func (.func 9) #[] #[]) [x106a.v, x1.v] h19 fun r12 h20 => ∃ x112a : M, ∃ x112b : Int, r12 = .tuple #[x112a.v, .int .i64 x112b] ∧
                      Tri Try.prog (.func (.func 16) #[] #[]) [x1.v] h20 fun r13 h21 => ∃ x117 : Z, r13 = x117.v ∧
                      Tri Try.prog (.func (.func 15) #[] #[]) [x117.v, x100a.v] h21 fun r14 h22 => ∃ x119a : M, ∃ x119b : Int, r14 = .tuple #[x119a.v, .int .i64 x119b] ∧
                      ∀ J7 : Bool → Hp → Prop, (∀ x127 : Bool, ∀ h23 : Hp, (
                        ∀ J8 : Bool → Hp → Prop, (∀ x132 : Bool, ∀ h24 : Hp, (
                          ∀ J9 : Bool → Hp → Prop, (∀ x137 : Bool, ∀ h25 : Hp, (
                            R (.bool x137) h25
                          ) → J9 x137 h25) →
                          (x132 = true →
                          Tri Try.prog (.func (.func 12) #[] #[]) [x112a.v, x119a.v] h24 fun r15 h26 => ∃ x136 : Bool, r15 = .bool x136 ∧
                          J9 x136 h26
                          ) ∧ (x132 = false →
                          J9 false h24
                          )
                        ) → J8 x132 h24) →
                        (x127 = true →
                        Tri Try.prog (.func (.func 12) #[] #[]) [x94a.v, x100a.v] h23 fun r16 h27 => ∃ x131 : Bool, r16 = .bool x131 ∧
                        J8 x131 h27
                        ) ∧ (x127 = false →
                        J8 false h23
                        )
                      ) → J7 x127 h23) →
                      ((decide (x94b = 0)) = true →
                      J7 (decide (x112b = 0)) h22
                      ) ∧ ((decide (x94b = 0)) = false →
                      J7 false h22
                      )
                    )
                  ) → J6 x90 h15) →
                  (x84 = true →
                  J6 true h14
                  ) ∧ (x84 = false →
                  Tri Try.prog (.func (.func 12) #[] #[]) [x41a.v, x62a.v] h14 fun r17 h28 => ∃ x88 : Bool, r17 = .bool x88 ∧
                  J6 (!x88) h28
                  )
                ) → J5 x84 h14) →
                (x78 = true →
                J5 true h13
                ) ∧ (x78 = false →
                Tri Try.prog (.func (.func 12) #[] #[]) [x41a.v, x48a.v] h13 fun r18 h29 => ∃ x82 : Bool, r18 = .bool x82 ∧
                J5 (!x82) h29
                )
              ) → J4 x78 h13) →
              (x74 = true →
              J4 true h12
              ) ∧ (x74 = false →
              J4 (!decide (x62b = 0)) h12
              )
            ) → J3 x74 h12) →
            (x70 = true →
            J3 true h11
            ) ∧ (x70 = false →
            J3 (!decide (x56b = 0)) h11
            )
          ) → J2 x70 h11) →
          ((!decide (x41b = 0)) = true →
          J2 true h10
          ) ∧ ((!decide (x41b = 0)) = false →
          J2 (!decide (x48b = 0)) h10
          )
        )
      ) → J1 x37 h4) →
      (x32 = true →
      J1 true h3
      ) ∧ (x32 = false →
      Tri Try.prog (.func (.func 8) #[] #[]) [x2.v] h3 fun r19 h30 => ∃ x35 : Int, r19 = .int .i64 x35 ∧
      J1 (decide (x35 = 0)) h30
      )
    ) → J x32 h3) →
    ((!decide (x26 = 0)) = true →
    J true h2
    ) ∧ ((!decide (x26 = 0)) = false →
    Tri Try.prog (.func (.func 8) #[] #[]) [x1.v] h2 fun r20 h31 => ∃ x30 : Int, r20 = .int .i64 x30 ∧
    J (decide (x30 = 0)) h31
    )
  )
set_option maxRecDepth 100000 in
theorem t_law19_ModhnfPeriods {x0 : M} {x1 : Z} {x2 : Z} {h : Hp} {R : Value → Hp → Prop} (hv : v_law19_ModhnfPeriods x0 x1 x2 h R) : Tri Try.prog (.func (.func 3) #[] #[]) [x0.v, x1.v, x2.v] h R :=
  tri_of_vc mixed Try.func3 (d := d_law19_ModhnfPeriods) (RM := [(3, 3), (4, 4), (5, 5), (7, 7), (9, 9), (11, 11), (13, 13), (15, 15), (16, 16), (18, 18), (20, 20), (21, 21), (98, 3)]) (rvs := [.tmp 6]) (args := [x0.v, x1.v, x2.v]) (caps := []) (by kernel_rfl) Try.ntmps3 (V := v_law19_ModhnfPeriods x0 x1 x2 h R) (by kernel_rfl) (by simp) hv

end Go.Proofs.Ytmfafadchpglgaa

/- Turn and Pick; the elimination of one entry. -/
namespace Go.Proofs.Ytmfafadchpglgaa
set_option maxRecDepth 20000

/-- A slice of ints. -/
def ii (i : Nat) : Value := .int .i64 (i : Nat)
structure IsS (h : Hp) (s : Sl) (is : List Nat) : Prop where
  seg : Seg h s 1 (is.map ii)
  cap : s.n ≤ s.c
theorem IsS.le {h h' : Hp} {s : Sl} {is : List Nat} (g : IsS h s is) (l : h.le h') : IsS h' s is := ⟨g.seg.le l, g.cap⟩
theorem IsS.len {h : Hp} {s : Sl} {is : List Nat} (g : IsS h s is) : s.n = is.length := by have := g.seg.len; simp at this; omega
theorem IsS.isS {h : Hp} {s : Sl} {is : List Nat} (g : IsS h s is) (hv : 0 < is.length) : s.a.isSome = true := g.seg.isS (by simpa using hv)
theorem IsS.ld {h : Hp} {s : Sl} {is : List Nat} (g : IsS h s is) {j : Int} (h0 : 0 ≤ j) (h1 : j < is.length) : hld h (elemA s.a j 1) none = some (.int .i64 ((is.getD j.toNat 0 : Nat) : Int)) := by
  have hj : j.toNat < is.length := by omega
  rw [g.seg.ld h0 (by simpa using h1)]
  simp [ii, hj]

theorem getD_mem {ns : List Int} {i : Nat} (h : i < ns.length) : ns.getD i 0 ∈ ns := by simp [List.getD, h]

theorem ldM {h : Hp} {b : Nat} {m : M} {wr : Bool} (hb : h b = some ⟨[.int .i64 m.rows, .int .i64 m.cols, m.el.v], wr⟩) :
    hld h (blkA b) (some 3) = some m.v ∧ hld h ((blkA b).add 0) none = some (.int .i64 m.rows) ∧ hld h ((blkA b).add 1) none = some (.int .i64 m.cols) ∧ hld h ((blkA b).add 2) none = some m.el.v := by
  refine ⟨?_, ?_, ?_, ?_⟩ <;> simp only [add_none, hld, if_true, hb, Option.bind_some, cld] <;> rfl
theorem ldS {h : Hp} {b : Nat} {s : Sl} {wr : Bool} (hb : h b = some ⟨[s.v], wr⟩) : hld h (blkA b) none = some s.v := by
  simp only [hld, if_true, hb, Option.bind_some, cld] <;> rfl

theorem mat_Turn {c : Bool} {h : Hp} {m : M} {r k : Nat} {ns : List Int} (g : Mx c h m r k ns) (hs : ∀ x ∈ ns, Sz x) :
    Tri Try.prog (.func (.func 85) #[] #[]) [m.v] h fun v h' => h.le h' ∧ ∃ m' : M, v = .tuple #[m'.v, .int .i64 0] ∧ Mx true h' m' k r (flatM r (fun i j => ns.getD (j * k + i) 0) k) := by
  refine t_mat_Turn ?_
  rintro b h1 hb rfl
  have l1 : h.le (h.up b ⟨[.int .i64 m.rows, .int .i64 m.cols, m.el.v], true⟩) := Hp.le_up _ hb
  have hbv := up_get h b ⟨[.int .i64 m.rows, .int .i64 m.cols, m.el.v], true⟩
  generalize h.up b ⟨[.int .i64 m.rows, .int .i64 m.cols, m.el.v], true⟩ = h1 at *
  refine ⟨m, (ldM hbv).1, (mat_Check m).const ?_⟩
  refine ⟨_, rfl, fun hc => ?_, fun _ => ?_⟩
  · rw [g.ok] at hc; simp at hc
  refine ⟨_, (ldM hbv).2.2.1, _, (ldM hbv).2.1, ?_⟩
  rw [g.rows, g.cols]
  have hl := g.row.len
  have hgl := g.len
  refine (mat_build (F := fun i j => ns.getD (j * k + i) 0) g.k64 g.r64 fun h2 i j l hi hj => ?_).mono ?_
  · have hjk : (j + 1) * k ≤ r * k := Nat.mul_le_mul_right _ hj
    rw [Nat.add_mul, Nat.one_mul] at hjk
    have hrk : r * k ≤ 64 * 64 := Nat.mul_le_mul g.r64 g.k64
    have hb2 := l _ _ hbv
    refine t_mat_Turn_1 ⟨_, (ldM hb2).2.2.2, _, (ldM hb2).2.2.1, fun x11 e11 x13 e13 => ?_⟩
    rw [g.cols, ← Int.natCast_mul, i64w (by omega) (by omega)] at e11
    subst e11
    rw [← Int.natCast_add, i64w (by omega) (by omega)] at e13
    subst e13
    obtain ⟨z, ld, gz⟩ := (g.row.le (Hp.le_trans l1 l)).ld (j := ((j * k + i : Nat) : Int)) (by omega) (by omega)
    rw [Int.toNat_natCast] at gz
    refine ⟨by omega, by omega, g.row.isS (by omega), z, ld, (zint_Least gz.zs).mono ?_⟩
    rintro _ h3 ⟨l3, w, rfl, hw⟩
    refine ⟨w, rfl, l3, w, rfl, hw.ze ?_ true⟩
    exact hs _ (by simp [List.getD, (by omega : j * k + i < ns.length)])
  · rintro _ h2 ⟨l2, m', rfl, gm⟩
    exact ⟨m', rfl, Hp.le_trans l1 l2, m', rfl, gm⟩

set_option maxHeartbeats 1000000 in
theorem mat_Pick {c : Bool} {h : Hp} {m : M} {r k : Nat} {ns : List Int} {s t : Sl} {is js : List Nat} (g : Mx c h m r k ns) (hs : ∀ x ∈ ns, Sz x) (gi : IsS h s is) (gj : IsS h t js) (hi : ∀ i ∈ is, i < r) (hj : ∀ j ∈ js, j < k) (li : is.length ≤ 64) (lj : js.length ≤ 64) :
    Tri Try.prog (.func (.func 46) #[] #[]) [m.v, s.v, t.v] h fun v h' => h.le h' ∧ ∃ m' : M, v = .tuple #[m'.v, .int .i64 0] ∧ Mx true h' m' is.length js.length (flatM js.length (fun i j => ns.getD (is.getD i 0 * k + js.getD j 0) 0) is.length) := by
  refine t_mat_Pick ?_
  rintro b h1 hb rfl b1 h2 hb1 h2e b2 h3 hb2 h3e
  have l1 : h.le (h.up b ⟨[.int .i64 m.rows, .int .i64 m.cols, m.el.v], true⟩) := Hp.le_up _ hb
  have v1 := up_get h b ⟨[.int .i64 m.rows, .int .i64 m.cols, m.el.v], true⟩
  have l2 : (h.up b ⟨[.int .i64 m.rows, .int .i64 m.cols, m.el.v], true⟩).le h2 := by rw [h2e]; exact Hp.le_up _ hb1
  have v2 : h2 b1 = some ⟨[s.v], true⟩ := by rw [h2e]; exact up_get _ _ _
  have l3 : h2.le h3 := by rw [h3e]; exact Hp.le_up _ hb2
  have v3 : h3 b2 = some ⟨[t.v], true⟩ := by rw [h3e]; exact up_get _ _ _
  have l03 : h.le h3 := Hp.le_trans l1 (Hp.le_trans l2 l3)
  have w1 := l3 _ _ (l2 _ _ v1)
  have w2 := l3 _ _ v2
  clear h3e h2e hb hb1 hb2 v1 v2 l1 l2 l3
  have ni := gi.len
  have nj := gj.len
  refine ⟨m, (ldM w1).1, (mat_Check m).const ?_⟩
  refine ⟨_, rfl, fun hc => ?_, fun _ => ?_⟩
  · rw [g.ok] at hc; simp at hc
  refine ⟨s, ldS w2, fun x y h' => 0 ≤ x ∧ x ≤ is.length ∧ h' = h3, fun x _ _ => is.length - x.toNat, ⟨by omega, by omega, rfl⟩, ?_⟩
  rintro x y h' ⟨x0, x1, hh⟩
  rw [hh]
  refine ⟨fun hc => ?_, fun hc => ?_⟩
  · simp only [decide_eq_true_eq] at hc
    have hxm := hi (is.getD x.toNat 0) (by simp [List.getD, (by omega : x.toNat < is.length)])
    refine ⟨x0, hc, gi.isS (by omega), _, (gi.le l03).ld x0 (by omega), fun J hJ => ?_⟩
    have key : J false h3 := by
      refine hJ _ _ ⟨fun hc => (by cases hc), fun _ x34 e => ?_⟩
      rw [i64w (by omega) (by omega)] at e
      exact ⟨⟨by omega, by omega, rfl⟩, by dsimp only; omega⟩
    refine ⟨fun hc => ?_, fun _ => ⟨_, (ldM w1).2.1, ?_⟩⟩
    · simp only [decide_eq_true_eq] at hc; omega
    · have : decide (m.rows ≤ ((is.getD x.toNat 0 : Nat) : Int)) = false := by rw [g.rows]; simp only [decide_eq_false_iff_not]; omega
      rw [this]; exact key
  · refine ⟨t, ldS v3, fun x y h' => 0 ≤ x ∧ x ≤ js.length ∧ h' = h3, fun x _ _ => js.length - x.toNat, ⟨by omega, by omega, rfl⟩, ?_⟩
    clear hc x0 x1 hh
    rintro x y h' ⟨x0, x1, hh⟩
    rw [hh]
    refine ⟨fun hc => ?_, fun hc => ?_⟩
    · simp only [decide_eq_true_eq] at hc
      have hxm := hj (js.getD x.toNat 0) (by simp [List.getD, (by omega : x.toNat < js.length)])
      refine ⟨x0, hc, gj.isS (by omega), _, (gj.le l03).ld x0 (by omega), fun J hJ => ?_⟩
      have key : J false h3 := by
        refine hJ _ _ ⟨fun hc => (by cases hc), fun _ x34 e => ?_⟩
        rw [i64w (by omega) (by omega)] at e
        exact ⟨⟨by omega, by omega, rfl⟩, by dsimp only; omega⟩
      refine ⟨fun hc => ?_, fun _ => ⟨_, (ldM w1).2.2.1, ?_⟩⟩
      · simp only [decide_eq_true_eq] at hc; omega
      · have : decide (m.cols ≤ ((js.getD x.toNat 0 : Nat) : Int)) = false := by rw [g.cols]; simp only [decide_eq_false_iff_not]; omega
        rw [this]; exact key
    · clear hc x0 x1 hh
      refine ⟨s, ldS w2, fun J hJ => ?_⟩
      have key : J false h3 := by
        refine hJ _ _ ⟨fun hc => (by cases hc), fun _ => ⟨s, ldS w2, t, ldS v3, ?_⟩⟩
        rw [ni, nj]
        refine (mat_build (F := fun i j => ns.getD (is.getD i 0 * k + js.getD j 0) 0) li lj fun h4 i j l hi' hj' => ?_).mono ?_
        · have hl := g.row.len
          have hgl := g.len
          have a1 := hi (is.getD i 0) (by simp [List.getD, hi'])
          have a2 := hj (js.getD j 0) (by simp [List.getD, hj'])
          have hjk : (is.getD i 0 + 1) * k ≤ r * k := Nat.mul_le_mul_right _ a1
          rw [Nat.add_mul, Nat.one_mul] at hjk
          have hrk : r * k ≤ 64 * 64 := Nat.mul_le_mul g.r64 g.k64
          refine t_mat_Pick_1 ⟨_, (ldM (l _ _ w1)).2.2.2, s, ldS (l _ _ w2), by omega, by omega, gi.isS (by omega), _, (gi.le (Hp.le_trans l03 l)).ld (j := (i : Int)) (by omega) (by omega), _, (ldM (l _ _ w1)).2.2.1, fun x16 e16 => ⟨t, ldS (l _ _ v3), by omega, by omega, gj.isS (by omega), _, (gj.le (Hp.le_trans l03 l)).ld (j := (j : Int)) (by omega) (by omega), fun x21 e21 => ?_⟩⟩
          rw [Int.toNat_natCast] at e16 e21
          rw [g.cols, ← Int.natCast_mul, i64w (by omega) (by omega)] at e16
          subst e16
          rw [← Int.natCast_add, i64w (by omega) (by omega)] at e21
          subst e21
          obtain ⟨z, ld, gz⟩ := (g.row.le (Hp.le_trans l03 l)).ld (j := ((is.getD i 0 * k + js.getD j 0 : Nat) : Int)) (by omega) (by omega)
          rw [Int.toNat_natCast] at gz
          refine ⟨by omega, by omega, g.row.isS (by omega), z, ld, (zint_Least gz.zs).mono ?_⟩
          rintro _ h5 ⟨l5, w, rfl, hw⟩
          refine ⟨l5, w, rfl, l5, w, rfl, hw.ze ?_ true⟩
          exact hs _ (getD_mem (by omega))
        · rintro _ h4 ⟨l4, m', rfl, gm⟩
          exact ⟨m', rfl, Hp.le_trans l03 l4, m', rfl, gm⟩
      refine ⟨fun hc => ?_, fun _ => ⟨t, ldS v3, ?_⟩⟩
      · simp only [decide_eq_true_eq] at hc; omega
      · have : decide (64 < (t.n : Int)) = false := by simp only [decide_eq_false_iff_not]; omega
        rw [this]; exact key

theorem modhnf_upTo {h : Hp} {n : Nat} (hn : n ≤ 64) : Tri Try.prog (.func (.func 47) #[] #[]) [.int .i64 (n : Nat)] h fun v h' => h.le h' ∧ ∃ s : Sl, v = s.v ∧ IsS h' s (List.range n) := by
  refine t_modhnf_upTo ⟨by omega, by omega, by omega, by omega, ?_⟩
  rintro b h1 hb rfl
  rw [Int.toNat_natCast]
  refine ⟨fun i h2 => ∃ I : Nat, i = I ∧ I ≤ n ∧ h.le h2 ∧ h2 b = some ⟨(List.range I).map ii ++ List.replicate (n - I) (ii 0), true⟩, fun i _ => n - i.toNat, ⟨0, rfl, by omega, Hp.le_up _ hb, ?_⟩, ?_⟩
  · rw [up_get, mkCells1]; rfl
  rintro _ h2 ⟨I, rfl, hI, l2, v2⟩
  refine ⟨fun hc => ?_, fun hc => ?_⟩
  · simp only [decide_eq_true_eq] at hc
    refine ⟨by omega, by omega, rfl, _, hst_blk v2 (by omega) (by simp; omega), fun x e => ?_⟩
    rw [i64w (by omega) (by omega)] at e
    subst e
    refine ⟨⟨I + 1, by omega, by omega, le_up_of_none hb l2, ?_⟩, by dsimp only; omega⟩
    rw [up_get]
    congr 2
    obtain ⟨q, hq⟩ : ∃ q, n - I = q + 1 := ⟨n - I - 1, by omega⟩
    rw [Int.toNat_natCast, List.set_append_right _ _ (by simp), show n - (I + 1) = q by omega, hq, List.replicate_succ, List.range_succ, List.map_append, List.append_assoc]
    simp [ii]
  · simp only [decide_eq_false_iff_not] at hc
    have hIn : I = n := by omega
    subst hIn
    rw [Nat.sub_self, List.replicate_zero, List.append_nil] at v2
    refine ⟨l2, ⟨some (blkA b), I, I⟩, rfl, ⟨by simp, fun _ => ⟨b, 0, _, rfl, v2, by simp, by rw [List.drop_zero, List.take_length]⟩⟩, Nat.le_refl _⟩

end Go.Proofs.Ytmfafadchpglgaa

/- The elimination of one entry; Volume of one entry; awake. -/
namespace Go.Proofs.Ytmfafadchpglgaa
set_option maxRecDepth 20000

/-- The elimination's field in memory: one row of one entry. -/
structure Fld1 (h0 h : Hp) (bb : Nat) (x p : Int) (top : Int) : Prop where
  le : h0.le h
  n0 : h0 bb = none
  ex : ∃ (rs xs : Sl) (kr k : Nat) (tl : List Value) (pz : Z), h bb = some ⟨[rs.v, xs.v, .bool false, .bool pz.neg, pz.mag.v, .int .i64 top], true⟩ ∧ Ze false h pz p ∧ rs.a = some (blkA kr) ∧ rs.n = 1 ∧ 1 ≤ rs.c ∧ h kr = some ⟨rowV 1 k :: tl, true⟩ ∧ RowB false h k [x] ∧ kr ≠ bb ∧ k ≠ bb

theorem noi_fld {h : Hp} {b : Nat} {rs xs : Sl} {sg ng : Bool} {m : Sl} {top : Int} {wr : Bool} (hb : h b = some ⟨[rs.v, xs.v, .bool sg, .bool ng, m.v, .int .i64 top], wr⟩) : NoI h b := by
  refine NoI.of hb fun v hv => ?_
  simp only [List.mem_cons, List.not_mem_nil, or_false] at hv
  rcases hv with rfl | rfl | rfl | rfl | rfl | rfl <;> (intro n e; cases e)

theorem ldF {h : Hp} {b : Nat} {rs xs m : Sl} {sg ng : Bool} {top : Int} {wr : Bool} (hb : h b = some ⟨[rs.v, xs.v, .bool sg, .bool ng, m.v, .int .i64 top], wr⟩) :
    hld h ((blkA b).add 0) none = some rs.v ∧ hld h ((blkA b).add 1) none = some xs.v ∧ hld h ((blkA b).add 2) none = some (.bool sg) ∧ hld h ((blkA b).add 3) (some 2) = some (Z.v ⟨ng, m⟩) ∧ hld h ((blkA b).add 5) none = some (.int .i64 top) := by
  refine ⟨?_, ?_, ?_, ?_, ?_⟩ <;> simp only [add_none, hld, if_true, hb, Option.bind_some, cld] <;> rfl

set_option maxHeartbeats 1000000 in
theorem bareiss_of1 {c : Bool} {h : Hp} {m : M} {x : Int} (g : Mx c h m 1 1 [x]) (hs : Sz x) :
    Tri Try.prog (.func (.func 64) #[] #[]) [m.v] h fun v h' => h.le h' ∧ ∃ bb, v = .pointer (some (blkA bb)) ∧ Fld1 h h' bb x 1 0 := by
  refine t_bareiss_of ((zint_Of (by decide) (by decide)).mono ?_)
  rintro _ h1 ⟨l1, z6, rfl, hz⟩
  refine ⟨z6, rfl, ?_⟩
  rintro b h2 hb rfl
  have hb0 : h b = none := Hp.none_of_le l1 hb
  have l2 : h1.le (h1.up b ⟨[.slice none 0 0, .slice none 0 0, .bool false, .bool z6.neg, z6.mag.v, .int .i64 0], true⟩) := Hp.le_up _ hb
  have v2 := up_get h1 b ⟨[.slice none 0 0, .slice none 0 0, .bool false, .bool z6.neg, z6.mag.v, .int .i64 0], true⟩
  have g2 := (hz.ze Zs_one_sz false).le l2
  generalize h1.up b ⟨[.slice none 0 0, .slice none 0 0, .bool false, .bool z6.neg, z6.mag.v, .int .i64 0], true⟩ = h2 at *
  have l02 := Hp.le_trans l1 l2
  refine (mat_Lines (g.le l02) (fun y hy => by rw [List.mem_singleton] at hy; rw [hy]; exact hs)).mono ?_
  rintro _ h3 ⟨l3, f, p, q, rfl, hit⟩
  have v3 := l3 _ _ v2
  have nb3 : NoI h3 b := noi_fld (rs := ⟨none, 0, 0⟩) (xs := ⟨none, 0, 0⟩) v3
  have l0m : h.le (delL h3 [b]) := le_delL (Hp.le_trans l02 l3) fun k hk => by rw [List.mem_singleton] at hk; rw [hk]; exact hb0
  have gm : Ze false (delL h3 [b]) z6 1 := (g2.le l3).del nb3
  have hbm : delL h3 [b] b = none := by rw [delL_get, if_pos (by simp)]
  have hit' := hit [b] fun k hk => by rw [List.mem_singleton] at hk; rw [hk]; exact ⟨(by rw [v2]; exact fun e => nomatch e), nb3⟩
  have lm : (delL h3 [b]).le h3 := delL_le _ _
  generalize delL h3 [b] = hm at *
  refine ⟨f, p, q, rfl, hm, 1, _, hit', fun i h' => hm.le h' ∧ ((i = 0 ∧ h' b = some ⟨[.slice none 0 0, .slice none 0 0, .bool false, .bool z6.neg, z6.mag.v, .int .i64 0], true⟩) ∨ (i = 1 ∧ Fld1 h h' b x 1 0)), ⟨lm, Or.inl ⟨rfl, v3⟩⟩, fun i h' hj => hj.1, ?_, ?_⟩
  · rintro i h5 hi ⟨l5, hj⟩ x31 x32 h6 ⟨rfl, kb, rfl, nkb, gkb⟩ l6
    have hi0 : i = 0 := by omega
    subst hi0
    rcases hj with ⟨_, v5⟩ | ⟨h', _⟩
    · have hr : rowOf [x] 1 0 = [x] := rfl
      rw [hr] at gkb
      have nkbb : kb ≠ b := by rintro rfl; rw [nkb] at v5; cases v5
      have v6 := l6 _ _ v5
      refine ⟨⟨none, 0, 0⟩, (ldF (rs := ⟨none, 0, 0⟩) (xs := ⟨none, 0, 0⟩) v6).1, ?_⟩
      rintro b1 h7 hb1 rfl
      have l7 : h6.le (h6.up b1 ⟨[(⟨some (blkA kb), 1, 1⟩ : Sl).v], true⟩) := Hp.le_up _ hb1
      have v7' := up_get h6 b1 ⟨[(⟨some (blkA kb), 1, 1⟩ : Sl).v], true⟩
      generalize h6.up b1 ⟨[(⟨some (blkA kb), 1, 1⟩ : Sl).v], true⟩ = h7 at *
      have v7 := l7 _ _ v6
      refine ⟨[rowV 1 kb], ?_, ?_⟩
      · have sg : Seg h7 ⟨some (blkA b1), 1, 1⟩ 1 [rowV 1 kb] := ⟨rfl, fun _ => ⟨b1, 0, _, rfl, v7', by simp, by simp [rowV, Sl.v]⟩⟩
        exact sg.first (m := 1) (Nat.le_refl 1) (by decide) (fun v hv => by rw [List.mem_singleton] at hv; rw [hv]; rfl)
      refine app_grow (h0 := h7) (s := ⟨none, 0, 0⟩) (vs := []) (Or.inl ⟨rfl, rfl⟩) (Hp.le_refl _) (by decide) (fun v hv => by simp at hv) rfl rfl (by decide) (by decide) ?_
      intro rs h8 _ l8 g8 n8
      refine ⟨rs, rfl, ?_⟩
      have v8 := l8 _ _ v7
      refine ⟨_, hst_at (b := b) (off := 0) v8 (by simp), ?_⟩
      have e9 : setAt [Value.slice none 0 0, .slice none 0 0, .bool false, .bool z6.neg, z6.mag.v, .int .i64 0] 0 [rs.v] = [rs.v, .slice none 0 0, .bool false, .bool z6.neg, z6.mag.v, .int .i64 0] := rfl
      rw [e9]
      have nb8 : NoI h8 b := noi_fld (rs := ⟨none, 0, 0⟩) (xs := ⟨none, 0, 0⟩) v8
      have v9 := up_get h8 b ⟨[rs.v, .slice none 0 0, .bool false, .bool z6.neg, z6.mag.v, .int .i64 0], true⟩
      -- the list of rows
      rcases g8 with ⟨_, hv⟩ | ⟨kr, tl, e1, e2, e3, e4, e5, e6, e7⟩
      · simp at hv
      have nkr : kr ≠ b := by rintro rfl; rw [e2] at v7; cases v7
      have hm8 : hm.le h8 := Hp.le_trans l5 (Hp.le_trans l6 (Hp.le_trans l7 l8))
      have gk8 : RowB false h8 kb [x] := (((gkb.weak).le l7).le l8)
      have hm9 : hm.le (h8.up b ⟨[rs.v, .slice none 0 0, .bool false, .bool z6.neg, z6.mag.v, .int .i64 0], true⟩) := le_up_of_none hbm hm8
      have gk9 := gk8.up nkbb nb8 ⟨[rs.v, .slice none 0 0, .bool false, .bool z6.neg, z6.mag.v, .int .i64 0], true⟩
      have kr9 : h8.up b ⟨[rs.v, .slice none 0 0, .bool false, .bool z6.neg, z6.mag.v, .int .i64 0], true⟩ kr = some ⟨rowV 1 kb :: tl, true⟩ := by rw [Hp.up_other _ _ nkr]; exact e3
      generalize h8.up b ⟨[rs.v, .slice none 0 0, .bool false, .bool z6.neg, z6.mag.v, .int .i64 0], true⟩ = h9 at *
      refine ⟨⟨none, 0, 0⟩, (ldF (xs := ⟨none, 0, 0⟩) v9).2.1, ?_⟩
      rintro b2 h10 hb2 rfl
      have l10 : h9.le (h9.up b2 ⟨[.int .i64 (0 : Nat)], true⟩) := Hp.le_up _ hb2
      have v10' := up_get h9 b2 ⟨[.int .i64 (0 : Nat)], true⟩
      generalize h9.up b2 ⟨[.int .i64 (0 : Nat)], true⟩ = h10 at *
      refine ⟨[.int .i64 (0 : Nat)], ?_, ?_⟩
      · have sg : Seg h10 ⟨some (blkA b2), 1, 1⟩ 1 [.int .i64 (0 : Nat)] := ⟨rfl, fun _ => ⟨b2, 0, _, rfl, v10', by simp, by simp⟩⟩
        exact sg.first (m := 1) (Nat.le_refl 1) (by decide) (fun v hv => by rw [List.mem_singleton] at hv; rw [hv]; rfl)
      refine app_grow (h0 := h10) (s := ⟨none, 0, 0⟩) (vs := []) (Or.inl ⟨rfl, rfl⟩) (Hp.le_refl _) (by decide) (fun v hv => by simp at hv) rfl rfl (by decide) (by decide) ?_
      intro xs h11 _ l11 g11 n11
      refine ⟨xs, rfl, ?_⟩
      have v11 := l11 _ _ (l10 _ _ v9)
      refine ⟨_, hst_at (b := b) (off := 1) v11 (by simp), ?_⟩
      have e12 : setAt [rs.v, .slice none 0 0, .bool false, .bool z6.neg, z6.mag.v, .int .i64 0] 1 [xs.v] = [rs.v, xs.v, .bool false, .bool z6.neg, z6.mag.v, .int .i64 0] := rfl
      rw [e12]
      have nb11 : NoI h11 b := noi_fld (xs := ⟨none, 0, 0⟩) v11
      have l911 := Hp.le_trans l10 l11
      have hm12 : hm.le (h11.up b ⟨[rs.v, xs.v, .bool false, .bool z6.neg, z6.mag.v, .int .i64 0], true⟩) := le_up_of_none hbm (Hp.le_trans hm9 l911)
      refine ⟨hm12, Or.inr ⟨rfl, Hp.le_trans l0m hm12, hb0, rs, xs, kr, kb, tl, z6, up_get _ _ _, gm.le hm12, e1, by omega, by omega, ?_, (gk9.le l911).up nkbb nb11 _, nkr, nkbb⟩⟩
      rw [Hp.up_other _ _ nkr]
      exact l911 _ _ kr9
    · omega
  · rintro h7 ⟨l7, hj⟩
    rcases hj with ⟨h', _⟩ | ⟨_, hF⟩
    · omega
    · exact ⟨hF.le, b, rfl, hF⟩

theorem bareiss_step1 {h0 h : Hp} {bb : Nat} {x p : Int} (F : Fld1 h0 h bb x p 0) (hx : x ≠ 0) :
    Tri Try.prog (.func (.func 84) #[] #[]) [.pointer (some (blkA bb)), .int .i64 0] h fun v h' => v = .bool true ∧ Fld1 h0 h' bb x x 1 := by
  obtain ⟨rs, xs, kr, k, tl, pz, v, gp, e1, e2, e3, vr, gk, n1, n2⟩ := F.ex
  have L := ldF v
  have ldr : hld h (elemA rs.a 0 1) none = some (rowV 1 k) := by
    rw [e1, elemA_some]
    simp only [hld, if_true, vr, Option.bind_some, cld]; rfl
  have gr : RowS false h ⟨some (blkA k), 1, 1⟩ [x] := gk.row (cc := 1) (Nat.le_refl _)
  obtain ⟨z, ldz, gz⟩ := gr.ld (j := 0) (by decide) (by simp)
  have gz' : Ze false h z x := gz
  refine t_bareiss_field_step ⟨_, L.2.2.2.2, fun i h' => i = 0 ∧ h' = h, fun _ _ => 0, ⟨rfl, rfl⟩, ?_⟩
  rintro _ h' ⟨rfl, hh⟩
  rw [hh]
  refine ⟨rs, L.1, fun J hJ => ?_⟩
  have key : J false h := by
    refine hJ _ _ ⟨fun hc => (by cases hc), fun _ => ⟨rs, L.1, fun hc => ?_, fun _ J1 hJ1 => ?_⟩⟩
    · simp only [decide_eq_true_eq] at hc; omega
    have key1 : J1 h := by
      refine hJ1 _ ⟨rs, L.1, by omega, by omega, by rw [e1]; rfl, ⟨some (blkA k), 1, 1⟩, ldr, rs, L.1, fun x123 e => ?_⟩
      rw [i64w (by omega) (by omega)] at e
      subst e
      refine ⟨by omega, by omega, by omega, by omega, fun i h' => i = 0 ∧ h' = h, fun _ _ => 0, ⟨rfl, rfl⟩, ?_⟩
      rintro _ h' ⟨rfl, hh⟩
      rw [hh]
      refine ⟨fun hc => ?_, fun _ => ?_⟩
      · simp only [decide_eq_true_eq] at hc; omega
      refine ⟨by omega, by dsimp only; omega, rfl, z, ldz, _, hst_at (b := bb) (off := 3) v (by simp), ?_⟩
      have ee : setAt [rs.v, xs.v, Value.bool false, .bool pz.neg, pz.mag.v, .int .i64 0] 3 [.bool z.neg, z.mag.v] = [rs.v, xs.v, .bool false, .bool z.neg, z.mag.v, .int .i64 0] := rfl
      rw [ee]
      have v1 := up_get h bb ⟨[rs.v, xs.v, .bool false, .bool z.neg, z.mag.v, .int .i64 0], true⟩
      refine ⟨0, (ldF v1).2.2.2.2, fun x186 e => ?_⟩
      rw [i64w (by omega) (by omega)] at e
      subst e
      refine ⟨_, hst_at (b := bb) (off := 5) v1 (by simp), rfl, ?_⟩
      rw [Hp.up_up]
      have ee2 : setAt [rs.v, xs.v, Value.bool false, .bool z.neg, z.mag.v, .int .i64 0] 5 [.int .i64 (0 + 1)] = [rs.v, xs.v, .bool false, .bool z.neg, z.mag.v, .int .i64 1] := rfl
      rw [ee2]
      have nb := noi_fld v
      exact ⟨le_up_of_none F.n0 F.le, F.n0, rs, xs, kr, k, tl, z, up_get _ _ _, gz'.up nb _, e1, e2, e3, by rw [Hp.up_other _ _ n1]; exact vr, gk.up n2 nb _, n1, n2⟩
    refine ⟨fun hc => by simp at hc, fun _ => key1⟩
  refine ⟨fun _ => ⟨rs, L.1, by omega, by omega, by rw [e1]; rfl, ⟨some (blkA k), 1, 1⟩, ldr, by omega, by dsimp only; omega, rfl, z, ldz, (zint_Sign gz.zs).const ?_⟩, fun hc => ?_⟩
  · refine ⟨_, rfl, ?_⟩
    have hg : ([x] : List Int).getD (0 : Int).toNat 0 = x := rfl
    rw [hg]
    have : decide (x.sign = 0) = false := by simp only [decide_eq_false_iff_not]; exact fun e => hx (Int.sign_eq_zero_iff_zero.1 e)
    rw [this]; exact key
  · simp only [decide_eq_false_iff_not] at hc; omega

theorem bareiss_Pivots1 {c : Bool} {h : Hp} {m : M} {x : Int} (g : Mx c h m 1 1 [x]) (hs : Sz x) (hx : x ≠ 0) :
    Tri Try.prog (.func (.func 43) #[] #[]) [m.v] h fun v h' => h.le h' ∧ ∃ s : Sl, v = .tuple #[s.v, .int .i64 0] ∧ IsS h' s [0] := by
  refine t_bareiss_Pivots ((mat_Check m).const ?_)
  refine ⟨_, rfl, fun hc => ?_, fun _ => (bareiss_of1 g hs).mono ?_⟩
  · rw [g.ok] at hc; simp at hc
  rintro _ h2 ⟨l2, bb, rfl, F⟩
  refine ⟨_, rfl, ?_⟩
  have hcol := g.cols
  have run : Tri Try.prog (.func (.func 65) #[] #[]) [.pointer (some (blkA bb)), .int .i64 m.cols] h2 fun v h' => h.le h' ∧ ∃ s : Sl, v = s.v ∧ IsS h' s [0] := by
    refine t_bareiss_field_run ⟨fun s i h' => (i = 0 ∧ s = ⟨none, 0, 0⟩ ∧ Fld1 h h' bb x 1 0) ∨ (i = 1 ∧ h.le h' ∧ IsS h' s [0]), fun _ i _ => (1 - i).toNat, Or.inl ⟨rfl, rfl, F⟩, ?_⟩
    rintro s i h3 hI
    refine ⟨fun hc => ?_, fun hc => ?_⟩
    · simp only [decide_eq_true_eq] at hc
      rcases hI with ⟨rfl, rfl, F⟩ | ⟨rfl, _⟩
      · intro J hJ
        refine (bareiss_step1 F hx).mono ?_
        rintro _ h4 ⟨rfl, F⟩
        refine ⟨_, rfl, fun _ => ?_, fun hc => by cases hc⟩
        rintro b h5 hb rfl
        have l5 : h4.le (h4.up b ⟨[.int .i64 0], true⟩) := Hp.le_up _ hb
        have v5 := up_get h4 b ⟨[.int .i64 0], true⟩
        generalize h4.up b ⟨[.int .i64 0], true⟩ = h5 at *
        refine ⟨[.int .i64 0], ?_, ?_⟩
        · have sg : Seg h5 ⟨some (blkA b), 1, 1⟩ 1 [.int .i64 0] := ⟨rfl, fun _ => ⟨b, 0, _, rfl, v5, by simp, by simp⟩⟩
          exact sg.first (m := 1) (Nat.le_refl 1) (by decide) (fun v hv => by rw [List.mem_singleton] at hv; rw [hv]; rfl)
        refine app_grow (h0 := h5) (s := ⟨none, 0, 0⟩) (vs := []) (Or.inl ⟨rfl, rfl⟩) (Hp.le_refl _) (by decide) (fun v hv => by simp at hv) rfl rfl (by decide) (by decide) ?_
        intro xs h6 _ l6 g6 n6
        refine ⟨xs, rfl, hJ _ _ fun x18 e => ?_⟩
        rw [i64w (by omega) (by omega)] at e
        subst e
        refine ⟨Or.inr ⟨rfl, Hp.le_trans F.le (Hp.le_trans l5 l6), ?_⟩, by dsimp only; omega⟩
        rcases g6 with ⟨_, hv⟩ | ⟨kr, tl, e1, e2, e3, e4, e5, e6, e7⟩
        · simp at hv
        · exact ⟨⟨e4, fun _ => ⟨kr, 0, _, e1, e3, by simp, by simp [ii]⟩⟩, e6⟩
      · omega
    · simp only [decide_eq_false_iff_not] at hc
      rcases hI with ⟨rfl, _⟩ | ⟨rfl, l, gs⟩
      · omega
      · exact ⟨l, s, rfl, gs⟩
  refine run.mono ?_
  rintro _ h3 ⟨l3, s, rfl, gs⟩
  exact ⟨s, rfl, l3, s, rfl, gs⟩

theorem bareiss_Det1 {c : Bool} {h : Hp} {m : M} {x : Int} (g : Mx c h m 1 1 [x]) (hs : Sz x) (hx : x ≠ 0) :
    Tri Try.prog (.func (.func 67) #[] #[]) [m.v] h fun v h' => h.le h' ∧ ∃ z : Z, v = .tuple #[z.v, .int .i64 0] ∧ Ze true h' z x := by
  have hcol := g.cols
  have hrow := g.rows
  refine t_bareiss_Det ((mat_Check m).const ?_)
  refine ⟨_, rfl, fun hc => ?_, fun _ => ⟨fun hc => ?_, fun _ => (bareiss_of1 g hs).mono ?_⟩⟩
  · rw [g.ok] at hc; simp at hc
  · rw [hcol, hrow] at hc; simp at hc
  rintro _ h2 ⟨l2, bb, rfl, F⟩
  refine ⟨_, rfl, fun i z h' => (i = 0 ∧ Fld1 h h' bb x 1 0) ∨ (i = 1 ∧ Fld1 h h' bb x x 1), fun i _ _ => (1 - i).toNat, Or.inl ⟨rfl, F⟩, ?_⟩
  rintro i z h3 hI
  refine ⟨fun hc => ?_, fun hc => ?_⟩
  · simp only [decide_eq_true_eq] at hc
    rcases hI with ⟨rfl, F⟩ | ⟨rfl, _⟩
    · refine (bareiss_step1 F hx).mono ?_
      rintro _ h4 ⟨rfl, F⟩
      refine ⟨_, rfl, fun hc => by simp at hc, fun _ x31 e => ?_⟩
      rw [i64w (by omega) (by omega)] at e
      subst e
      exact ⟨Or.inr ⟨rfl, F⟩, by dsimp only; omega⟩
    · omega
  · simp only [decide_eq_false_iff_not] at hc
    rcases hI with ⟨rfl, _⟩ | ⟨rfl, F⟩
    · omega
    · obtain ⟨rs, xs, kr, k, tl, pz, v, gp, _⟩ := F.ex
      refine ⟨false, (ldF v).2.2.1, fun hc => (by cases hc), fun _ => ⟨pz, (ldF v).2.2.2.1, (zint_Least gp.zs).mono ?_⟩⟩
      rintro _ h4 ⟨l4, w, rfl, hw⟩
      exact ⟨w, rfl, Hp.le_trans F.le l4, w, rfl, hw.ze hs true⟩

theorem bareiss_Core1 {c : Bool} {h : Hp} {m : M} {x : Int} (g : Mx c h m 1 1 [x]) (hs : Sz x) (hx : x ≠ 0) :
    Tri Try.prog (.func (.func 45) #[] #[]) [m.v] h fun v h' => h.le h' ∧ ∃ (s t : Sl) (z : Z), v = .tuple #[s.v, t.v, z.v, .int .i64 0] ∧ IsS h' s [0] ∧ IsS h' t [0] ∧ Ze true h' z x := by
  have hs1 : ∀ y ∈ [x], Sz y := fun y hy => by rw [List.mem_singleton] at hy; rw [hy]; exact hs
  have rset : Tri Try.prog (.func (.func 66) #[] #[]) [m.v] h fun v h' => h.le h' ∧ ∃ s : Sl, v = .tuple #[s.v, .int .i64 0] ∧ IsS h' s [0] := by
    refine t_bareiss_RowSet ((mat_Turn g hs1).mono ?_)
    rintro _ h1 ⟨l1, m', rfl, g1⟩
    have e : flatM 1 (fun i j => ([x] : List Int).getD (j * 1 + i) 0) 1 = [x] := rfl
    rw [e] at g1
    refine ⟨_, _, rfl, fun hc => by simp at hc, fun _ => (bareiss_Pivots1 g1 hs hx).mono ?_⟩
    rintro _ h2 ⟨l2, s, rfl, gs⟩
    exact ⟨_, _, rfl, Hp.le_trans l1 l2, s, rfl, gs⟩
  refine t_bareiss_Core (rset.mono ?_)
  rintro _ h1 ⟨l1, s, rfl, gs⟩
  refine ⟨_, _, rfl, fun hc => by simp at hc, fun _ => (bareiss_Pivots1 (g.le l1) hs hx).mono ?_⟩
  rintro _ h2 ⟨l2, t, rfl, gt⟩
  have l02 := Hp.le_trans l1 l2
  refine ⟨_, _, rfl, (mat_Pick (g.le l02) hs1 (gs.le l2) gt (by simp) (by simp) (by decide) (by decide)).mono ?_⟩
  rintro _ h3 ⟨l3, m', rfl, g3⟩
  refine ⟨_, _, rfl, (bareiss_Det1 g3 hs hx).mono ?_⟩
  rintro _ h4 ⟨l4, z, rfl, gz⟩
  exact ⟨_, _, rfl, Hp.le_trans l02 (Hp.le_trans l3 l4), s, t, z, rfl, (gs.le l2).le (Hp.le_trans l3 l4), gt.le (Hp.le_trans l3 l4), gz⟩

theorem her_one {d : Int} {L : Vec → Prop} {R : Nat → Vec} {x : Int} (hd : 0 < d) (h : HerI 1 d L R) (hL : ∀ v, L v ↔ LatI [x] 1 d 1 v) (hx : d ∣ x) : R 0 0 = d := by
  have hu : Her 1 (unitV d) := ⟨fun i hi k hk => by unfold unitV; rw [if_neg (by omega)], fun i hi => by unfold unitV; rw [if_pos rfl]; exact hd, fun i k h1 h2 => by omega⟩
  have := her_unique h.her hu (fun v => (h.lat v).trans ((hL v).trans ⟨fun a => ?_, fun a => ?_⟩)) 0 (by decide) 0
  · rw [this]; unfold unitV; rw [if_pos rfl]
  · refine Lat.of ?_ a
    rintro g (⟨j, hj, rfl⟩ | ⟨j, hj, rfl⟩)
    · have hj0 : j = 0 := by omega
      subst hj0
      obtain ⟨c, hc⟩ := hx
      refine ((Lat.gen (g := unitV d 0) ⟨0, Nat.le_refl _, by decide, rfl⟩).smul c).cong fun k => ?_
      have hr : rowOf [x] 1 0 = [x] := rfl
      rw [hr]
      unfold vecOf unitV
      cases k with
      | zero => simp [hc, Int.mul_comm]
      | succ k => simp
    · exact .gen ⟨j, Nat.zero_le _, hj, rfl⟩
  · refine Lat.mono ?_ a
    rintro g ⟨j, _, hj, rfl⟩
    exact Or.inr ⟨j, hj, rfl⟩

theorem modhnf_Volume1 {c : Bool} {h : Hp} {m : M} {x : Int} {K : Nat} (g : Mx c h m 1 1 [x]) (hx : x ≠ 0) (kx : SzK K ((x.natAbs : Nat) + 1)) (hK : 65 * K + 1 ≤ 34359738368) :
    Tri Try.prog (.func (.func 18) #[] #[]) [m.v] h fun v h' => h.le h' ∧ ∃ z : Z, v = .tuple #[z.v, .int .i64 0] ∧ Ze true h' z (x.natAbs : Nat) := by
  have kx' : SzK K x := kx.le (by omega)
  have hs : Sz x := kx'.sz (by omega)
  have hs1 : ∀ y ∈ [x], Sz y := fun y hy => by rw [List.mem_singleton] at hy; rw [hy]; exact hs
  have hk1 : ∀ y ∈ [x], SzK K y := fun y hy => by rw [List.mem_singleton] at hy; rw [hy]; exact kx'
  have nar : Tri Try.prog (.func (.func 44) #[] #[]) [m.v] h fun v h' => h.le h' ∧ ∃ (m' : M) (s t : Sl) (z : Z), v = .tuple #[m'.v, s.v, t.v, z.v, .int .i64 0] ∧ Mx true h' m' 1 1 [(x.natAbs : Int)] := by
    refine t_modhnf_narrow ((bareiss_Core1 g hs hx).mono ?_)
    rintro _ h1 ⟨l1, s, t, z, rfl, gs, gt, gz⟩
    refine ⟨_, _, _, _, rfl, fun hc => by simp at hc, fun _ => ?_⟩
    rw [g.rows]
    refine (modhnf_upTo (n := 1) (by decide)).mono ?_
    rintro _ h2 ⟨l2, u, rfl, gu⟩
    refine ⟨u, rfl, (mat_Pick (g.le (Hp.le_trans l1 l2)) hs1 gu (gt.le l2) (by simp) (by simp) (by decide) (by decide)).mono ?_⟩
    rintro _ h3 ⟨l3, m', rfl, g3⟩
    refine ⟨_, _, rfl, ?_⟩
    have e : flatM 1 (fun i j => ([x] : List Int).getD ((List.range 1).getD i 0 * 1 + ([0] : List Nat).getD j 0) 0) 1 = [x] := rfl
    have g3' : Mx true h3 m' 1 1 [x] := g3
    refine (modhnf_Modulo g3' hk1 ((gz.le (Hp.le_trans l2 l3)).zs) hx kx hK).mono ?_
    rintro _ h4 ⟨l4, m4, R, rfl, g4, hR⟩
    refine ⟨_, _, rfl, Hp.le_trans l1 (Hp.le_trans l2 (Hp.le_trans l3 l4)), m4, s, t, z, rfl, ?_⟩
    have hr : flatM 1 R 1 = [(x.natAbs : Int)] := by
      have := her_one (x := x) (by omega) hR (fun v => Iff.rfl) (Int.natAbs_dvd.2 ⟨1, by omega⟩)
      simp [flatM, vecL, this]
    rw [← hr]; exact g4
  refine t_modhnf_Volume (nar.mono ?_)
  rintro _ h1 ⟨l1, m', s, t, z, rfl, g1⟩
  refine ⟨_, _, _, _, _, rfl, fun hc => by simp at hc, fun _ => (zint_Of (by decide) (by decide)).mono ?_⟩
  rintro _ h2 ⟨l2, z1, rfl, hz1⟩
  have hcol := g1.cols
  have hrow := g1.rows
  have hl := g1.row.len
  have hsa : Sz ((x.natAbs : Nat) : Int) := hs.le (by omega)
  refine ⟨z1, rfl, fun i v h' => h2.le h' ∧ ((i = 0 ∧ Zs h' v 1) ∨ (i = 1 ∧ Ze true h' v (x.natAbs : Nat))), fun i _ _ => (1 - i).toNat, ⟨Hp.le_refl _, Or.inl ⟨rfl, hz1.zs Zs_one_sz⟩⟩, ?_⟩
  rintro i v h3 ⟨l3, hI⟩
  refine ⟨fun hc => ?_, fun hc => ?_⟩
  · simp only [decide_eq_true_eq] at hc
    rcases hI with ⟨rfl, gv⟩ | ⟨rfl, _⟩
    · intro x35 e35 x37 e37
      rw [Int.zero_mul, i64w (by omega) (by omega)] at e35
      subst e35
      rw [i64w (by omega) (by omega)] at e37
      subst e37
      obtain ⟨w, ld, gw⟩ := (g1.row.le (Hp.le_trans l2 l3)).ld (j := 0) (by decide) (by simp)
      refine ⟨by decide, by rw [hl]; simp, g1.row.isS (by simp), w, ld, (zint_Mul gv gw.zs).mono ?_⟩
      rintro _ h4 ⟨l4, p, rfl, hp⟩
      refine ⟨p, rfl, fun x41 e => ?_⟩
      rw [i64w (by omega) (by omega)] at e
      subst e
      have he : (1 : Int) * ([(x.natAbs : Int)] : List Int).getD (0 : Int).toNat 0 = (x.natAbs : Nat) := by simp
      rw [he] at hp
      exact ⟨⟨Hp.le_trans l3 l4, Or.inr ⟨rfl, hp.ze hsa true⟩⟩, by dsimp only; omega⟩
    · omega
  · simp only [decide_eq_false_iff_not] at hc
    rcases hI with ⟨rfl, _⟩ | ⟨rfl, gv⟩
    · omega
    · exact ⟨Hp.le_trans l1 (Hp.le_trans l2 l3), v, rfl, gv⟩

theorem law19_awake {h : Hp} : Tri Try.prog (.func (.func 6) #[] #[]) [] h fun v h' => h.le h' ∧ v = .bool true := by
  refine t_law19_awake ?_
  rintro b h1 hb rfl b1 h2 hb1 h2e
  have v1 := up_get h b ⟨[.int .u64 6], true⟩
  have l1 : h.le (h.up b ⟨[.int .u64 6], true⟩) := Hp.le_up _ hb
  have l2 : (h.up b ⟨[.int .u64 6], true⟩).le h2 := by rw [h2e]; exact Hp.le_up _ hb1
  have v2 : h2 b1 = some ⟨[.bool true, .slice (some (blkA b)) 1 1], true⟩ := by rw [h2e]; exact up_get _ _ _
  have v1' := l2 _ _ v1
  have l02 := Hp.le_trans l1 l2
  clear h2e hb hb1 v1 l1 l2
  have g6 : Ws h2 ⟨some (blkA b), 1, 1⟩ [6] := Ws.blk (l := [6]) v1' (by simp [B]) (Nat.le_refl _)
  have gz : Ze false h2 ⟨true, ⟨some (blkA b), 1, 1⟩⟩ (-6) := ⟨⟨[6], g6, by decide, by simp [vl, sg]⟩, fun e => by cases e⟩
  have gm : Mx false h2 ⟨1, 1, ⟨some (blkA b1), 1, 1⟩⟩ 1 1 [-6] :=
    ⟨rfl, rfl, by decide, by decide, (RowB.mk ⟨[⟨true, ⟨some (blkA b), 1, 1⟩⟩], v2, gz, trivial⟩ : RowB false h2 b1 [-6]).row (Nat.le_refl _), rfl⟩
  refine (modhnf_Volume1 (K := 1) gm (by decide) (by unfold SzK; decide) (by decide)).mono ?_
  rintro _ h3 ⟨l3, z, rfl, gz3⟩
  refine ⟨_, _, rfl, fun J hJ => ⟨fun _ => (law19_of 6 (by decide) (by decide)).mono ?_, fun hc => by simp at hc⟩⟩
  rintro _ h5 ⟨l5, w, rfl, gw⟩
  refine ⟨w, rfl, (ref01_SameInt (gz3.le l5) gw).const ?_⟩
  exact ⟨true, rfl, hJ _ _ ⟨Hp.le_trans l02 (Hp.le_trans l3 l5), rfl⟩⟩

end Go.Proofs.Ytmfafadchpglgaa
