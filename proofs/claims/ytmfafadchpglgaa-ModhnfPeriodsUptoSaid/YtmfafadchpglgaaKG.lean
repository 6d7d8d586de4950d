import Derived.Test.YtmfafadchpglgaaKC
import Derived.Test.YtmfafadchpglgaaKF

/- PRINTED BY vcgen.py: code with hints, the formula to show, the theorem; each check by the kernel. -/
namespace Go.Proofs.Ytmfafadchpglgaa

/- trellis/mat.side -/
def d_mat_side : Vd :=
  .seq (.ops [.op 0 ⟨none, some 2, .mov (.b false)⟩ false (.no)] [0, 2]) (.seq (.ops [.op 0 ⟨none, some 3, .mov (.t 0)⟩ false (.no), .op 1 ⟨none, some 4, .bin .leq (.i .i64 0) (.t 3)⟩ false (.sh (.one .val)), .op 2 ⟨none, some 5, .mov (.t 4)⟩ false (.no), .grp ⟨[], [], []⟩ [.t 8 (.bool)] [(3, ⟨some (5, true), some 6, .mov (.t 0)⟩, true, .no), (4, ⟨some (5, true), some 7, .bin .leq (.t 6) (.i .i64 64)⟩, false, .sh (.one .val)), (5, ⟨none, some 8, .pick (.t 5) (.t 7) (.b false)⟩, false, .no)], .op 6 ⟨none, some 2, .mov (.t 8)⟩ false (.no)] [0, 2]) (.ret))
def v_mat_side (n : Int) (h : Hp) (R : Value → Hp → Prop) : Prop :=
  ∀ J : Bool → Hp → Prop, (∀ x8 : Bool, ∀ h1 : Hp, (
    R (.bool x8) h1
  ) → J x8 h1) →
  ((decide ((0 : Int) ≤ n)) = true →
  J (decide (n ≤ 64)) h
  ) ∧ ((decide ((0 : Int) ≤ n)) = false →
  J false h
  )
set_option maxRecDepth 100000 in
theorem t_mat_side {n : Int} {h : Hp} {R : Value → Hp → Prop} (hv : v_mat_side n h R) : Tri Try.prog (.func (.func 27) #[] #[]) [.int .i64 n] h R :=
  tri_of_vc mixed Try.func27 (d := d_mat_side) (RM := []) (rvs := [.tmp 2]) (args := [.int .i64 n]) (caps := []) (by kernel_rfl) Try.ntmps27 (V := v_mat_side n h R) (by kernel_rfl) (by simp) hv

/- trellis/mat.Check -/
def d_mat_Check : Vd :=
  .seq (.ops [.op 0 ⟨none, some 1, .box 3 (.t 0)⟩ false (.sh (.one .val)), .op 1 ⟨none, some 2, .mov (.i .i64 0)⟩ false (.no)] [0, 1, 2, 23]) (.seq (.seq (.ops [.op 0 ⟨none, some 3, .fab 1 1 0⟩ false (.no), .op 1 ⟨none, some 4, .ldb 3 1 none⟩ false (.no), .op 2 ⟨none, some 5, .call false (.f 27) [.t 4]⟩ false (.sh (.one (.bool))), .op 3 ⟨none, some 6, .un .not (.t 5)⟩ false (.no), .op 4 ⟨none, some 7, .mov (.t 6)⟩ false (.no), .grp ⟨[1], [1], [1]⟩ [.t 12 (.bool)] [(5, ⟨some (7, false), some 8, .fab 1 1 1⟩, true, .no), (6, ⟨some (7, false), some 9, .ldb 8 1 none⟩, false, .no), (7, ⟨some (7, false), some 10, .call false (.f 27) [.t 9]⟩, false, .sh (.one (.bool))), (8, ⟨some (7, false), some 11, .un .not (.t 10)⟩, false, .no), (9, ⟨none, some 12, .pick (.t 7) (.b true) (.t 11)⟩, false, .no)], .op 10 ⟨none, some 13, .mov (.t 12)⟩ false (.no), .grp ⟨[], [], []⟩ [.t 23 (.bool)] [(11, ⟨some (13, false), some 14, .fab 1 1 2⟩, true, .no), (12, ⟨some (13, false), some 15, .ldb 14 1 none⟩, false, .no), (13, ⟨some (13, false), some 16, .len (.t 15)⟩, false, .no), (14, ⟨some (13, false), some 17, .fab 1 1 0⟩, false, .no), (15, ⟨some (13, false), some 18, .ldb 17 1 none⟩, false, .no), (16, ⟨some (13, false), some 19, .fab 1 1 1⟩, false, .no), (17, ⟨some (13, false), some 20, .ldb 19 1 none⟩, false, .no), (18, ⟨some (13, false), some 21, .bin .mul (.t 18) (.t 20)⟩, false, .sh (.one .val)), (19, ⟨some (13, false), some 22, .bin .neq (.t 16) (.t 21)⟩, false, .sh (.one .val)), (20, ⟨none, some 23, .pick (.t 13) (.b true) (.t 22)⟩, false, .no)]] [0, 1, 2, 23]) (.cond (.t 23) (.seq (.ops [.op 0 ⟨none, some 2, .mov (.i .i64 1)⟩ false (.no)] [0, 1, 2, 23]) (.ret)) (.skip))) (.seq (.ops [.op 0 ⟨none, some 2, .mov (.i .i64 0)⟩ false (.no)] [0, 1, 2, 23]) (.ret)))
def v_mat_Check (a : M) (h : Hp) (R : Value → Hp → Prop) : Prop :=
  Tri Try.prog (.func (.func 27) #[] #[]) [.int .i64 a.rows] h fun r h1 => ∃ x5 : Bool, r = .bool x5 ∧
  ∀ J : Bool → Hp → Prop, (∀ x12 : Bool, ∀ h2 : Hp, (
    ∀ J1 : Bool → Hp → Prop, (∀ x23 : Bool, ∀ h3 : Hp, (
      (x23 = true →
        R (.int .i64 1) h3
      ) ∧ (x23 = false →
        R (.int .i64 0) h3
      )
    ) → J1 x23 h3) →
    (x12 = true →
    J1 true h2
    ) ∧ (x12 = false →
    ∀ x21 : Int, x21 = IntKind.i64.wrap (a.rows * a.cols) →
    J1 (!decide ((a.el.n : Int) = x21)) h2
    )
  ) → J x12 h2) →
  ((!x5) = true →
  J true h1
  ) ∧ ((!x5) = false →
  Tri Try.prog (.func (.func 27) #[] #[]) [.int .i64 a.cols] h1 fun r1 h4 => ∃ x10 : Bool, r1 = .bool x10 ∧
  J (!x10) h4
  )
set_option maxRecDepth 100000 in
theorem t_mat_Check {a : M} {h : Hp} {R : Value → Hp → Prop} (hv : v_mat_Check a h R) : Tri Try.prog (.func (.func 7) #[] #[]) [a.v] h R :=
  tri_of_vc mixed Try.func7 (d := d_mat_Check) (RM := [(1, 1), (3, 1), (8, 1), (14, 1), (17, 1), (19, 1)]) (rvs := [.tmp 2]) (args := [a.v]) (caps := []) (by kernel_rfl) Try.ntmps7 (V := v_mat_Check a h R) (by kernel_rfl) (by simp) hv

/- trellis/mat.each[trellis/api.Int,trellis/api.Int] -/
def d_mat_each_api_Int_api_Int : Vd :=
  .seq (.ops [.op 0 ⟨none, some 4, .mov (.nil)⟩ false (.no)] [0, 1, 4, 5, 6, 7, 11, 12, 13, 14]) (.seq (.ops [.op 0 ⟨none, some 8, .mov (.t 0)⟩ false (.no), .op 1 ⟨none, some 9, .len (.t 8)⟩ false (.no), .op 2 ⟨none, some 10, .mk [.b false, .nil] 32 (.t 9) (.t 9)⟩ false (.sh (.one .val)), .op 3 ⟨none, some 5, .mov (.t 10)⟩ false (.no)] [0, 1, 4, 5, 6, 7, 11, 12, 13, 14]) (.seq (.seq (.ops [.op 0 ⟨none, some 11, .mov (.t 0)⟩ false (.no), .op 1 ⟨none, some 12, .len (.t 11)⟩ false (.no), .op 2 ⟨none, some 13, .mov (.i .i64 0)⟩ false (.no)] [0, 1, 4, 5, 6, 7, 11, 12, 13, 14]) (.block 0 (.loop ⟨[1, 5, 11, 12], [], []⟩ [.t 13 (.int .i64)] (.seq (.ops [.op 0 ⟨none, some 14, .bin .lss (.t 13) (.t 12)⟩ false (.sh (.one .val))] [0, 1, 4, 5, 6, 7, 11, 12, 13, 14]) (.seq (.cond (.t 14) (.skip) (.exit 0)) (.seq (.block 1 (.seq (.ops [.op 0 ⟨none, some 15, .mov (.t 13)⟩ false (.no), .op 1 ⟨none, some 16, .ia 2 (.t 11) (.t 13)⟩ false (.no), .op 2 ⟨none, some 17, .ldh (some 2) (.t 16)⟩ false (.sh (.agg [.z])), .op 3 ⟨none, some 7, .new [.b false, .nil]⟩ false (.sh (.one .val)), .op 4 ⟨none, some 6, .mov (.t 15)⟩ false (.no), .op 5 ⟨none, none, .stb 7 7 2 (.t 17)⟩ false (.sh (.one .val))] [0, 1, 4, 5, 6, 7, 11, 12, 13, 14]) (.ops [.op 0 ⟨none, some 18, .mov (.t 5)⟩ false (.no), .op 1 ⟨none, some 19, .mov (.t 6)⟩ false (.no), .op 2 ⟨none, some 20, .mov (.t 1)⟩ false (.no), .op 3 ⟨none, some 21, .ldb 7 7 (some 2)⟩ false (.no), .op 4 ⟨none, some 22, .call false (.t 20) [.t 21]⟩ false (.sh (.agg [.z])), .op 5 ⟨none, some 23, .ia 2 (.t 18) (.t 19)⟩ false (.no), .op 6 ⟨none, none, .sth 2 (.t 23) (.t 22)⟩ false (.sh (.one .val))] [0, 1, 4, 5, 6, 7, 11, 12, 13, 14]))) (.ops [.op 0 ⟨none, some 24, .bin .add (.t 13) (.i .i64 1)⟩ false (.sh (.one .val)), .op 1 ⟨none, some 13, .mov (.t 24)⟩ false (.no)] [0, 1, 4, 5, 6, 7, 11, 12, 13, 14]))))))) (.seq (.ops [.op 0 ⟨none, some 25, .mov (.t 5)⟩ false (.no), .op 1 ⟨none, some 4, .mov (.t 25)⟩ false (.no)] [0, 1, 4, 5, 6, 7, 11, 12, 13, 14]) (.ret))))
def v_mat_each_api_Int_api_Int (list : Sl) (f : Nat) (f_p : Array Value) (f_q : Array Value) (h : Hp) (R : Value → Hp → Prop) : Prop :=
  0 ≤ (list.n : Int) ∧ (list.n : Int) ≤ (list.n : Int) ∧ (32 : Nat) * (list.n : Int) ≤ 281474976710656 ∧ (list.n : Int) < 9223372036854775808 ∧ ∀ b : Nat, ∀ h1 : Hp, h b = none → h1 = h.up b ⟨mkCells [.bool false, .slice none 0 0] (Int.toNat (list.n : Int) * 2), true⟩ →
  ∃ I : Int → Hp → Prop, ∃ mu : Int → Hp → Nat, I 0 h1 ∧ (∀ x13 : Int, ∀ h2 : Hp, I x13 h2 →
    ((decide (x13 < (list.n : Int))) = true →
      0 ≤ x13 ∧ x13 < (list.n : Int) ∧ list.a.isSome = true ∧
      ∃ x17 : Z, hld h2 (elemA list.a x13 2) (some 2) = some (x17.v) ∧
      Tri Try.prog (.func (.func f) f_p f_q) [x17.v] h2 fun r h3 => ∃ x22 : Z, r = x22.v ∧
      0 ≤ x13 ∧ x13 < (Int.toNat (list.n : Int) : Int) ∧ (some (blkA b)).isSome = true ∧
      ∃ h4 : Hp, hst h3 (elemA (some (blkA b)) x13 2) [.bool x22.neg, x22.mag.v] = some h4 ∧
      ∀ x24 : Int, x24 = IntKind.i64.wrap (x13 + 1) →
      I x24 h4 ∧ mu x24 h4 < mu x13 h2
    ) ∧ ((decide (x13 < (list.n : Int))) = false →
      R (.slice (some (blkA b)) (Int.toNat (list.n : Int)) (Int.toNat (list.n : Int))) h2
    )
  )
set_option maxRecDepth 100000 in
theorem t_mat_each_api_Int_api_Int {list : Sl} {f : Nat} {f_p : Array Value} {f_q : Array Value} {h : Hp} {R : Value → Hp → Prop} (hv : v_mat_each_api_Int_api_Int list f f_p f_q h R) : Tri Try.prog (.func (.func 41) #[] #[]) [list.v, .func (.func f) f_p f_q] h R :=
  tri_of_vc mixed Try.func41 (d := d_mat_each_api_Int_api_Int) (RM := [(7, 7)]) (rvs := [.tmp 4]) (args := [list.v, .func (.func f) f_p f_q]) (caps := []) (by kernel_rfl) Try.ntmps41 (V := v_mat_each_api_Int_api_Int list f f_p f_q h R) (by kernel_rfl) (by simp) hv

/- trellis/mat.build -/
def d_mat_build : Vd :=
  .seq (.ops [.op 0 ⟨none, some 6, .new [.i .i64 0, .i .i64 0, .nil]⟩ false (.sh (.one .val))] [0, 1, 2, 6, 7, 8, 9, 17, 18, 19, 21, 22, 23]) (.seq (.ops [.op 0 ⟨none, some 10, .mov (.t 0)⟩ false (.no), .op 1 ⟨none, some 11, .mov (.t 1)⟩ false (.no), .op 2 ⟨none, some 12, .mov (.t 0)⟩ false (.no), .op 3 ⟨none, some 13, .mov (.t 1)⟩ false (.no), .op 4 ⟨none, some 14, .bin .mul (.t 12) (.t 13)⟩ false (.sh (.one .val)), .op 5 ⟨none, some 15, .mk [.b false, .nil] 32 (.i .i64 0) (.t 14)⟩ false (.sh (.one .val)), .op 6 ⟨none, some 16, .bd [.i .i64 0, .i .i64 0, .nil] [(0, 1, .t 10), (1, 1, .t 11), (2, 1, .t 15)]⟩ false (.no), .op 7 ⟨none, some 7, .new [.i .i64 0, .i .i64 0, .nil]⟩ false (.sh (.one .val)), .op 8 ⟨none, none, .stb 7 7 3 (.t 16)⟩ false (.sh (.one .val))] [0, 1, 2, 6, 7, 8, 9, 17, 18, 19, 21, 22, 23]) (.seq (.seq (.ops [.op 0 ⟨none, some 17, .mov (.t 0)⟩ false (.no), .op 1 ⟨none, some 18, .mov (.i .i64 0)⟩ false (.no)] [0, 1, 2, 6, 7, 8, 9, 17, 18, 19, 21, 22, 23]) (.block 0 (.loop ⟨[1, 2, 6, 7, 17], [6], [6, 7]⟩ [.t 18 (.int .i64), .x 7 [.m]] (.seq (.ops [.op 0 ⟨none, some 19, .bin .lss (.t 18) (.t 17)⟩ false (.sh (.one .val))] [0, 1, 2, 6, 7, 8, 9, 17, 18, 19, 21, 22, 23]) (.seq (.cond (.t 19) (.skip) (.exit 0)) (.seq (.block 1 (.seq (.ops [.op 0 ⟨none, some 20, .mov (.t 18)⟩ false (.no), .op 1 ⟨none, some 8, .mov (.t 20)⟩ false (.no)] [0, 1, 2, 6, 7, 8, 9, 17, 18, 19, 21, 22, 23]) (.seq (.ops [.op 0 ⟨none, some 21, .mov (.t 1)⟩ false (.no), .op 1 ⟨none, some 22, .mov (.i .i64 0)⟩ false (.no)] [0, 1, 2, 6, 7, 8, 9, 17, 18, 19, 21, 22, 23]) (.block 2 (.loop ⟨[1, 2, 6, 7, 8, 17, 18, 21], [6], [6, 7]⟩ [.t 22 (.int .i64), .x 7 [.m]] (.seq (.ops [.op 0 ⟨none, some 23, .bin .lss (.t 22) (.t 21)⟩ false (.sh (.one .val))] [0, 1, 2, 6, 7, 8, 9, 17, 18, 19, 21, 22, 23]) (.seq (.cond (.t 23) (.skip) (.exit 2)) (.seq (.block 3 (.seq (.ops [.op 0 ⟨none, some 24, .mov (.t 22)⟩ false (.no), .op 1 ⟨none, some 9, .mov (.t 24)⟩ false (.no)] [0, 1, 2, 6, 7, 8, 9, 17, 18, 19, 21, 22, 23]) (.ops [.op 0 ⟨none, some 25, .fab 7 7 2⟩ false (.no), .op 1 ⟨none, some 26, .ldb 25 7 none⟩ false (.no), .op 2 ⟨none, some 27, .mov (.t 2)⟩ false (.no), .op 3 ⟨none, some 28, .mov (.t 8)⟩ false (.no), .op 4 ⟨none, some 29, .mov (.t 9)⟩ false (.no), .op 5 ⟨none, some 30, .call false (.t 27) [.t 28, .t 29]⟩ false (.sh (.agg [.z])), .op 6 ⟨none, some 31, .bs [.b false, .nil] 1 2 [(0, .t 30)]⟩ false (.sh (.one .val)), .op 7 ⟨none, some 32, .app 2 32 [.b false, .nil] (.t 26) (.t 31)⟩ false (.sh (.one .slice)), .op 8 ⟨none, some 33, .fab 7 7 2⟩ false (.no), .op 9 ⟨none, none, .stb 33 7 1 (.t 32)⟩ false (.sh (.one .val))] [0, 1, 2, 6, 7, 8, 9, 17, 18, 19, 21, 22, 23]))) (.ops [.op 0 ⟨none, some 34, .bin .add (.t 22) (.i .i64 1)⟩ false (.sh (.one .val)), .op 1 ⟨none, some 22, .mov (.t 34)⟩ false (.no)] [0, 1, 2, 6, 7, 8, 9, 17, 18, 19, 21, 22, 23]))))))))) (.ops [.op 0 ⟨none, some 35, .bin .add (.t 18) (.i .i64 1)⟩ false (.sh (.one .val)), .op 1 ⟨none, some 18, .mov (.t 35)⟩ false (.no)] [0, 1, 2, 6, 7, 8, 9, 17, 18, 19, 21, 22, 23]))))))) (.seq (.ops [.op 0 ⟨none, some 36, .ldb 7 7 (some 3)⟩ false (.no), .op 1 ⟨none, none, .stb 6 6 3 (.t 36)⟩ false (.sh (.one .val))] [0, 1, 2, 6, 7, 8, 9, 17, 18, 19, 21, 22, 23]) (.ret))))
def v_mat_build (rows : Int) (cols : Int) (f : Nat) (f_p : Array Value) (f_q : Array Value) (h : Hp) (R : Value → Hp → Prop) : Prop :=
  ∀ x14 : Int, x14 = IntKind.i64.wrap (rows * cols) →
  0 ≤ (0 : Int) ∧ (0 : Int) ≤ x14 ∧ (32 : Nat) * x14 ≤ 281474976710656 ∧ x14 < 9223372036854775808 ∧ ∀ b : Nat, ∀ h1 : Hp, h b = none → h1 = h.up b ⟨mkCells [.bool false, .slice none 0 0] (Int.toNat x14 * 2), true⟩ →
  ∃ I : Int → M → Hp → Prop, ∃ mu : Int → M → Hp → Nat, I 0 ⟨rows, cols, ⟨some (blkA b), Int.toNat (0 : Int), Int.toNat x14⟩⟩ h1 ∧ (∀ x18 : Int, ∀ m : M, ∀ h2 : Hp, I x18 m h2 →
    ((decide (x18 < rows)) = true →
      ∃ I1 : Int → M → Hp → Prop, ∃ mu1 : Int → M → Hp → Nat, I1 0 m h2 ∧ (∀ x22 : Int, ∀ m1 : M, ∀ h3 : Hp, I1 x22 m1 h3 →
        ((decide (x22 < cols)) = true →
          Tri Try.prog (.func (.func f) f_p f_q) [.int .i64 x18, .int .i64 x22] h3 fun r h4 => ∃ x30 : Z, r = x30.v ∧
          ∀ b1 : Nat, ∀ h5 : Hp, h4 b1 = none → h5 = h4.up b1 ⟨[.bool x30.neg, x30.mag.v], true⟩ →
          ∃ ys : List Value, firstOf h5 (some (blkA b1)) 1 2 = some ys ∧ appRes h5 m1.el.a m1.el.n m1.el.c 1 2 32 [.b false, .nil] ys fun r1 h6 => ∃ x32 : Sl, r1 = x32.v ∧
          ∀ x34 : Int, x34 = IntKind.i64.wrap (x22 + 1) →
          I1 x34 ⟨m1.rows, m1.cols, x32⟩ h6 ∧ mu1 x34 ⟨m1.rows, m1.cols, x32⟩ h6 < mu1 x22 m1 h3
        ) ∧ ((decide (x22 < cols)) = false →
          ∀ x35 : Int, x35 = IntKind.i64.wrap (x18 + 1) →
          I x35 m1 h3 ∧ mu x35 m1 h3 < mu x18 m h2
        )
      )
    ) ∧ ((decide (x18 < rows)) = false →
      R (m.v) h2
    )
  )
set_option maxRecDepth 100000 in
theorem t_mat_build {rows : Int} {cols : Int} {f : Nat} {f_p : Array Value} {f_q : Array Value} {h : Hp} {R : Value → Hp → Prop} (hv : v_mat_build rows cols f f_p f_q h R) : Tri Try.prog (.func (.func 38) #[] #[]) [.int .i64 rows, .int .i64 cols, .func (.func f) f_p f_q] h R :=
  tri_of_vc mixed Try.func38 (d := d_mat_build) (RM := [(6, 6), (7, 7), (25, 7), (33, 7)]) (rvs := [.cell 6 (some 3)]) (args := [.int .i64 rows, .int .i64 cols, .func (.func f) f_p f_q]) (caps := []) (by kernel_rfl) Try.ntmps38 (V := v_mat_build rows cols f f_p f_q h R) (by kernel_rfl) (by simp) hv

/- trellis/mat.Unit -/
def d_mat_Unit : Vd :=
  .seq (.ops [.op 0 ⟨none, some 2, .new [.i .i64 0, .i .i64 0, .nil]⟩ false (.sh (.one .val)), .op 1 ⟨none, some 3, .mov (.i .i64 0)⟩ false (.no)] [0, 2, 3, 6]) (.seq (.seq (.ops [.op 0 ⟨none, some 4, .mov (.t 0)⟩ false (.no), .op 1 ⟨none, some 5, .call false (.f 27) [.t 4]⟩ false (.sh (.one (.bool))), .op 2 ⟨none, some 6, .un .not (.t 5)⟩ false (.no)] [0, 2, 3, 6]) (.cond (.t 6) (.seq (.ops [.op 0 ⟨none, some 7, .bd [.i .i64 0, .i .i64 0, .nil] []⟩ false (.no), .op 1 ⟨none, none, .stb 2 2 3 (.t 7)⟩ false (.sh (.one .val)), .op 2 ⟨none, some 3, .mov (.i .i64 3)⟩ false (.no)] [0, 2, 3, 6]) (.ret)) (.skip))) (.seq (.ops [.op 0 ⟨none, some 8, .mov (.t 0)⟩ false (.no), .op 1 ⟨none, some 9, .mov (.t 0)⟩ false (.no), .op 2 ⟨none, some 10, .call false (.f 38) [.t 8, .t 9, .f 39]⟩ false (.sh (.agg [.m])), .op 3 ⟨none, none, .stb 2 2 3 (.t 10)⟩ false (.sh (.one .val)), .op 4 ⟨none, some 3, .mov (.i .i64 0)⟩ false (.no)] [0, 2, 3, 6]) (.ret)))
def v_mat_Unit (n : Int) (h : Hp) (R : Value → Hp → Prop) : Prop :=
  Tri Try.prog (.func (.func 27) #[] #[]) [.int .i64 n] h fun r h1 => ∃ x5 : Bool, r = .bool x5 ∧
  ((!x5) = true →
    R (.tuple #[.agg #[.int .i64 0, .int .i64 0, .slice none 0 0], .int .i64 3]) h1
  ) ∧ ((!x5) = false →
    Tri Try.prog (.func (.func 38) #[] #[]) [.int .i64 n, .int .i64 n, .func (.func 39) #[] #[]] h1 fun r1 h2 => ∃ x10 : M, r1 = x10.v ∧
    R (.tuple #[x10.v, .int .i64 0]) h2
  )
set_option maxRecDepth 100000 in
theorem t_mat_Unit {n : Int} {h : Hp} {R : Value → Hp → Prop} (hv : v_mat_Unit n h R) : Tri Try.prog (.func (.func 14) #[] #[]) [.int .i64 n] h R :=
  tri_of_vc mixed Try.func14 (d := d_mat_Unit) (RM := [(2, 2)]) (rvs := [.cell 2 (some 3), .tmp 3]) (args := [.int .i64 n]) (caps := []) (by kernel_rfl) Try.ntmps14 (V := v_mat_Unit n h R) (by kernel_rfl) (by simp) hv

/- trellis/mat.Unit$1 -/
def d_mat_Unit_1 : Vd :=
  .seq (.ops [.op 0 ⟨none, some 4, .new [.b false, .nil]⟩ false (.sh (.one .val))] [0, 1, 4, 7]) (.seq (.seq (.ops [.op 0 ⟨none, some 5, .mov (.t 0)⟩ false (.no), .op 1 ⟨none, some 6, .mov (.t 1)⟩ false (.no), .op 2 ⟨none, some 7, .bin .eql (.t 5) (.t 6)⟩ false (.sh (.one .val))] [0, 1, 4, 7]) (.cond (.t 7) (.seq (.ops [.op 0 ⟨none, some 8, .call false (.f 40) [.i .i64 1]⟩ false (.sh (.agg [.z])), .op 1 ⟨none, none, .stb 4 4 2 (.t 8)⟩ false (.sh (.one .val))] [0, 1, 4, 7]) (.ret)) (.skip))) (.seq (.ops [.op 0 ⟨none, some 9, .bd [.b false, .nil] []⟩ false (.no), .op 1 ⟨none, none, .stb 4 4 2 (.t 9)⟩ false (.sh (.one .val))] [0, 1, 4, 7]) (.ret)))
def v_mat_Unit_1 (i : Int) (j : Int) (h : Hp) (R : Value → Hp → Prop) : Prop :=
  ((decide (i = j)) = true →
    Tri Try.prog (.func (.func 40) #[] #[]) [.int .i64 1] h fun r h1 => ∃ x8 : Z, r = x8.v ∧
    R (x8.v) h1
  ) ∧ ((decide (i = j)) = false →
    R (.agg #[.bool false, .slice none 0 0]) h
  )
set_option maxRecDepth 100000 in
theorem t_mat_Unit_1 {i : Int} {j : Int} {h : Hp} {R : Value → Hp → Prop} (hv : v_mat_Unit_1 i j h R) : Tri Try.prog (.func (.func 39) #[] #[]) [.int .i64 i, .int .i64 j] h R :=
  tri_of_vc mixed Try.func39 (d := d_mat_Unit_1) (RM := [(4, 4)]) (rvs := [.cell 4 (some 2)]) (args := [.int .i64 i, .int .i64 j]) (caps := []) (by kernel_rfl) Try.ntmps39 (V := v_mat_Unit_1 i j h R) (by kernel_rfl) (by simp) hv

/- trellis/mat.Scale -/
def d_mat_Scale : Vd :=
  .seq (.ops [.op 0 ⟨none, some 2, .boxp 2 (.t 0)⟩ false (.sh (.one .val)), .op 1 ⟨none, some 3, .box 3 (.t 1)⟩ false (.sh (.one .val)), .op 2 ⟨none, some 4, .new [.i .i64 0, .i .i64 0, .nil]⟩ false (.sh (.one .val)), .op 3 ⟨none, some 5, .mov (.i .i64 0)⟩ false (.no)] [0, 1, 2, 3, 4, 5, 6, 10]) (.seq (.seq (.ops [.op 0 ⟨none, some 7, .ldb 3 3 (some 3)⟩ false (.no), .op 1 ⟨none, some 8, .call false (.f 7) [.t 7]⟩ false (.sh (.one (.int .i64))), .op 2 ⟨none, some 6, .mov (.t 8)⟩ false (.no)] [0, 1, 2, 3, 4, 5, 6, 10]) (.seq (.ops [.op 0 ⟨none, some 9, .mov (.t 6)⟩ false (.no), .op 1 ⟨none, some 10, .bin .neq (.t 9) (.i .i64 0)⟩ false (.sh (.one .val))] [0, 1, 2, 3, 4, 5, 6, 10]) (.cond (.t 10) (.seq (.ops [.op 0 ⟨none, some 11, .bd [.i .i64 0, .i .i64 0, .nil] []⟩ false (.no), .op 1 ⟨none, some 12, .mov (.t 6)⟩ false (.no), .op 2 ⟨none, none, .stb 4 4 3 (.t 11)⟩ false (.sh (.one .val)), .op 3 ⟨none, some 5, .mov (.t 12)⟩ false (.no)] [0, 1, 2, 3, 4, 5, 6, 10]) (.ret)) (.skip)))) (.seq (.ops [.op 0 ⟨none, some 13, .fab 3 3 0⟩ false (.no), .op 1 ⟨none, some 14, .ldb 13 3 none⟩ false (.no), .op 2 ⟨none, some 15, .fab 3 3 1⟩ false (.no), .op 3 ⟨none, some 16, .ldb 15 3 none⟩ false (.no), .op 4 ⟨none, some 17, .fab 3 3 2⟩ false (.no), .op 5 ⟨none, some 18, .ldb 17 3 none⟩ false (.no), .op 6 ⟨none, some 19, .mkf 42 [.t 2]⟩ false (.no), .op 7 ⟨none, some 20, .call false (.f 41) [.t 18, .t 19]⟩ false (.sh (.one (.slice))), .op 8 ⟨none, some 21, .bd [.i .i64 0, .i .i64 0, .nil] [(0, 1, .t 14), (1, 1, .t 16), (2, 1, .t 20)]⟩ false (.no), .op 9 ⟨none, none, .stb 4 4 3 (.t 21)⟩ false (.sh (.one .val)), .op 10 ⟨none, some 5, .mov (.i .i64 0)⟩ false (.no)] [0, 1, 2, 3, 4, 5, 6, 10]) (.ret)))
def v_mat_Scale (k : Z) (a : M) (h : Hp) (R : Value → Hp → Prop) : Prop :=
  ∀ b : Nat, ∀ h1 : Hp, h b = none → h1 = h.up b ⟨[.bool k.neg, k.mag.v], true⟩ →
  Tri Try.prog (.func (.func 7) #[] #[]) [a.v] h1 fun r h2 => ∃ x8 : Int, r = .int .i64 x8 ∧
  ((!decide (x8 = 0)) = true →
    R (.tuple #[.agg #[.int .i64 0, .int .i64 0, .slice none 0 0], .int .i64 x8]) h2
  ) ∧ ((!decide (x8 = 0)) = false →
    Tri Try.prog (.func (.func 41) #[] #[]) [a.el.v, .func (.func 42) #[] #[.pointer (some (blkA b))]] h2 fun r1 h3 => ∃ x20 : Sl, r1 = x20.v ∧
    R (.tuple #[.agg #[.int .i64 a.rows, .int .i64 a.cols, x20.v], .int .i64 0]) h3
  )
set_option maxRecDepth 100000 in
theorem t_mat_Scale {k : Z} {a : M} {h : Hp} {R : Value → Hp → Prop} (hv : v_mat_Scale k a h R) : Tri Try.prog (.func (.func 15) #[] #[]) [k.v, a.v] h R :=
  tri_of_vc mixed Try.func15 (d := d_mat_Scale) (RM := [(3, 3), (4, 4), (13, 3), (15, 3), (17, 3)]) (rvs := [.cell 4 (some 3), .tmp 5]) (args := [k.v, a.v]) (caps := []) (by kernel_rfl) Try.ntmps15 (V := v_mat_Scale k a h R) (by kernel_rfl) (by simp) hv

/- trellis/mat.Scale$1 -/
def d_mat_Scale_1 : Vd :=
  .seq (.ops [.op 0 ⟨none, some 2, .box 2 (.t 0)⟩ false (.sh (.one .val)), .op 1 ⟨none, some 3, .new [.b false, .nil]⟩ false (.sh (.one .val))] [0, 1, 2, 3]) (.seq (.ops [.op 0 ⟨none, some 4, .ldh (some 2) (.t 1)⟩ false (.sh (.agg [.z])), .op 1 ⟨none, some 5, .ldb 2 2 (some 2)⟩ false (.no), .op 2 ⟨none, some 6, .call false (.f 11) [.t 4, .t 5]⟩ false (.sh (.agg [.z])), .op 3 ⟨none, none, .stb 3 3 2 (.t 6)⟩ false (.sh (.one .val))] [0, 1, 2, 3]) (.ret))
def v_mat_Scale_1 (x : Z) (x1 : Addr) (h : Hp) (R : Value → Hp → Prop) : Prop :=
  ∃ x4 : Z, hld h x1 (some 2) = some (x4.v) ∧
  Tri Try.prog (.func (.func 11) #[] #[]) [x4.v, x.v] h fun r h1 => ∃ x6 : Z, r = x6.v ∧
  R (x6.v) h1
set_option maxRecDepth 100000 in
theorem t_mat_Scale_1 {x : Z} {x1 : Addr} {h : Hp} {R : Value → Hp → Prop} (hv : v_mat_Scale_1 x x1 h R) : Tri Try.prog (.func (.func 42) #[] #[.pointer (some x1)]) [x.v] h R :=
  tri_of_vc mixed Try.func42 (d := d_mat_Scale_1) (RM := [(2, 2), (3, 3)]) (rvs := [.cell 3 (some 2)]) (args := [x.v]) (caps := [.pointer (some x1)]) (by kernel_rfl) Try.ntmps42 (V := v_mat_Scale_1 x x1 h R) (by kernel_rfl) (by simp) hv

/- trellis/mat.Least -/
def d_mat_Least : Vd :=
  .seq (.ops [.op 0 ⟨none, some 1, .box 3 (.t 0)⟩ false (.sh (.one .val)), .op 1 ⟨none, some 2, .new [.i .i64 0, .i .i64 0, .nil]⟩ false (.sh (.one .val)), .op 2 ⟨none, some 3, .mov (.i .i64 0)⟩ false (.no)] [0, 1, 2, 3, 4, 8]) (.seq (.seq (.ops [.op 0 ⟨none, some 5, .ldb 1 1 (some 3)⟩ false (.no), .op 1 ⟨none, some 6, .call false (.f 7) [.t 5]⟩ false (.sh (.one (.int .i64))), .op 2 ⟨none, some 4, .mov (.t 6)⟩ false (.no)] [0, 1, 2, 3, 4, 8]) (.seq (.ops [.op 0 ⟨none, some 7, .mov (.t 4)⟩ false (.no), .op 1 ⟨none, some 8, .bin .neq (.t 7) (.i .i64 0)⟩ false (.sh (.one .val))] [0, 1, 2, 3, 4, 8]) (.cond (.t 8) (.seq (.ops [.op 0 ⟨none, some 9, .bd [.i .i64 0, .i .i64 0, .nil] []⟩ false (.no), .op 1 ⟨none, some 10, .mov (.t 4)⟩ false (.no), .op 2 ⟨none, none, .stb 2 2 3 (.t 9)⟩ false (.sh (.one .val)), .op 3 ⟨none, some 3, .mov (.t 10)⟩ false (.no)] [0, 1, 2, 3, 4, 8]) (.ret)) (.skip)))) (.seq (.ops [.op 0 ⟨none, some 11, .fab 1 1 0⟩ false (.no), .op 1 ⟨none, some 12, .ldb 11 1 none⟩ false (.no), .op 2 ⟨none, some 13, .fab 1 1 1⟩ false (.no), .op 3 ⟨none, some 14, .ldb 13 1 none⟩ false (.no), .op 4 ⟨none, some 15, .fab 1 1 2⟩ false (.no), .op 5 ⟨none, some 16, .ldb 15 1 none⟩ false (.no), .op 6 ⟨none, some 17, .call false (.f 41) [.t 16, .f 33]⟩ false (.sh (.one (.slice))), .op 7 ⟨none, some 18, .bd [.i .i64 0, .i .i64 0, .nil] [(0, 1, .t 12), (1, 1, .t 14), (2, 1, .t 17)]⟩ false (.no), .op 8 ⟨none, none, .stb 2 2 3 (.t 18)⟩ false (.sh (.one .val)), .op 9 ⟨none, some 3, .mov (.i .i64 0)⟩ false (.no)] [0, 1, 2, 3, 4, 8]) (.ret)))
def v_mat_Least (a : M) (h : Hp) (R : Value → Hp → Prop) : Prop :=
  Tri Try.prog (.func (.func 7) #[] #[]) [a.v] h fun r h1 => ∃ x6 : Int, r = .int .i64 x6 ∧
  ((!decide (x6 = 0)) = true →
    R (.tuple #[.agg #[.int .i64 0, .int .i64 0, .slice none 0 0], .int .i64 x6]) h1
  ) ∧ ((!decide (x6 = 0)) = false →
    Tri Try.prog (.func (.func 41) #[] #[]) [a.el.v, .func (.func 33) #[] #[]] h1 fun r1 h2 => ∃ x17 : Sl, r1 = x17.v ∧
    R (.tuple #[.agg #[.int .i64 a.rows, .int .i64 a.cols, x17.v], .int .i64 0]) h2
  )
set_option maxRecDepth 100000 in
theorem t_mat_Least {a : M} {h : Hp} {R : Value → Hp → Prop} (hv : v_mat_Least a h R) : Tri Try.prog (.func (.func 22) #[] #[]) [a.v] h R :=
  tri_of_vc mixed Try.func22 (d := d_mat_Least) (RM := [(1, 1), (2, 2), (11, 1), (13, 1), (15, 1)]) (rvs := [.cell 2 (some 3), .tmp 3]) (args := [a.v]) (caps := []) (by kernel_rfl) Try.ntmps22 (V := v_mat_Least a h R) (by kernel_rfl) (by simp) hv

/- trellis/mat.Lines -/
def d_mat_Lines : Vd :=
  .seq (.ops [.op 0 ⟨none, some 1, .box 3 (.t 0)⟩ false (.sh (.one .val)), .op 1 ⟨none, some 2, .mov (.nofn)⟩ false (.no)] [0, 1, 2, 3]) (.seq (.ops [.op 0 ⟨none, some 6, .ldb 1 1 (some 3)⟩ false (.no), .op 1 ⟨none, some 7, .call false (.f 22) [.t 6]⟩ false (.sh (.tup [(some [.m], .val), (none, .int .i64)])), .op 2 ⟨none, some 5, .mov (.t 7)⟩ false (.no), .op 3 ⟨none, some 8, .ext (.t 5) 0⟩ false (.no), .op 4 ⟨none, some 9, .ext (.t 5) 1⟩ false (.no), .op 5 ⟨none, some 3, .newp [.i .i64 0, .i .i64 0, .nil]⟩ false (.sh (.one .val)), .op 6 ⟨none, none, .sth 3 (.t 3) (.t 8)⟩ false (.sh (.one .val)), .op 7 ⟨none, some 4, .mov (.t 9)⟩ false (.no)] [0, 1, 2, 3]) (.seq (.ops [.op 0 ⟨none, some 10, .mkf 57 [.t 3]⟩ false (.no), .op 1 ⟨none, some 2, .mov (.t 10)⟩ false (.no)] [0, 1, 2, 3]) (.ret)))
def v_mat_Lines (a : M) (h : Hp) (R : Value → Hp → Prop) : Prop :=
  Tri Try.prog (.func (.func 22) #[] #[]) [a.v] h fun r h1 => ∃ x7a : M, ∃ x7b : Int, r = .tuple #[x7a.v, .int .i64 x7b] ∧
  ∀ b : Nat, ∀ h2 : Hp, h1 b = none → h2 = h1.up b ⟨[.int .i64 0, .int .i64 0, .slice none 0 0], true⟩ →
  ∃ h3 : Hp, hst h2 (blkA b) [.int .i64 x7a.rows, .int .i64 x7a.cols, x7a.el.v] = some h3 ∧
  R (.func (.func 57) #[] #[.pointer (some (blkA b))]) h3
set_option maxRecDepth 100000 in
theorem t_mat_Lines {a : M} {h : Hp} {R : Value → Hp → Prop} (hv : v_mat_Lines a h R) : Tri Try.prog (.func (.func 30) #[] #[]) [a.v] h R :=
  tri_of_vc mixed Try.func30 (d := d_mat_Lines) (RM := [(1, 1)]) (rvs := [.tmp 2]) (args := [a.v]) (caps := []) (by kernel_rfl) Try.ntmps30 (V := v_mat_Lines a h R) (by kernel_rfl) (by simp) hv

/- trellis/mat.Lines$1 -/
def d_mat_Lines_1 : Vd :=
  .seq (.ops [.op 0 ⟨none, some 4, .fa 0 (.t 1)⟩ false (.no), .op 1 ⟨none, some 5, .ldh none (.t 4)⟩ false (.sh (.one (.int .i64))), .op 2 ⟨none, some 6, .mov (.i .i64 0)⟩ false (.no)] [0, 1, 3, 5, 6, 7, 25]) (.block 0 (.loop ⟨[0, 1, 5], [], []⟩ [.t 6 (.int .i64)] (.seq (.ops [.op 0 ⟨none, some 7, .bin .lss (.t 6) (.t 5)⟩ false (.sh (.one .val))] [0, 1, 3, 5, 6, 7, 25]) (.seq (.cond (.t 7) (.skip) (.exit 0)) (.seq (.block 1 (.seq (.ops [.op 0 ⟨none, some 8, .mov (.t 6)⟩ false (.no), .op 1 ⟨none, some 3, .mov (.t 8)⟩ false (.no)] [0, 1, 3, 5, 6, 7, 25]) (.seq (.ops [.op 0 ⟨none, some 9, .mov (.t 0)⟩ false (.no), .op 1 ⟨none, some 10, .mov (.t 3)⟩ false (.no), .op 2 ⟨none, some 11, .fa 2 (.t 1)⟩ false (.no), .op 3 ⟨none, some 12, .ldh none (.t 11)⟩ false (.sh (.one (.slice))), .op 4 ⟨none, some 13, .mov (.t 3)⟩ false (.no), .op 5 ⟨none, some 14, .fa 1 (.t 1)⟩ false (.no), .op 6 ⟨none, some 15, .ldh none (.t 14)⟩ false (.sh (.one (.int .i64))), .op 7 ⟨none, some 16, .bin .mul (.t 13) (.t 15)⟩ false (.sh (.one .val)), .op 8 ⟨none, some 17, .mov (.t 3)⟩ false (.no), .op 9 ⟨none, some 18, .bin .add (.t 17) (.i .i64 1)⟩ false (.sh (.one .val)), .op 10 ⟨none, some 19, .fa 1 (.t 1)⟩ false (.no), .op 11 ⟨none, some 20, .ldh none (.t 19)⟩ false (.sh (.one (.int .i64))), .op 12 ⟨none, some 21, .bin .mul (.t 18) (.t 20)⟩ false (.sh (.one .val)), .op 13 ⟨none, some 22, .sl 2 (.t 12) (some (.t 16)) (some (.t 21)) none⟩ false (.no), .op 14 ⟨none, some 23, .call false (.f 41) [.t 22, .f 33]⟩ false (.sh (.one (.slice))), .op 15 ⟨none, some 24, .call false (.t 9) [.t 10, .t 23]⟩ false (.sh (.one (.bool))), .op 16 ⟨none, some 25, .un .not (.t 24)⟩ false (.no)] [0, 1, 3, 5, 6, 7, 25]) (.cond (.t 25) (.ret) (.skip))))) (.ops [.op 0 ⟨none, some 26, .bin .add (.t 6) (.i .i64 1)⟩ false (.sh (.one .val)), .op 1 ⟨none, some 6, .mov (.t 26)⟩ false (.no)] [0, 1, 3, 5, 6, 7, 25]))))))
def v_mat_Lines_1 (E : Env) (yield : Value) (x1 : Addr) (h : Hp) (R : Value → Hp → Prop) : Prop :=
  ∃ x5 : Int, hld h (x1.add 0) none = some (.int .i64 x5) ∧
  ∃ I : Int → Hp → Prop, ∃ mu : Int → Hp → Nat, I 0 h ∧ (∀ x6 : Int, ∀ h1 : Hp, I x6 h1 →
    ((decide (x6 < x5)) = true →
      ∃ x12 : Sl, hld h1 (x1.add 2) none = some (x12.v) ∧
      ∃ x15 : Int, hld h1 (x1.add 1) none = some (.int .i64 x15) ∧
      ∀ x16 : Int, x16 = IntKind.i64.wrap (x6 * x15) →
      ∀ x18 : Int, x18 = IntKind.i64.wrap (x6 + 1) →
      ∃ x20 : Int, hld h1 (x1.add 1) none = some (.int .i64 x20) ∧
      ∀ x21 : Int, x21 = IntKind.i64.wrap (x18 * x20) →
      0 ≤ x16 ∧ x16 ≤ x21 ∧ x21 ≤ (x12.c : Int) ∧ (x12.c : Int) ≤ (x12.c : Int) ∧
      Tri E (.func (.func 41) #[] #[]) [.slice (sliceA x12.a x16 (x12.c : Int) 2) ((x21 - x16).toNat) (((x12.c : Int) - x16).toNat), .func (.func 33) #[] #[]] h1 fun r h2 => ∃ x23 : Sl, r = x23.v ∧
      Tri E (yield) [.int .i64 x6, x23.v] h2 fun r1 h3 => ∃ x24 : Bool, r1 = .bool x24 ∧
      ((!x24) = true →
        R (.tuple #[]) h3
      ) ∧ ((!x24) = false →
        ∀ x26 : Int, x26 = IntKind.i64.wrap (x6 + 1) →
        I x26 h3 ∧ mu x26 h3 < mu x6 h1
      )
    ) ∧ ((decide (x6 < x5)) = false →
      R (.tuple #[]) h1
    )
  )
set_option maxRecDepth 100000 in
theorem t_mat_Lines_1 {ok : Hp → World → Prop} {keep : ∀ {H W h w}, ok H W → Fr H W h w → ok h w} {yield : Value} {x1 : Addr} {h : Hp} {R : Value → Hp → Prop} (hv : v_mat_Lines_1 ⟨Try.prog, ok, keep⟩ yield x1 h R) : Tri ⟨Try.prog, ok, keep⟩ (.func (.func 57) #[] #[.pointer (some x1)]) [yield] h R :=
  tri_of_vcE (P := ⟨Try.prog, ok, keep⟩) mixed Try.func57 (d := d_mat_Lines_1) (RM := []) (rvs := []) (by kernel_rfl) (Or.inl (by kernel_rfl)) Try.ntmps57 (args := [yield]) (caps := [.pointer (some x1)]) (V := v_mat_Lines_1 ⟨Try.prog, ok, keep⟩ yield x1 h R) (by kernel_rfl) (by simp) hv

end Go.Proofs.Ytmfafadchpglgaa

/- mat: Check, each, Least, Scale, Lines. -/
namespace Go.Proofs.Ytmfafadchpglgaa
set_option maxRecDepth 20000

def mokB (m : M) : Bool := decide (0 ≤ m.rows ∧ m.rows ≤ 64 ∧ 0 ≤ m.cols ∧ m.cols ≤ 64 ∧ (m.el.n : Int) = m.rows * m.cols)

theorem mat_side (n : Int) {h : Hp} : Tri Try.prog (.func (.func 27) #[] #[]) [.int .i64 n] h fun v h' => h' = h ∧ v = .bool (decide (0 ≤ n ∧ n ≤ 64)) := by
  refine t_mat_side fun J hJ => ?_
  have key : ∀ x, x = decide (0 ≤ n ∧ n ≤ 64) → J x h := by rintro _ rfl; exact hJ _ _ ⟨rfl, rfl⟩
  refine ⟨fun hc => key _ ?_, fun hc => key _ ?_⟩
  · simp only [decide_eq_true_eq] at hc; simp [hc]
  · simp only [decide_eq_false_iff_not] at hc; simp [hc]

theorem mat_Check (m : M) {h : Hp} : Tri Try.prog (.func (.func 7) #[] #[]) [m.v] h fun v h' => h' = h ∧ v = .int .i64 (if mokB m then 0 else 1) := by
  refine t_mat_Check ((mat_side m.rows).const ?_)
  refine ⟨_, rfl, fun J hJ => ?_⟩
  have key : ∀ x, (x = true ↔ ¬ (0 ≤ m.rows ∧ m.rows ≤ 64 ∧ 0 ≤ m.cols ∧ m.cols ≤ 64)) → J x h := by
    intro x hx
    refine hJ x h fun J1 hJ1 => ?_
    have key1 : ∀ y, (y = true ↔ mokB m = false) → J1 y h := by
      intro y hy
      refine hJ1 y h ⟨fun e => ⟨rfl, ?_⟩, fun e => ⟨rfl, ?_⟩⟩
      · rw [if_neg (by rw [hy.1 e]; decide)]
      · rw [if_pos]
        cases hm : mokB m with
        | true => rfl
        | false => rw [hy.2 hm] at e; cases e
    refine ⟨fun e => key1 _ ?_, fun e x21 e21 => key1 _ ?_⟩
    · have := hx.1 e
      simp only [true_iff, mokB, decide_eq_false_iff_not]
      intro h; exact this ⟨h.1, h.2.1, h.2.2.1, h.2.2.2.1⟩
    · have hs : 0 ≤ m.rows ∧ m.rows ≤ 64 ∧ 0 ≤ m.cols ∧ m.cols ≤ 64 := by
        apply Classical.byContradiction
        intro hn; rw [hx.2 hn] at e; cases e
      have hp : 0 ≤ m.rows * m.cols := Int.mul_nonneg hs.1 hs.2.2.1
      have hp2 : m.rows * m.cols ≤ 64 * 64 := Int.mul_le_mul hs.2.1 hs.2.2.2 hs.2.2.1 (by decide)
      rw [i64w (by omega) (by omega)] at e21
      subst e21
      simp only [Bool.not_eq_true', decide_eq_false_iff_not, mokB]
      constructor
      · intro h hh; exact h hh.2.2.2.2
      · intro h hh; exact h ⟨hs.1, hs.2.1, hs.2.2.1, hs.2.2.2, hh⟩
  refine ⟨fun hc => key _ ?_, fun hc => (mat_side m.cols).const ?_⟩
  · simp at hc
    simp only [true_iff]
    omega
  · simp at hc
    refine ⟨_, rfl, key _ ?_⟩
    simp only [Bool.not_eq_true', decide_eq_false_iff_not]
    omega

/-- A matrix: its shape and its entries. -/
structure Mx (c : Bool) (h : Hp) (m : M) (r k : Nat) (ns : List Int) : Prop where
  rows : m.rows = (r : Int)
  cols : m.cols = (k : Int)
  r64 : r ≤ 64
  k64 : k ≤ 64
  row : RowS c h m.el ns
  len : ns.length = r * k

theorem Mx.ok {c : Bool} {h : Hp} {m : M} {r k : Nat} {ns : List Int} (g : Mx c h m r k ns) : mokB m = true := by
  have h1 := g.row.len
  have h2 := g.len
  have h3 := g.rows
  have h4 := g.cols
  have h5 := g.r64
  have h6 := g.k64
  simp only [mokB, decide_eq_true_eq]
  refine ⟨by omega, by omega, by omega, by omega, ?_⟩
  rw [h3, h4, h1, h2, Int.natCast_mul]
theorem Mx.le {c : Bool} {h h' : Hp} {m : M} {r k : Nat} {ns : List Int} (g : Mx c h m r k ns) (l : h.le h') : Mx c h' m r k ns := { g with row := g.row.le l }

theorem rep_set {F : Int → Int} {ns : List Int} {i : Nat} (hi : i < ns.length) : ((ns.take i).map F ++ List.replicate (ns.length - i) 0).set i (F (ns.getD i 0)) = (ns.take (i + 1)).map F ++ List.replicate (ns.length - (i + 1)) 0 := by
  have h1 : ((ns.take i).map F).length = i := by simp; omega
  obtain ⟨m, hm⟩ : ∃ m, ns.length - i = m + 1 := ⟨ns.length - i - 1, by omega⟩
  rw [List.set_append_right _ _ (by omega), h1, Nat.sub_self, hm, List.replicate_succ, List.set_cons_zero, show ns.length - (i + 1) = m by omega, show ns.getD i 0 = ns[i] by simp [List.getD, hi], List.take_succ_eq_append_getElem hi, List.map_append, List.append_assoc]
  rfl

theorem mat_each {f : Nat} {p q : Array Value} {F : Int → Int} {c : Bool} {h : Hp} {s : Sl} {ns : List Int} (g : RowS c h s ns) (hn : ns.length ≤ 1048576)
    (hf : ∀ (h1 : Hp) (z : Z) (n : Int), h.le h1 → n ∈ ns → Zs h1 z n → Tri Try.prog (.func (.func f) p q) [z.v] h1 fun v h' => ZP h1 h' v (F n)) (hs : ∀ n ∈ ns, Sz (F n)) :
    Tri Try.prog (.func (.func 41) #[] #[]) [s.v, .func (.func f) p q] h fun v h' => h.le h' ∧ ∃ k, v = Sl.v ⟨some (blkA k), ns.length, ns.length⟩ ∧ h k = none ∧ RowB true h' k (ns.map F) := by
  have hl := g.len
  refine t_mat_each_api_Int_api_Int ⟨by omega, by omega, by omega, by omega, ?_⟩
  rintro k h1 hk rfl
  rw [Int.toNat_natCast, hl]
  refine ⟨fun i h2 => ∃ I : Nat, i = I ∧ I ≤ ns.length ∧ h.le h2 ∧ RowB true h2 k ((ns.take I).map F ++ List.replicate (ns.length - I) 0), fun i _ => ns.length - i.toNat, ⟨0, rfl, by omega, Hp.le_up _ hk, by simpa using RowB.new true hk⟩, ?_⟩
  rintro _ h2 ⟨I, rfl, hI, l2, gB⟩
  refine ⟨fun hc => ?_, fun hc => ?_⟩
  · simp only [decide_eq_true_eq] at hc
    have hI' : I < ns.length := by omega
    obtain ⟨z, hld, hz⟩ := (g.le l2).ld (j := (I : Int)) (by omega) (by omega)
    rw [Int.toNat_natCast] at hz
    have hmem : ns.getD I 0 ∈ ns := by simp [List.getD, hI']
    refine ⟨by omega, by omega, g.isS (by omega), z, hld, (hf h2 z _ l2 hmem hz.zs).mono ?_⟩
    rintro _ h3 ⟨l3, z', rfl, hz'⟩
    obtain ⟨cs, hst, hput⟩ := (gB.le l3).st (j := (I : Int)) (by omega) (by simp; omega) z'
    refine ⟨_, rfl, by omega, by omega, rfl, _, hst, fun x24 e => ?_⟩
    rw [i64w (by omega) (by omega)] at e
    subst e
    have := hput _ (hz'.ze (hs _ hmem) true)
    rw [Int.toNat_natCast, rep_set hI'] at this
    exact ⟨⟨I + 1, by omega, by omega, le_up_of_none hk (Hp.le_trans l2 l3), this⟩, by dsimp only; omega⟩
  · simp only [decide_eq_false_iff_not] at hc
    have hIn : I = ns.length := by omega
    subst hIn
    rw [Nat.sub_self, List.replicate_zero, List.append_nil, List.take_length] at gB
    exact ⟨l2, k, rfl, hk, gB⟩

theorem mat_Least {c : Bool} {h : Hp} {m : M} {r k : Nat} {ns : List Int} (g : Mx c h m r k ns) (hs : ∀ n ∈ ns, Sz n) :
    Tri Try.prog (.func (.func 22) #[] #[]) [m.v] h fun v h' => h.le h' ∧ ∃ m' : M, v = .tuple #[m'.v, .int .i64 0] ∧ Mx true h' m' r k ns ∧ ∃ b, m'.el.a = some (blkA b) ∧ h b = none := by
  refine t_mat_Least ((mat_Check m).const ?_)
  refine ⟨_, rfl, fun hc => ?_, fun _ => ?_⟩
  · rw [g.ok] at hc; simp at hc
  have hlen : ns.length ≤ 4096 := by rw [g.len]; exact Nat.mul_le_mul g.r64 g.k64
  refine (mat_each (F := fun n => n) g.row (by omega) (fun h1 z n l hn hz => zint_Least hz) hs).mono ?_
  rintro _ h2 ⟨l2, b, rfl, hb, gB⟩
  rw [List.map_id'] at gB
  exact ⟨_, rfl, l2, ⟨m.rows, m.cols, ⟨some (blkA b), ns.length, ns.length⟩⟩, rfl, ⟨g.rows, g.cols, g.r64, g.k64, gB.row (Nat.le_refl _), g.len⟩, b, rfl, hb⟩

theorem mat_Scale {c c' : Bool} {h : Hp} {m : M} {r k : Nat} {ns : List Int} {z : Z} {x : Int} (gz : Ze c' h z x) (g : Mx c h m r k ns) (hs : ∀ n ∈ ns, Sz (x * n)) :
    Tri Try.prog (.func (.func 15) #[] #[]) [z.v, m.v] h fun v h' => h.le h' ∧ ∃ m' : M, v = .tuple #[m'.v, .int .i64 0] ∧ Mx true h' m' r k (ns.map (x * ·)) := by
  refine t_mat_Scale ?_
  rintro b h1 hb rfl
  have l1 : h.le (h.up b ⟨[.bool z.neg, z.mag.v], true⟩) := Hp.le_up _ hb
  refine (mat_Check m).const ?_
  refine ⟨_, rfl, fun hc => ?_, fun _ => ?_⟩
  · rw [g.ok] at hc; simp at hc
  have hlen : ns.length ≤ 4096 := by rw [g.len]; exact Nat.mul_le_mul g.r64 g.k64
  refine (mat_each (F := (x * ·)) (g.row.le l1) (by omega) (fun h2 y n l hn hy => ?_) hs).mono ?_
  · refine t_mat_Scale_1 ?_
    have hbv := l _ _ (up_get h b ⟨[.bool z.neg, z.mag.v], true⟩)
    refine ⟨z, ?_, ?_⟩
    · simp only [hld, if_true, hbv, Option.bind_some, cld]
      rfl
    · refine (zint_Mul (gz.zs.le (Hp.le_trans l1 l)) hy).mono ?_
      rintro _ h3 ⟨l3, w, rfl, hw⟩
      exact ⟨_, rfl, l3, w, rfl, hw⟩
  · rintro _ h2 ⟨l2, b', rfl, hb', gB⟩
    refine ⟨_, rfl, Hp.le_trans l1 l2, ⟨m.rows, m.cols, ⟨some (blkA b'), ns.length, ns.length⟩⟩, rfl, g.rows, g.cols, g.r64, g.k64, ?_, by rw [List.length_map]; exact g.len⟩
    have := gB.row (cc := ns.length) (by simp)
    rw [List.length_map] at this
    exact this

/-- Part of a slice of integers. -/
theorem RowS.part {c : Bool} {h : Hp} {s : Sl} {ns : List Int} (g : RowS c h s ns) {l e : Nat} {m : Int} {cc : Nat} (h1 : l ≤ e) (h2 : e ≤ ns.length) (hm : (e : Int) ≤ m) (hc : e - l ≤ cc) : RowS c h ⟨sliceA s.a (l : Int) m 2, e - l, cc⟩ ((ns.drop l).take (e - l)) := by
  obtain ⟨zs, a, b⟩ := g.ex
  have hl := b.len
  refine ⟨⟨(zs.drop l).take (e - l), ⟨by rw [zcs_len]; simp; omega, fun hne => ?_⟩, b.takeD l (e - l)⟩, hc⟩
  have hlt : l < e := by
    rcases Nat.lt_or_ge l e with h | h
    · exact h
    · exfalso; apply hne; rw [show e - l = 0 by omega]; simp [zcs]
  have hzl : (zcs zs).length = zs.length * 2 := zcs_len zs
  obtain ⟨k, off, x, e1, e2, e3, e4⟩ := a.mem (by intro e; rw [e] at hzl; simp at hzl; omega)
  refine ⟨k, off + l * 2, x, ?_, e2, ?_, ?_⟩
  · unfold sliceA
    rw [e1]
    split
    · rename_i hh; exfalso; omega
    · rw [Option.map_some, add_none]; simp
  · rw [zcs_len] at e3 ⊢; simp; omega
  · rw [zcs_len, ← zcs_take, ← zcs_drop, ← e4, List.drop_take, List.take_take, List.drop_drop, zcs_len]
    congr 1
    simp; omega

/-- The rows of a matrix. -/
def rowOf (ns : List Int) (k i : Nat) : List Int := (ns.drop (i * k)).take k

theorem lines_iter {h : Hp} {b : Nat} {m : M} {r k : Nat} {ns : List Int} (g : Mx true h m r k ns) (hs : ∀ n ∈ ns, Sz n) (hb : h b = some ⟨[.int .i64 m.rows, .int .i64 m.cols, m.el.v], true⟩) :
    IterL Try.prog (.func (.func 57) #[] #[.pointer (some (blkA b))]) h r [.int .i64, .slice] (fun i hj x row h' => x = (i : Int) ∧ ∃ kb, row = ⟨some (blkA kb), k, k⟩ ∧ hj kb = none ∧ RowB true h' kb (rowOf ns k i)) := by
  refine ⟨⟨57, _, _, _, rfl, Try.func57, rfl, by kernel_rfl⟩, ?_⟩
  intro E hE l J h0 hJh j0 hJ
  obtain ⟨P, ok, keep⟩ := E
  simp only at hE
  subst hE
  have rd : ∀ h1, h.le h1 → hld h1 ((blkA b).add 0) none = some (.int .i64 m.rows) ∧ hld h1 ((blkA b).add 1) none = some (.int .i64 m.cols) ∧ hld h1 ((blkA b).add 2) none = some m.el.v := fun h1 l1 => by
    have := l1 _ _ hb
    refine ⟨?_, ?_, ?_⟩ <;> simp only [add_none, hld, if_true, this, Option.bind_some, cld] <;> rfl
  have hlen : ns.length ≤ 4096 := by rw [g.len]; exact Nat.mul_le_mul g.r64 g.k64
  have hr64 := g.r64
  have hk64 := g.k64
  have hel := g.row.len
  have hcap := g.row.cap
  refine t_mat_Lines_1 (ok := ok) (keep := @keep) (yield := .func (.yield l) #[] #[]) ?_
  refine ⟨_, (rd h0 (hJh 0 h0 j0)).1, fun i h1 => ∃ I : Nat, i = I ∧ I ≤ r ∧ J I h1, fun i _ => r - i.toNat, ⟨0, rfl, by omega, j0⟩, ?_⟩
  rintro _ h1 ⟨I, rfl, hI, hj⟩
  have l1 := hJh _ _ hj
  refine ⟨fun hc => ?_, fun hc => ?_⟩
  · simp only [decide_eq_true_eq] at hc
    have hI' : I < r := by have := g.rows; omega
    refine ⟨_, (rd h1 l1).2.2, _, (rd h1 l1).2.1, fun x16 e16 x18 e18 => ⟨_, (rd h1 l1).2.1, fun x21 e21 => ?_⟩⟩
    have hIk : I * k ≤ 64 * 64 := Nat.mul_le_mul (by omega) hk64
    have hIk2 : (I + 1) * k ≤ r * k := Nat.mul_le_mul_right _ hI'
    have hgl := g.len
    rw [g.cols, ← Int.natCast_mul, i64w (by omega) (by omega)] at e16
    subst e16
    rw [i64w (by omega) (by omega)] at e18
    subst e18
    have hc1 : ((I : Int) + 1) * (k : Int) = (((I + 1) * k : Nat) : Int) := by rw [Int.natCast_mul]; congr 1
    rw [g.cols, hc1, i64w (by omega) (by omega)] at e21
    subst e21
    have hk1 : (I + 1) * k = I * k + k := by rw [Nat.add_mul, Nat.one_mul]
    have hlt : ((I + 1) * k : Nat) ≤ m.el.c := by omega
    refine ⟨by omega, by omega, by omega, by omega, ?_⟩
    have ee : (((I + 1) * k : Nat) : Int) - ((I * k : Nat) : Int) = (k : Int) := by omega
    rw [ee, Int.toNat_natCast]
    have gp := (g.row.le l1).part (l := I * k) (e := (I + 1) * k) (m := (m.el.c : Int)) (cc := ((m.el.c : Int) - ((I * k : Nat) : Int)).toNat) (by omega) (by omega) (by omega) (by omega)
    rw [show (I + 1) * k - I * k = k by omega] at gp
    have hrl : ((ns.drop (I * k)).take k).length = k := by simp; omega
    refine (Tri.lift (E := ⟨_, ok, @keep⟩) rfl (mat_each (F := fun n => n) gp (by omega) (fun h1 z n l hn hz => zint_Least hz) (fun n hn => hs n (List.mem_of_mem_drop (List.mem_of_mem_take hn))))).mono ?_
    rintro _ h2 ⟨l2, kb, rfl, hkb, gB⟩
    rw [List.map_id'] at gB
    rw [hrl]
    refine ⟨_, rfl, (hJ I h1 h2 [.int .i64 (I : Int), .slice (some (blkA kb)) k k] hI' hj l2 (by simp only [appJ, if_true]; exact ⟨trivial, kb, rfl, hkb, gB⟩)).mono ?_⟩
    rintro _ h3 ⟨rfl, hj3⟩
    refine ⟨_, rfl, fun hc => by simp at hc, fun _ x26 e26 => ?_⟩
    rw [i64w (by omega) (by omega)] at e26
    subst e26
    exact ⟨⟨I + 1, by omega, by omega, hj3⟩, by dsimp only; omega⟩
  · simp only [decide_eq_false_iff_not] at hc
    have hI' : I = r := by have := g.rows; omega
    subst hI'
    exact hj

/-- The memory without these blocks. -/
def delL (h : Hp) : List Nat → Hp
  | [] => h
  | k :: ls => (delL h ls).del k
theorem delL_le (h : Hp) : ∀ ls : List Nat, (delL h ls).le h
  | [] => Hp.le_refl h
  | k :: ls => Hp.le_trans (Hp.del_le _ k) (delL_le h ls)
theorem delL_get {h : Hp} {j : Nat} : ∀ {ls : List Nat}, delL h ls j = if j ∈ ls then none else h j
  | [] => by simp [delL]
  | k :: ls => by
    simp only [delL, Hp.del]
    by_cases e : j = k
    · simp [e]
    · rw [if_neg e, delL_get (ls := ls)]; simp [e]
theorem NoI.mono {h h' : Hp} {b : Nat} (l : h'.le h) (n : NoI h b) : NoI h' b := fun x hx => n x (l _ _ hx)
theorem RowS.del {c : Bool} {h : Hp} {s : Sl} {ns : List Int} (g : RowS c h s ns) {k b : Nat} (hs : s.a = some (blkA b)) (hb : b ≠ k) (hn : NoI h k) : RowS c (h.del k) s ns := by
  obtain ⟨zs, a, d⟩ := g.ex
  refine ⟨⟨zs, ⟨a.len, fun hne => ?_⟩, d.del hn⟩, g.cap⟩
  obtain ⟨k', off, x, e1, e2, e3, e4⟩ := a.mem hne
  rw [hs] at e1
  cases e1
  exact ⟨b, 0, x, hs, by unfold Hp.del; rw [if_neg hb]; exact e2, e3, e4⟩
theorem RowS.delL {c : Bool} {h : Hp} {s : Sl} {ns : List Int} (g : RowS c h s ns) {b : Nat} (hs : s.a = some (blkA b)) : ∀ {ls : List Nat}, (∀ k ∈ ls, b ≠ k ∧ NoI h k) → RowS c (delL h ls) s ns
  | [], _ => g
  | k :: ls, hl => (g.delL hs fun j hj => hl j (by simp [hj])).del hs (hl k (by simp)).1 ((hl k (by simp)).2.mono (delL_le h ls))

theorem mat_Lines {c : Bool} {h : Hp} {m : M} {r k : Nat} {ns : List Int} (g : Mx c h m r k ns) (hs : ∀ n ∈ ns, Sz n) :
    Tri Try.prog (.func (.func 30) #[] #[]) [m.v] h fun v h' => h.le h' ∧ ∃ (f : Nat) (p q : Array Value), v = .func (.func f) p q ∧
      ∀ ls : List Nat, (∀ j ∈ ls, h j ≠ none ∧ NoI h' j) → IterL Try.prog v (delL h' ls) r [.int .i64, .slice] (fun i hj x row h2 => x = (i : Int) ∧ ∃ kb, row = ⟨some (blkA kb), k, k⟩ ∧ hj kb = none ∧ RowB true h2 kb (rowOf ns k i)) := by
  refine t_mat_Lines ((mat_Least g hs).mono ?_)
  rintro _ h1 ⟨l1, m', rfl, gm, b', eb', hb'⟩
  refine ⟨_, _, rfl, ?_⟩
  rintro b h2 hb rfl
  have hb2 := up_get h1 b ⟨[.int .i64 0, .int .i64 0, .slice none 0 0], true⟩
  refine ⟨_, hst_at hb2 (by simp), ?_⟩
  rw [Hp.up_up]
  have hset : setAt [Value.int .i64 0, .int .i64 0, .slice none 0 0] 0 [.int .i64 m'.rows, .int .i64 m'.cols, m'.el.v] = [.int .i64 m'.rows, .int .i64 m'.cols, m'.el.v] := rfl
  rw [hset]
  have l2 : h1.le (h1.up b ⟨[.int .i64 m'.rows, .int .i64 m'.cols, m'.el.v], true⟩) := Hp.le_up _ hb
  refine ⟨Hp.le_trans l1 l2, _, _, _, rfl, fun ls hls => ?_⟩
  have hbls : b ∉ ls := fun hin => (hls b hin).1 (Hp.none_of_le l1 hb)
  refine lines_iter { gm with row := (gm.row.le l2).delL eb' fun j hj => ⟨fun e => (hls j hj).1 (e ▸ hb'), (hls j hj).2⟩ } hs ?_
  rw [delL_get, if_neg hbls]
  exact up_get _ _ _

end Go.Proofs.Ytmfafadchpglgaa

/- PRINTED BY vcgen.py: code with hints, the formula to show, the theorem; each check by the kernel. -/
namespace Go.Proofs.Ytmfafadchpglgaa

/- trellis/modhnf.start -/
def d_modhnf_start : Vd :=
  .seq (.ops [.op 0 ⟨none, some 3, .box 2 (.t 1)⟩ false (.sh (.one .val)), .op 1 ⟨none, some 4, .mov (.pnil)⟩ false (.no)] [0, 1, 3, 4, 5, 6, 7, 12, 13, 14]) (.seq (.ops [.op 0 ⟨none, some 8, .ldb 3 3 (some 2)⟩ false (.no), .op 1 ⟨none, some 9, .call false (.f 16) [.t 8]⟩ false (.sh (.agg [.z])), .op 2 ⟨none, some 10, .bd [.nil, .b false, .nil] [(1, 2, .t 9)]⟩ false (.no), .op 3 ⟨none, some 11, .boxp 3 (.t 10)⟩ false (.sh (.one .val)), .op 4 ⟨none, some 5, .mov (.t 11)⟩ false (.no)] [0, 1, 3, 4, 5, 6, 7, 12, 13, 14]) (.seq (.seq (.ops [.op 0 ⟨none, some 12, .mov (.t 0)⟩ false (.no), .op 1 ⟨none, some 13, .mov (.i .i64 0)⟩ false (.no)] [0, 1, 3, 4, 5, 6, 7, 12, 13, 14]) (.block 0 (.loop ⟨[0, 3, 5, 12], [3], [3]⟩ [.t 13 (.int .i64)] (.seq (.ops [.op 0 ⟨none, some 14, .bin .lss (.t 13) (.t 12)⟩ false (.sh (.one .val))] [0, 1, 3, 4, 5, 6, 7, 12, 13, 14]) (.seq (.cond (.t 14) (.skip) (.exit 0)) (.seq (.block 1 (.seq (.ops [.op 0 ⟨none, some 15, .mov (.t 13)⟩ false (.no), .op 1 ⟨none, some 6, .mov (.t 15)⟩ false (.no)] [0, 1, 3, 4, 5, 6, 7, 12, 13, 14]) (.seq (.ops [.op 0 ⟨none, some 16, .mov (.t 0)⟩ false (.no), .op 1 ⟨none, some 17, .mk [.b false, .nil] 32 (.t 16) (.t 16)⟩ false (.sh (.one .val)), .op 2 ⟨none, some 7, .mov (.t 17)⟩ false (.no)] [0, 1, 3, 4, 5, 6, 7, 12, 13, 14]) (.seq (.ops [.op 0 ⟨none, some 18, .mov (.t 7)⟩ false (.no), .op 1 ⟨none, some 19, .mov (.t 6)⟩ false (.no), .op 2 ⟨none, some 20, .ldb 3 3 (some 2)⟩ false (.no), .op 3 ⟨none, some 21, .call false (.f 16) [.t 20]⟩ false (.sh (.agg [.z])), .op 4 ⟨none, some 22, .ia 2 (.t 18) (.t 19)⟩ false (.no), .op 5 ⟨none, none, .sth 2 (.t 22) (.t 21)⟩ false (.sh (.one .val))] [0, 1, 3, 4, 5, 6, 7, 12, 13, 14]) (.ops [.op 0 ⟨none, some 23, .mov (.t 5)⟩ false (.no), .op 1 ⟨none, some 24, .mov (.t 5)⟩ false (.no), .op 2 ⟨none, some 25, .nilck (.t 24)⟩ false (.no), .op 3 ⟨none, some 26, .fa 0 (.t 25)⟩ false (.no), .op 4 ⟨none, some 27, .ldh none (.t 26)⟩ false (.sh (.one (.slice))), .op 5 ⟨none, some 28, .mov (.t 7)⟩ false (.no), .op 6 ⟨none, some 29, .bs [.nil] 1 1 [(0, .t 28)]⟩ false (.sh (.one .val)), .op 7 ⟨none, some 30, .app 1 24 [.nil] (.t 27) (.t 29)⟩ false (.sh (.one .slice)), .op 8 ⟨none, some 31, .nilck (.t 23)⟩ false (.no), .op 9 ⟨none, some 32, .fa 0 (.t 31)⟩ false (.no), .op 10 ⟨none, none, .sth 1 (.t 32) (.t 30)⟩ false (.sh (.one .val))] [0, 1, 3, 4, 5, 6, 7, 12, 13, 14]))))) (.ops [.op 0 ⟨none, some 33, .bin .add (.t 13) (.i .i64 1)⟩ false (.sh (.one .val)), .op 1 ⟨none, some 13, .mov (.t 33)⟩ false (.no)] [0, 1, 3, 4, 5, 6, 7, 12, 13, 14]))))))) (.seq (.ops [.op 0 ⟨none, some 34, .mov (.t 5)⟩ false (.no), .op 1 ⟨none, some 4, .mov (.t 34)⟩ false (.no)] [0, 1, 3, 4, 5, 6, 7, 12, 13, 14]) (.ret))))
def v_modhnf_start (n : Int) (d : Z) (h : Hp) (R : Value → Hp → Prop) : Prop :=
  Tri Try.prog (.func (.func 16) #[] #[]) [d.v] h fun r h1 => ∃ x9 : Z, r = x9.v ∧
  ∀ b : Nat, ∀ h2 : Hp, h1 b = none → h2 = h1.up b ⟨[.slice none 0 0, .bool x9.neg, x9.mag.v], true⟩ →
  ∃ I : Int → Hp → Prop, ∃ mu : Int → Hp → Nat, I 0 h2 ∧ (∀ x13 : Int, ∀ h3 : Hp, I x13 h3 →
    ((decide (x13 < n)) = true →
      0 ≤ n ∧ n ≤ n ∧ (32 : Nat) * n ≤ 281474976710656 ∧ n < 9223372036854775808 ∧ ∀ b1 : Nat, ∀ h4 : Hp, h3 b1 = none → h4 = h3.up b1 ⟨mkCells [.bool false, .slice none 0 0] (Int.toNat n * 2), true⟩ →
      Tri Try.prog (.func (.func 16) #[] #[]) [d.v] h4 fun r1 h5 => ∃ x21 : Z, r1 = x21.v ∧
      0 ≤ x13 ∧ x13 < (Int.toNat n : Int) ∧ (some (blkA b1)).isSome = true ∧
      ∃ h6 : Hp, hst h5 (elemA (some (blkA b1)) x13 2) [.bool x21.neg, x21.mag.v] = some h6 ∧
      ∃ x27 : Sl, hld h6 ((blkA b).add 0) none = some (x27.v) ∧
      ∀ b2 : Nat, ∀ h7 : Hp, h6 b2 = none → h7 = h6.up b2 ⟨[.slice (some (blkA b1)) (Int.toNat n) (Int.toNat n)], true⟩ →
      ∃ ys : List Value, firstOf h7 (some (blkA b2)) 1 1 = some ys ∧ appRes h7 x27.a x27.n x27.c 1 1 24 [.nil] ys fun r2 h8 => ∃ x30 : Sl, r2 = x30.v ∧
      ∃ h9 : Hp, hst h8 ((blkA b).add 0) [x30.v] = some h9 ∧
      ∀ x33 : Int, x33 = IntKind.i64.wrap (x13 + 1) →
      I x33 h9 ∧ mu x33 h9 < mu x13 h3
    ) ∧ ((decide (x13 < n)) = false →
      R (.pointer (some (blkA b))) h3
    )
  )
set_option maxRecDepth 100000 in
theorem t_modhnf_start {n : Int} {d : Z} {h : Hp} {R : Value → Hp → Prop} (hv : v_modhnf_start n d h R) : Tri Try.prog (.func (.func 29) #[] #[]) [.int .i64 n, d.v] h R :=
  tri_of_vc mixed Try.func29 (d := d_modhnf_start) (RM := [(3, 3)]) (rvs := [.tmp 4]) (args := [.int .i64 n, d.v]) (caps := []) (by kernel_rfl) Try.ntmps29 (V := v_modhnf_start n d h R) (by kernel_rfl) (by simp) hv

/- (*trellis/modhnf.basis).mix -/
def d_modhnf_basis_mix : Vd :=
  .seq (.ops [.op 0 ⟨none, some 8, .box 2 (.t 2)⟩ false (.sh (.one .val)), .op 1 ⟨none, some 10, .box 2 (.t 4)⟩ false (.sh (.one .val)), .op 2 ⟨none, some 12, .mov (.nil)⟩ false (.no)] [0, 1, 2, 3, 4, 5, 8, 10, 12, 13, 14, 19, 20, 21, 25, 43]) (.seq (.ops [.op 0 ⟨none, some 15, .mov (.t 3)⟩ false (.no), .op 1 ⟨none, some 16, .len (.t 15)⟩ false (.no), .op 2 ⟨none, some 17, .mk [.b false, .nil] 32 (.t 16) (.t 16)⟩ false (.sh (.one .val)), .op 3 ⟨none, some 13, .mov (.t 17)⟩ false (.no)] [0, 1, 2, 3, 4, 5, 8, 10, 12, 13, 14, 19, 20, 21, 25, 43]) (.seq (.seq (.ops [.op 0 ⟨none, some 18, .mov (.t 13)⟩ false (.no), .op 1 ⟨none, some 19, .len (.t 18)⟩ false (.no), .op 2 ⟨none, some 20, .mov (.i .i64 0)⟩ false (.no)] [0, 1, 2, 3, 4, 5, 8, 10, 12, 13, 14, 19, 20, 21, 25, 43]) (.block 0 (.loop ⟨[0, 1, 3, 5, 8, 10, 13, 19], [8, 10], [8, 10]⟩ [.t 20 (.int .i64)] (.seq (.ops [.op 0 ⟨none, some 21, .bin .lss (.t 20) (.t 19)⟩ false (.sh (.one .val))] [0, 1, 2, 3, 4, 5, 8, 10, 12, 13, 14, 19, 20, 21, 25, 43]) (.seq (.cond (.t 21) (.skip) (.exit 0)) (.join ⟨[0, 1, 3, 5, 8, 10, 13, 19, 20], [8, 10], [8, 10]⟩ [] (.block 1 (.seq (.ops [.op 0 ⟨none, some 22, .mov (.t 20)⟩ false (.no), .op 1 ⟨none, some 14, .mov (.t 22)⟩ false (.no)] [0, 1, 2, 3, 4, 5, 8, 10, 12, 13, 14, 19, 20, 21, 25, 43]) (.seq (.seq (.ops [.op 0 ⟨none, some 23, .mov (.t 14)⟩ false (.no), .op 1 ⟨none, some 24, .mov (.t 1)⟩ false (.no), .op 2 ⟨none, some 25, .bin .lss (.t 23) (.t 24)⟩ false (.sh (.one .val))] [0, 1, 2, 3, 4, 5, 8, 10, 12, 13, 14, 19, 20, 21, 25, 43]) (.cond (.t 25) (.exit 1) (.skip))) (.seq (.ops [.op 0 ⟨none, some 26, .mov (.t 13)⟩ false (.no), .op 1 ⟨none, some 27, .mov (.t 14)⟩ false (.no), .op 2 ⟨none, some 28, .ldb 8 8 (some 2)⟩ false (.no), .op 3 ⟨none, some 29, .mov (.t 3)⟩ false (.no), .op 4 ⟨none, some 30, .mov (.t 14)⟩ false (.no), .op 5 ⟨none, some 31, .ia 2 (.t 29) (.t 30)⟩ false (.no), .op 7 ⟨none, some 33, .ldb 10 10 (some 2)⟩ false (.no), .op 8 ⟨none, some 34, .mov (.t 5)⟩ false (.no), .op 9 ⟨none, some 35, .mov (.t 14)⟩ false (.no), .op 10 ⟨none, some 36, .ia 2 (.t 34) (.t 35)⟩ false (.no), .op 6 ⟨none, some 32, .ldh (some 2) (.t 31)⟩ false (.sh (.agg [.z])), .op 11 ⟨none, some 37, .ldh (some 2) (.t 36)⟩ false (.sh (.agg [.z])), .op 12 ⟨none, some 38, .call true (.f 11) [.t 33, .t 37]⟩ false (.sh (.agg [.z])), .op 13 ⟨none, some 39, .call true (.f 24) [.t 28, .t 32, .t 38]⟩ false (.sh (.agg [.z])), .op 14 ⟨none, some 40, .ia 2 (.t 26) (.t 27)⟩ false (.no), .op 15 ⟨none, none, .sth 2 (.t 40) (.t 39)⟩ false (.sh (.one .val))] [0, 1, 2, 3, 4, 5, 8, 10, 12, 13, 14, 19, 20, 21, 25, 43]) (.seq (.ops [.op 0 ⟨none, some 41, .mov (.t 14)⟩ false (.no), .op 1 ⟨none, some 42, .mov (.t 1)⟩ false (.no), .op 2 ⟨none, some 43, .bin .gtr (.t 41) (.t 42)⟩ false (.sh (.one .val))] [0, 1, 2, 3, 4, 5, 8, 10, 12, 13, 14, 19, 20, 21, 25, 43]) (.cond (.t 43) (.ops [.op 0 ⟨none, some 45, .mov (.t 13)⟩ false (.no), .op 1 ⟨none, some 46, .mov (.t 14)⟩ false (.no), .op 2 ⟨none, some 47, .mov (.t 13)⟩ false (.no), .op 3 ⟨none, some 48, .mov (.t 14)⟩ false (.no), .op 4 ⟨none, some 49, .ia 2 (.t 47) (.t 48)⟩ false (.no), .op 6 ⟨none, some 51, .mov (.t 0)⟩ false (.no), .op 7 ⟨none, some 52, .nilck (.t 51)⟩ false (.no), .op 8 ⟨none, some 53, .fa 1 (.t 52)⟩ false (.no), .op 5 ⟨none, some 50, .ldh (some 2) (.t 49)⟩ false (.sh (.agg [.z])), .op 9 ⟨none, some 54, .ldh (some 2) (.t 53)⟩ false (.sh (.agg [.z])), .op 10 ⟨none, some 55, .call false (.f 58) [.t 50, .t 54]⟩ false (.sh (.tup [(some [.z], .val), (none, .int .i64)])), .op 11 ⟨none, some 44, .mov (.t 55)⟩ false (.no), .op 12 ⟨none, some 56, .ext (.t 44) 0⟩ false (.no), .op 13 ⟨none, some 57, .ext (.t 44) 1⟩ false (.no), .op 14 ⟨none, some 58, .ia 2 (.t 45) (.t 46)⟩ false (.no), .op 15 ⟨none, none, .sth 2 (.t 58) (.t 56)⟩ false (.sh (.one .val))] [0, 1, 2, 3, 4, 5, 8, 10, 12, 13, 14, 19, 20, 21, 25, 43]) (.skip))))))) (.ops [.op 0 ⟨none, some 59, .bin .add (.t 20) (.i .i64 1)⟩ false (.sh (.one .val)), .op 1 ⟨none, some 20, .mov (.t 59)⟩ false (.no)] [0, 1, 2, 3, 4, 5, 8, 10, 12, 13, 14, 19, 20, 21, 25, 43]))))))) (.seq (.ops [.op 0 ⟨none, some 60, .mov (.t 13)⟩ false (.no), .op 1 ⟨none, some 12, .mov (.t 60)⟩ false (.no)] [0, 1, 2, 3, 4, 5, 8, 10, 12, 13, 14, 19, 20, 21, 25, 43]) (.ret))))
def v_modhnf_basis_mix (b : Addr) (j : Int) (x : Z) (v : Sl) (y : Z) (w : Sl) (h : Hp) (R : Value → Hp → Prop) : Prop :=
  0 ≤ (v.n : Int) ∧ (v.n : Int) ≤ (v.n : Int) ∧ (32 : Nat) * (v.n : Int) ≤ 281474976710656 ∧ (v.n : Int) < 9223372036854775808 ∧ ∀ b1 : Nat, ∀ h1 : Hp, h b1 = none → h1 = h.up b1 ⟨mkCells [.bool false, .slice none 0 0] (Int.toNat (v.n : Int) * 2), true⟩ →
  ∃ I : Int → Hp → Prop, ∃ mu : Int → Hp → Nat, I 0 h1 ∧ (∀ x20 : Int, ∀ h2 : Hp, I x20 h2 →
    ((decide (x20 < (Int.toNat (v.n : Int) : Int))) = true →
      ∀ J : Hp → Prop, (∀ h3 : Hp, (
        ∀ x59 : Int, x59 = IntKind.i64.wrap (x20 + 1) →
        I x59 h3 ∧ mu x59 h3 < mu x20 h2
      ) → J h3) →
      ((decide (x20 < j)) = true →
        J h2
      ) ∧ ((decide (x20 < j)) = false →
        0 ≤ x20 ∧ x20 < (v.n : Int) ∧ v.a.isSome = true ∧
        0 ≤ x20 ∧ x20 < (w.n : Int) ∧ w.a.isSome = true ∧
        ∃ x32 : Z, hld h2 (elemA v.a x20 2) (some 2) = some (x32.v) ∧
        ∃ x37 : Z, hld h2 (elemA w.a x20 2) (some 2) = some (x37.v) ∧
        Tri Try.prog (.func (.func 11) #[] #[]) [y.v, x37.v] h2 fun r h4 => h2.le h4 ∧ ∃ x38 : Z, r = x38.v ∧
        Tri Try.prog (.func (.func 24) #[] #[]) [x.v, x32.v, x38.v] h4 fun r1 h5 => h4.le h5 ∧ ∃ x39 : Z, r1 = x39.v ∧
        0 ≤ x20 ∧ x20 < (Int.toNat (v.n : Int) : Int) ∧ (some (blkA b1)).isSome = true ∧
        ∃ h6 : Hp, hst h5 (elemA (some (blkA b1)) x20 2) [.bool x39.neg, x39.mag.v] = some h6 ∧
        ((decide (j < x20)) = true →
          0 ≤ x20 ∧ x20 < (Int.toNat (v.n : Int) : Int) ∧ (some (blkA b1)).isSome = true ∧
          ∃ x50 : Z, hld h6 (elemA (some (blkA b1)) x20 2) (some 2) = some (x50.v) ∧
          ∃ x54 : Z, hld h6 (b.add 1) (some 2) = some (x54.v) ∧
          Tri Try.prog (.func (.func 58) #[] #[]) [x50.v, x54.v] h6 fun r2 h7 => ∃ x55a : Z, ∃ x55b : Int, r2 = .tuple #[x55a.v, .int .i64 x55b] ∧
          0 ≤ x20 ∧ x20 < (Int.toNat (v.n : Int) : Int) ∧ (some (blkA b1)).isSome = true ∧
          ∃ h8 : Hp, hst h7 (elemA (some (blkA b1)) x20 2) [.bool x55a.neg, x55a.mag.v] = some h8 ∧
          J h8
        ) ∧ ((decide (j < x20)) = false →
          J h6
        )
      )
    ) ∧ ((decide (x20 < (Int.toNat (v.n : Int) : Int))) = false →
      R (.slice (some (blkA b1)) (Int.toNat (v.n : Int)) (Int.toNat (v.n : Int))) h2
    )
  )
set_option maxRecDepth 100000 in
theorem t_modhnf_basis_mix {b : Addr} {j : Int} {x : Z} {v : Sl} {y : Z} {w : Sl} {h : Hp} {R : Value → Hp → Prop} (hv : v_modhnf_basis_mix b j x v y w h R) : Tri Try.prog (.func (.func 60) #[] #[]) [.pointer (some b), .int .i64 j, x.v, v.v, y.v, w.v] h R :=
  tri_of_vc mixed Try.func60 (d := d_modhnf_basis_mix) (RM := [(8, 8), (10, 10)]) (rvs := [.tmp 12]) (args := [.pointer (some b), .int .i64 j, x.v, v.v, y.v, w.v]) (caps := []) (by kernel_rfl) Try.ntmps60 (V := v_modhnf_basis_mix b j x v y w h R) (by kernel_rfl) (by simp) hv

/- (*trellis/modhnf.basis).put -/
def d_modhnf_basis_put : Vd :=
  .seq (.ops [.op 0 ⟨none, some 13, .mov (.t 0)⟩ false (.no), .op 1 ⟨none, some 14, .nilck (.t 13)⟩ false (.no), .op 2 ⟨none, some 15, .fa 0 (.t 14)⟩ false (.no), .op 3 ⟨none, some 16, .ldh none (.t 15)⟩ false (.sh (.one (.slice))), .op 4 ⟨none, some 17, .len (.t 16)⟩ false (.no), .op 5 ⟨none, some 18, .mov (.i .i64 0)⟩ false (.no)] [0, 1, 4, 5, 6, 7, 8, 9, 11, 16, 17, 18, 19, 43]) (.block 0 (.loop ⟨[0, 16, 17], [], []⟩ [.t 1 (.slice), .t 18 (.int .i64)] (.seq (.ops [.op 0 ⟨none, some 19, .bin .lss (.t 18) (.t 17)⟩ false (.sh (.one .val))] [0, 1, 4, 5, 6, 7, 8, 9, 11, 16, 17, 18, 19, 43]) (.seq (.cond (.t 19) (.skip) (.exit 0)) (.join ⟨[0, 16, 17, 18], [], []⟩ [.t 1 (.slice)] (.block 1 (.seq (.ops [.op 0 ⟨none, some 20, .mov (.t 18)⟩ false (.no), .op 1 ⟨none, some 21, .ia 1 (.t 16) (.t 18)⟩ false (.no), .op 2 ⟨none, some 22, .ldh none (.t 21)⟩ false (.sh (.one (.slice))), .op 3 ⟨none, some 4, .mov (.t 20)⟩ false (.no), .op 4 ⟨none, some 5, .mov (.t 22)⟩ false (.no)] [0, 1, 4, 5, 6, 7, 8, 9, 11, 16, 17, 18, 19, 43]) (.seq (.ops [.op 0 ⟨none, some 24, .mov (.t 1)⟩ false (.no), .op 1 ⟨none, some 25, .mov (.t 4)⟩ false (.no), .op 2 ⟨none, some 26, .mov (.t 1)⟩ false (.no), .op 3 ⟨none, some 27, .mov (.t 4)⟩ false (.no), .op 4 ⟨none, some 28, .ia 2 (.t 26) (.t 27)⟩ false (.no), .op 6 ⟨none, some 30, .mov (.t 0)⟩ false (.no), .op 7 ⟨none, some 31, .nilck (.t 30)⟩ false (.no), .op 8 ⟨none, some 32, .fa 1 (.t 31)⟩ false (.no), .op 5 ⟨none, some 29, .ldh (some 2) (.t 28)⟩ false (.sh (.agg [.z])), .op 9 ⟨none, some 33, .ldh (some 2) (.t 32)⟩ false (.sh (.agg [.z])), .op 10 ⟨none, some 34, .call false (.f 58) [.t 29, .t 33]⟩ false (.sh (.tup [(some [.z], .val), (none, .int .i64)])), .op 11 ⟨none, some 23, .mov (.t 34)⟩ false (.no), .op 12 ⟨none, some 35, .ext (.t 23) 0⟩ false (.no), .op 13 ⟨none, some 36, .ext (.t 23) 1⟩ false (.no), .op 14 ⟨none, some 37, .ia 2 (.t 24) (.t 25)⟩ false (.no), .op 15 ⟨none, none, .sth 2 (.t 37) (.t 35)⟩ false (.sh (.one .val))] [0, 1, 4, 5, 6, 7, 8, 9, 11, 16, 17, 18, 19, 43]) (.seq (.seq (.ops [.op 0 ⟨none, some 38, .mov (.t 1)⟩ false (.no), .op 1 ⟨none, some 39, .mov (.t 4)⟩ false (.no), .op 2 ⟨none, some 40, .ia 2 (.t 38) (.t 39)⟩ false (.no), .op 3 ⟨none, some 41, .ldh (some 2) (.t 40)⟩ false (.sh (.agg [.z])), .op 4 ⟨none, some 42, .call false (.f 8) [.t 41]⟩ false (.sh (.one (.int .i64))), .op 5 ⟨none, some 43, .bin .eql (.t 42) (.i .i64 0)⟩ false (.sh (.one .val))] [0, 1, 4, 5, 6, 7, 8, 9, 11, 16, 17, 18, 19, 43]) (.cond (.t 43) (.exit 1) (.skip))) (.seq (.ops [.op 0 ⟨none, some 45, .mov (.t 5)⟩ false (.no), .op 1 ⟨none, some 46, .mov (.t 4)⟩ false (.no), .op 2 ⟨none, some 47, .ia 2 (.t 45) (.t 46)⟩ false (.no), .op 4 ⟨none, some 49, .mov (.t 1)⟩ false (.no), .op 5 ⟨none, some 50, .mov (.t 4)⟩ false (.no), .op 6 ⟨none, some 51, .ia 2 (.t 49) (.t 50)⟩ false (.no), .op 13 ⟨none, some 6, .new [.b false, .nil]⟩ false (.sh (.one .val)), .op 14 ⟨none, some 7, .new [.b false, .nil]⟩ false (.sh (.one .val)), .op 15 ⟨none, some 8, .new [.b false, .nil]⟩ false (.sh (.one .val)), .op 3 ⟨none, some 48, .ldh (some 2) (.t 47)⟩ false (.sh (.agg [.z])), .op 7 ⟨none, some 52, .ldh (some 2) (.t 51)⟩ false (.sh (.agg [.z])), .op 8 ⟨none, some 53, .call false (.f 59) [.t 48, .t 52]⟩ false (.sh (.tup [(some [.z], .val), (some [.z], .val), (some [.z], .val)])), .op 9 ⟨none, some 44, .mov (.t 53)⟩ false (.no), .op 10 ⟨none, some 54, .ext (.t 44) 0⟩ false (.no), .op 11 ⟨none, some 55, .ext (.t 44) 1⟩ false (.no), .op 12 ⟨none, some 56, .ext (.t 44) 2⟩ false (.no), .op 16 ⟨none, none, .stb 6 6 2 (.t 54)⟩ false (.sh (.one .val)), .op 17 ⟨none, none, .stb 7 7 2 (.t 55)⟩ false (.sh (.one .val)), .op 18 ⟨none, none, .stb 8 8 2 (.t 56)⟩ false (.sh (.one .val))] [0, 1, 4, 5, 6, 7, 8, 9, 11, 16, 17, 18, 19, 43]) (.seq (.ops [.op 0 ⟨none, some 58, .mov (.t 5)⟩ false (.no), .op 1 ⟨none, some 59, .mov (.t 4)⟩ false (.no), .op 2 ⟨none, some 60, .ia 2 (.t 58) (.t 59)⟩ false (.no), .op 4 ⟨none, some 62, .ldb 6 6 (some 2)⟩ false (.no), .op 9 ⟨none, some 9, .new [.b false, .nil]⟩ false (.sh (.one .val)), .op 3 ⟨none, some 61, .ldh (some 2) (.t 60)⟩ false (.sh (.agg [.z])), .op 5 ⟨none, some 63, .call false (.f 51) [.t 61, .t 62]⟩ false (.sh (.tup [(some [.z], .val), (none, .int .i64)])), .op 6 ⟨none, some 57, .mov (.t 63)⟩ false (.no), .op 7 ⟨none, some 64, .ext (.t 57) 0⟩ false (.no), .op 8 ⟨none, some 65, .ext (.t 57) 1⟩ false (.no), .op 10 ⟨none, none, .stb 9 9 2 (.t 64)⟩ false (.sh (.one .val)), .op 11 ⟨none, some 10, .mov (.t 65)⟩ false (.no)] [0, 1, 4, 5, 6, 7, 8, 9, 11, 16, 17, 18, 19, 43]) (.seq (.ops [.op 0 ⟨none, some 67, .mov (.t 1)⟩ false (.no), .op 1 ⟨none, some 68, .mov (.t 4)⟩ false (.no), .op 2 ⟨none, some 69, .ia 2 (.t 67) (.t 68)⟩ false (.no), .op 4 ⟨none, some 71, .ldb 6 6 (some 2)⟩ false (.no), .op 9 ⟨none, some 11, .new [.b false, .nil]⟩ false (.sh (.one .val)), .op 3 ⟨none, some 70, .ldh (some 2) (.t 69)⟩ false (.sh (.agg [.z])), .op 5 ⟨none, some 72, .call false (.f 51) [.t 70, .t 71]⟩ false (.sh (.tup [(some [.z], .val), (none, .int .i64)])), .op 6 ⟨none, some 66, .mov (.t 72)⟩ false (.no), .op 7 ⟨none, some 73, .ext (.t 66) 0⟩ false (.no), .op 8 ⟨none, some 74, .ext (.t 66) 1⟩ false (.no), .op 10 ⟨none, none, .stb 11 11 2 (.t 73)⟩ false (.sh (.one .val)), .op 11 ⟨none, some 12, .mov (.t 74)⟩ false (.no)] [0, 1, 4, 5, 6, 7, 8, 9, 11, 16, 17, 18, 19, 43]) (.seq (.ops [.op 0 ⟨none, some 75, .mov (.t 0)⟩ false (.no), .op 1 ⟨none, some 76, .nilck (.t 75)⟩ false (.no), .op 2 ⟨none, some 77, .fa 0 (.t 76)⟩ false (.no), .op 4 ⟨none, some 79, .mov (.t 4)⟩ false (.no), .op 5 ⟨none, some 80, .mov (.t 0)⟩ false (.no), .op 6 ⟨none, some 81, .mov (.t 4)⟩ false (.no), .op 7 ⟨none, some 82, .ldb 7 7 (some 2)⟩ false (.no), .op 8 ⟨none, some 83, .mov (.t 5)⟩ false (.no), .op 9 ⟨none, some 84, .ldb 8 8 (some 2)⟩ false (.no), .op 10 ⟨none, some 85, .mov (.t 1)⟩ false (.no), .op 3 ⟨none, some 78, .ldh none (.t 77)⟩ false (.sh (.one (.slice))), .op 11 ⟨none, some 86, .call true (.f 60) [.t 80, .t 81, .t 82, .t 83, .t 84, .t 85]⟩ false (.sh (.one (.slice))), .op 12 ⟨none, some 87, .ia 1 (.t 78) (.t 79)⟩ false (.no), .op 13 ⟨none, none, .sth 1 (.t 87) (.t 86)⟩ false (.sh (.one .val))] [0, 1, 4, 5, 6, 7, 8, 9, 11, 16, 17, 18, 19, 43]) (.ops [.op 0 ⟨none, some 88, .mov (.t 0)⟩ false (.no), .op 1 ⟨none, some 89, .mov (.t 4)⟩ false (.no), .op 2 ⟨none, some 90, .ldb 9 9 (some 2)⟩ false (.no), .op 3 ⟨none, some 91, .mov (.t 1)⟩ false (.no), .op 4 ⟨none, some 92, .ldb 11 11 (some 2)⟩ false (.no), .op 6 ⟨none, some 94, .mov (.t 5)⟩ false (.no), .op 5 ⟨none, some 93, .call false (.f 10) [.t 92]⟩ false (.sh (.agg [.z])), .op 7 ⟨none, some 95, .call false (.f 60) [.t 88, .t 89, .t 90, .t 91, .t 93, .t 94]⟩ false (.sh (.one (.slice))), .op 8 ⟨none, some 1, .mov (.t 95)⟩ false (.no)] [0, 1, 4, 5, 6, 7, 8, 9, 11, 16, 17, 18, 19, 43]))))))))) (.ops [.op 0 ⟨none, some 96, .bin .add (.t 18) (.i .i64 1)⟩ false (.sh (.one .val)), .op 1 ⟨none, some 18, .mov (.t 96)⟩ false (.no)] [0, 1, 4, 5, 6, 7, 8, 9, 11, 16, 17, 18, 19, 43]))))))
def v_modhnf_basis_put (x0 : Addr) (x1 : Sl) (h : Hp) (R : Value → Hp → Prop) : Prop :=
  ∃ x16 : Sl, hld h (x0.add 0) none = some (x16.v) ∧
  ∃ I : Sl → Int → Hp → Prop, ∃ mu : Sl → Int → Hp → Nat, I x1 0 h ∧ (∀ x11 : Sl, ∀ x18 : Int, ∀ h1 : Hp, I x11 x18 h1 →
    ((decide (x18 < (x16.n : Int))) = true →
      ∀ J : Sl → Hp → Prop, (∀ x12 : Sl, ∀ h2 : Hp, (
        ∀ x96 : Int, x96 = IntKind.i64.wrap (x18 + 1) →
        I x12 x96 h2 ∧ mu x12 x96 h2 < mu x11 x18 h1
      ) → J x12 h2) →
      0 ≤ x18 ∧ x18 < (x16.n : Int) ∧ x16.a.isSome = true ∧
      ∃ x22 : Sl, hld h1 (elemA x16.a x18 1) none = some (x22.v) ∧
      0 ≤ x18 ∧ x18 < (x11.n : Int) ∧ x11.a.isSome = true ∧
      ∃ x29 : Z, hld h1 (elemA x11.a x18 2) (some 2) = some (x29.v) ∧
      ∃ x33 : Z, hld h1 (x0.add 1) (some 2) = some (x33.v) ∧
      Tri Try.prog (.func (.func 58) #[] #[]) [x29.v, x33.v] h1 fun r h3 => ∃ x34a : Z, ∃ x34b : Int, r = .tuple #[x34a.v, .int .i64 x34b] ∧
      0 ≤ x18 ∧ x18 < (x11.n : Int) ∧ x11.a.isSome = true ∧
      ∃ h4 : Hp, hst h3 (elemA x11.a x18 2) [.bool x34a.neg, x34a.mag.v] = some h4 ∧
      0 ≤ x18 ∧ x18 < (x11.n : Int) ∧ x11.a.isSome = true ∧
      ∃ x41 : Z, hld h4 (elemA x11.a x18 2) (some 2) = some (x41.v) ∧
      Tri Try.prog (.func (.func 8) #[] #[]) [x41.v] h4 fun r1 h5 => ∃ x42 : Int, r1 = .int .i64 x42 ∧
      ((decide (x42 = 0)) = true →
        J x11 h5
      ) ∧ ((decide (x42 = 0)) = false →
        0 ≤ x18 ∧ x18 < (x22.n : Int) ∧ x22.a.isSome = true ∧
        0 ≤ x18 ∧ x18 < (x11.n : Int) ∧ x11.a.isSome = true ∧
        ∃ x48 : Z, hld h5 (elemA x22.a x18 2) (some 2) = some (x48.v) ∧
        ∃ x52 : Z, hld h5 (elemA x11.a x18 2) (some 2) = some (x52.v) ∧
        Tri Try.prog (.func (.func 59) #[] #[]) [x48.v, x52.v] h5 fun r2 h6 => ∃ x53a : Z, ∃ x53b : Z, ∃ x53c : Z, r2 = .tuple #[x53a.v, x53b.v, x53c.v] ∧
        0 ≤ x18 ∧ x18 < (x22.n : Int) ∧ x22.a.isSome = true ∧
        ∃ x61 : Z, hld h6 (elemA x22.a x18 2) (some 2) = some (x61.v) ∧
        Tri Try.prog (.func (.func 51) #[] #[]) [x61.v, x53a.v] h6 fun r3 h7 => ∃ x63a : Z, ∃ x63b : Int, r3 = .tuple #[x63a.v, .int .i64 x63b] ∧
        0 ≤ x18 ∧ x18 < (x11.n : Int) ∧ x11.a.isSome = true ∧
        ∃ x70 : Z, hld h7 (elemA x11.a x18 2) (some 2) = some (x70.v) ∧
        Tri Try.prog (.func (.func 51) #[] #[]) [x70.v, x53a.v] h7 fun r4 h8 => ∃ x72a : Z, ∃ x72b : Int, r4 = .tuple #[x72a.v, .int .i64 x72b] ∧
        ∃ x78 : Sl, hld h8 (x0.add 0) none = some (x78.v) ∧
        Tri Try.prog (.func (.func 60) #[] #[]) [.pointer (some x0), .int .i64 x18, x53b.v, x22.v, x53c.v, x11.v] h8 fun r5 h9 => h8.le h9 ∧ ∃ x86 : Sl, r5 = x86.v ∧
        0 ≤ x18 ∧ x18 < (x78.n : Int) ∧ x78.a.isSome = true ∧
        ∃ h10 : Hp, hst h9 (elemA x78.a x18 1) [x86.v] = some h10 ∧
        Tri Try.prog (.func (.func 10) #[] #[]) [x72a.v] h10 fun r6 h11 => ∃ x93 : Z, r6 = x93.v ∧
        Tri Try.prog (.func (.func 60) #[] #[]) [.pointer (some x0), .int .i64 x18, x63a.v, x11.v, x93.v, x22.v] h11 fun r7 h12 => ∃ x95 : Sl, r7 = x95.v ∧
        J x95 h12
      )
    ) ∧ ((decide (x18 < (x16.n : Int))) = false →
      R (.tuple #[]) h1
    )
  )
set_option maxRecDepth 100000 in
theorem t_modhnf_basis_put {x0 : Addr} {x1 : Sl} {h : Hp} {R : Value → Hp → Prop} (hv : v_modhnf_basis_put x0 x1 h R) : Tri Try.prog (.func (.func 31) #[] #[]) [.pointer (some x0), x1.v] h R :=
  tri_of_vc mixed Try.func31 (d := d_modhnf_basis_put) (RM := [(6, 6), (7, 7), (8, 8), (9, 9), (11, 11)]) (rvs := []) (args := [.pointer (some x0), x1.v]) (caps := []) (by kernel_rfl) Try.ntmps31 (V := v_modhnf_basis_put x0 x1 h R) (by kernel_rfl) (by simp) hv

/- (*trellis/modhnf.basis).tidy -/
def d_modhnf_basis_tidy : Vd :=
  .seq (.ops [.op 0 ⟨none, some 8, .mov (.t 0)⟩ false (.no), .op 1 ⟨none, some 9, .nilck (.t 8)⟩ false (.no), .op 2 ⟨none, some 10, .fa 0 (.t 9)⟩ false (.no), .op 3 ⟨none, some 11, .ldh none (.t 10)⟩ false (.sh (.one (.slice))), .op 4 ⟨none, some 12, .len (.t 11)⟩ false (.no), .op 5 ⟨none, some 13, .bin .sub (.t 12) (.i .i64 1)⟩ false (.sh (.one .val)), .op 6 ⟨none, some 2, .mov (.t 13)⟩ false (.no)] [0, 2, 3, 4, 7, 15, 26, 56, 66]) (.block 0 (.loop ⟨[0], [], []⟩ [.t 2 (.int .i64)] (.seq (.seq (.ops [.op 0 ⟨none, some 14, .mov (.t 2)⟩ false (.no), .op 1 ⟨none, some 15, .bin .geq (.t 14) (.i .i64 0)⟩ false (.sh (.one .val))] [0, 2, 3, 4, 7, 15, 26, 56, 66]) (.cond (.t 15) (.skip) (.exit 0))) (.seq (.block 1 (.seq (.ops [.op 0 ⟨none, some 18, .mov (.t 2)⟩ false (.no), .op 1 ⟨none, some 19, .bin .add (.t 18) (.i .i64 1)⟩ false (.sh (.one .val)), .op 2 ⟨none, some 3, .mov (.t 19)⟩ false (.no)] [0, 2, 3, 4, 7, 15, 26, 56, 66]) (.block 2 (.loop ⟨[0, 2], [], []⟩ [.t 3 (.int .i64)] (.seq (.seq (.ops [.op 0 ⟨none, some 20, .mov (.t 3)⟩ false (.no), .op 1 ⟨none, some 21, .mov (.t 0)⟩ false (.no), .op 2 ⟨none, some 22, .nilck (.t 21)⟩ false (.no), .op 3 ⟨none, some 23, .fa 0 (.t 22)⟩ false (.no), .op 4 ⟨none, some 24, .ldh none (.t 23)⟩ false (.sh (.one (.slice))), .op 5 ⟨none, some 25, .len (.t 24)⟩ false (.no), .op 6 ⟨none, some 26, .bin .lss (.t 20) (.t 25)⟩ false (.sh (.one .val))] [0, 2, 3, 4, 7, 15, 26, 56, 66]) (.cond (.t 26) (.skip) (.exit 2))) (.join ⟨[0, 2, 3], [], []⟩ [] (.block 3 (.seq (.ops [.op 0 ⟨none, some 30, .mov (.t 0)⟩ false (.no), .op 1 ⟨none, some 31, .nilck (.t 30)⟩ false (.no), .op 2 ⟨none, some 32, .fa 0 (.t 31)⟩ false (.no), .op 4 ⟨none, some 34, .mov (.t 2)⟩ false (.no), .op 7 ⟨none, some 37, .mov (.t 3)⟩ false (.no), .op 10 ⟨none, some 40, .mov (.t 0)⟩ false (.no), .op 11 ⟨none, some 41, .nilck (.t 40)⟩ false (.no), .op 12 ⟨none, some 42, .fa 0 (.t 41)⟩ false (.no), .op 14 ⟨none, some 44, .mov (.t 3)⟩ false (.no), .op 17 ⟨none, some 47, .mov (.t 3)⟩ false (.no), .op 25 ⟨none, some 4, .new [.b false, .nil]⟩ false (.sh (.one .val)), .op 26 ⟨none, some 5, .new [.b false, .nil]⟩ false (.sh (.one .val)), .op 3 ⟨none, some 33, .ldh none (.t 32)⟩ false (.sh (.one (.slice))), .op 5 ⟨none, some 35, .ia 1 (.t 33) (.t 34)⟩ false (.no), .op 6 ⟨none, some 36, .ldh none (.t 35)⟩ false (.sh (.one (.slice))), .op 8 ⟨none, some 38, .ia 2 (.t 36) (.t 37)⟩ false (.no), .op 9 ⟨none, some 39, .ldh (some 2) (.t 38)⟩ false (.sh (.agg [.z])), .op 13 ⟨none, some 43, .ldh none (.t 42)⟩ false (.sh (.one (.slice))), .op 15 ⟨none, some 45, .ia 1 (.t 43) (.t 44)⟩ false (.no), .op 16 ⟨none, some 46, .ldh none (.t 45)⟩ false (.sh (.one (.slice))), .op 18 ⟨none, some 48, .ia 2 (.t 46) (.t 47)⟩ false (.no), .op 19 ⟨none, some 49, .ldh (some 2) (.t 48)⟩ false (.sh (.agg [.z])), .op 20 ⟨none, some 50, .call true (.f 61) [.t 39, .t 49]⟩ false (.sh (.tup [(some [.z], .val), (some [.z], .val), (none, .int .i64)])), .op 21 ⟨none, some 29, .mov (.t 50)⟩ false (.no), .op 22 ⟨none, some 51, .ext (.t 29) 0⟩ false (.no), .op 23 ⟨none, some 52, .ext (.t 29) 1⟩ false (.no), .op 24 ⟨none, some 53, .ext (.t 29) 2⟩ false (.no), .op 27 ⟨none, none, .stb 4 4 2 (.t 51)⟩ false (.sh (.one .val)), .op 28 ⟨none, none, .stb 5 5 2 (.t 52)⟩ false (.sh (.one .val)), .op 29 ⟨none, some 6, .mov (.t 53)⟩ false (.no)] [0, 2, 3, 4, 7, 15, 26, 56, 66]) (.seq (.seq (.ops [.op 0 ⟨none, some 54, .ldb 4 4 (some 2)⟩ false (.no), .op 1 ⟨none, some 55, .call false (.f 8) [.t 54]⟩ false (.sh (.one (.int .i64))), .op 2 ⟨none, some 56, .bin .eql (.t 55) (.i .i64 0)⟩ false (.sh (.one .val))] [0, 2, 3, 4, 7, 15, 26, 56, 66]) (.cond (.t 56) (.exit 3) (.skip))) (.seq (.ops [.op 0 ⟨none, some 57, .ldb 4 4 (some 2)⟩ false (.no), .op 1 ⟨none, some 58, .call false (.f 10) [.t 57]⟩ false (.sh (.agg [.z])), .op 2 ⟨none, none, .stb 4 4 2 (.t 58)⟩ false (.sh (.one .val))] [0, 2, 3, 4, 7, 15, 26, 56, 66]) (.seq (.ops [.op 0 ⟨none, some 59, .mov (.t 3)⟩ false (.no), .op 1 ⟨none, some 7, .mov (.t 59)⟩ false (.no)] [0, 2, 3, 4, 7, 15, 26, 56, 66]) (.block 4 (.loop ⟨[0, 2, 3, 4], [4], [4]⟩ [.t 7 (.int .i64)] (.seq (.seq (.ops [.op 0 ⟨none, some 60, .mov (.t 7)⟩ false (.no), .op 1 ⟨none, some 61, .mov (.t 0)⟩ false (.no), .op 2 ⟨none, some 62, .nilck (.t 61)⟩ false (.no), .op 3 ⟨none, some 63, .fa 0 (.t 62)⟩ false (.no), .op 4 ⟨none, some 64, .ldh none (.t 63)⟩ false (.sh (.one (.slice))), .op 5 ⟨none, some 65, .len (.t 64)⟩ false (.no), .op 6 ⟨none, some 66, .bin .lss (.t 60) (.t 65)⟩ false (.sh (.one .val))] [0, 2, 3, 4, 7, 15, 26, 56, 66]) (.cond (.t 66) (.skip) (.exit 4))) (.seq (.block 5 (.ops [.op 0 ⟨none, some 69, .mov (.t 0)⟩ false (.no), .op 1 ⟨none, some 70, .nilck (.t 69)⟩ false (.no), .op 2 ⟨none, some 71, .fa 0 (.t 70)⟩ false (.no), .op 4 ⟨none, some 73, .mov (.t 2)⟩ false (.no), .op 7 ⟨none, some 76, .mov (.t 7)⟩ false (.no), .op 8 ⟨none, some 77, .ldb 4 4 (some 2)⟩ false (.no), .op 9 ⟨none, some 78, .mov (.t 0)⟩ false (.no), .op 10 ⟨none, some 79, .nilck (.t 78)⟩ false (.no), .op 11 ⟨none, some 80, .fa 0 (.t 79)⟩ false (.no), .op 13 ⟨none, some 82, .mov (.t 3)⟩ false (.no), .op 16 ⟨none, some 85, .mov (.t 7)⟩ false (.no), .op 19 ⟨none, some 88, .mov (.t 0)⟩ false (.no), .op 20 ⟨none, some 89, .nilck (.t 88)⟩ false (.no), .op 21 ⟨none, some 90, .fa 0 (.t 89)⟩ false (.no), .op 23 ⟨none, some 92, .mov (.t 2)⟩ false (.no), .op 26 ⟨none, some 95, .mov (.t 7)⟩ false (.no), .op 3 ⟨none, some 72, .ldh none (.t 71)⟩ false (.sh (.one (.slice))), .op 5 ⟨none, some 74, .ia 1 (.t 72) (.t 73)⟩ false (.no), .op 6 ⟨none, some 75, .ldh none (.t 74)⟩ false (.sh (.one (.slice))), .op 12 ⟨none, some 81, .ldh none (.t 80)⟩ false (.sh (.one (.slice))), .op 14 ⟨none, some 83, .ia 1 (.t 81) (.t 82)⟩ false (.no), .op 15 ⟨none, some 84, .ldh none (.t 83)⟩ false (.sh (.one (.slice))), .op 17 ⟨none, some 86, .ia 2 (.t 84) (.t 85)⟩ false (.no), .op 18 ⟨none, some 87, .ldh (some 2) (.t 86)⟩ false (.sh (.agg [.z])), .op 22 ⟨none, some 91, .ldh none (.t 90)⟩ false (.sh (.one (.slice))), .op 24 ⟨none, some 93, .ia 1 (.t 91) (.t 92)⟩ false (.no), .op 25 ⟨none, some 94, .ldh none (.t 93)⟩ false (.sh (.one (.slice))), .op 27 ⟨none, some 96, .ia 2 (.t 94) (.t 95)⟩ false (.no), .op 28 ⟨none, some 97, .ldh (some 2) (.t 96)⟩ false (.sh (.agg [.z])), .op 29 ⟨none, some 98, .call true (.f 24) [.t 77, .t 87, .t 97]⟩ false (.sh (.agg [.z])), .op 30 ⟨none, some 99, .ia 2 (.t 75) (.t 76)⟩ false (.no), .op 31 ⟨none, none, .sth 2 (.t 99) (.t 98)⟩ false (.sh (.one .val))] [0, 2, 3, 4, 7, 15, 26, 56, 66])) (.ops [.op 0 ⟨none, some 67, .mov (.t 7)⟩ false (.no), .op 1 ⟨none, some 68, .bin .add (.t 67) (.i .i64 1)⟩ false (.sh (.one .val)), .op 2 ⟨none, some 7, .mov (.t 68)⟩ false (.no)] [0, 2, 3, 4, 7, 15, 26, 56, 66])))))))))) (.ops [.op 0 ⟨none, some 27, .mov (.t 3)⟩ false (.no), .op 1 ⟨none, some 28, .bin .add (.t 27) (.i .i64 1)⟩ false (.sh (.one .val)), .op 2 ⟨none, some 3, .mov (.t 28)⟩ false (.no)] [0, 2, 3, 4, 7, 15, 26, 56, 66]))))))) (.ops [.op 0 ⟨none, some 16, .mov (.t 2)⟩ false (.no), .op 1 ⟨none, some 17, .bin .sub (.t 16) (.i .i64 1)⟩ false (.sh (.one .val)), .op 2 ⟨none, some 2, .mov (.t 17)⟩ false (.no)] [0, 2, 3, 4, 7, 15, 26, 56, 66])))))
def v_modhnf_basis_tidy (x0 : Addr) (h : Hp) (R : Value → Hp → Prop) : Prop :=
  ∃ x11 : Sl, hld h (x0.add 0) none = some (x11.v) ∧
  ∀ x13 : Int, x13 = IntKind.i64.wrap ((x11.n : Int) - 1) →
  ∃ I : Int → Hp → Prop, ∃ mu : Int → Hp → Nat, I x13 h ∧ (∀ x2 : Int, ∀ h1 : Hp, I x2 h1 →
    ((decide (0 ≤ x2)) = true →
      ∀ x19 : Int, x19 = IntKind.i64.wrap (x2 + 1) →
      ∃ I1 : Int → Hp → Prop, ∃ mu1 : Int → Hp → Nat, I1 x19 h1 ∧ (∀ x3 : Int, ∀ h2 : Hp, I1 x3 h2 →
        ∃ x24 : Sl, hld h2 (x0.add 0) none = some (x24.v) ∧
        ((decide (x3 < (x24.n : Int))) = true →
          ∀ J : Hp → Prop, (∀ h3 : Hp, (
            ∀ x28 : Int, x28 = IntKind.i64.wrap (x3 + 1) →
            I1 x28 h3 ∧ mu1 x28 h3 < mu1 x3 h2
          ) → J h3) →
          ∃ x33 : Sl, hld h2 (x0.add 0) none = some (x33.v) ∧
          0 ≤ x2 ∧ x2 < (x33.n : Int) ∧ x33.a.isSome = true ∧
          ∃ x36 : Sl, hld h2 (elemA x33.a x2 1) none = some (x36.v) ∧
          0 ≤ x3 ∧ x3 < (x36.n : Int) ∧ x36.a.isSome = true ∧
          ∃ x39 : Z, hld h2 (elemA x36.a x3 2) (some 2) = some (x39.v) ∧
          ∃ x43 : Sl, hld h2 (x0.add 0) none = some (x43.v) ∧
          0 ≤ x3 ∧ x3 < (x43.n : Int) ∧ x43.a.isSome = true ∧
          ∃ x46 : Sl, hld h2 (elemA x43.a x3 1) none = some (x46.v) ∧
          0 ≤ x3 ∧ x3 < (x46.n : Int) ∧ x46.a.isSome = true ∧
          ∃ x49 : Z, hld h2 (elemA x46.a x3 2) (some 2) = some (x49.v) ∧
          Tri Try.prog (.func (.func 61) #[] #[]) [x39.v, x49.v] h2 fun r h4 => h2.le h4 ∧ ∃ x50a : Z, ∃ x50b : Z, ∃ x50c : Int, r = .tuple #[x50a.v, x50b.v, .int .i64 x50c] ∧
          Tri Try.prog (.func (.func 8) #[] #[]) [x50a.v] h4 fun r1 h5 => ∃ x55 : Int, r1 = .int .i64 x55 ∧
          ((decide (x55 = 0)) = true →
            J h5
          ) ∧ ((decide (x55 = 0)) = false →
            Tri Try.prog (.func (.func 10) #[] #[]) [x50a.v] h5 fun r2 h6 => ∃ x58 : Z, r2 = x58.v ∧
            ∃ I2 : Int → Hp → Prop, ∃ mu2 : Int → Hp → Nat, I2 x3 h6 ∧ (∀ x7 : Int, ∀ h7 : Hp, I2 x7 h7 →
              ∃ x64 : Sl, hld h7 (x0.add 0) none = some (x64.v) ∧
              ((decide (x7 < (x64.n : Int))) = true →
                ∃ x72 : Sl, hld h7 (x0.add 0) none = some (x72.v) ∧
                0 ≤ x2 ∧ x2 < (x72.n : Int) ∧ x72.a.isSome = true ∧
                ∃ x75 : Sl, hld h7 (elemA x72.a x2 1) none = some (x75.v) ∧
                ∃ x81 : Sl, hld h7 (x0.add 0) none = some (x81.v) ∧
                0 ≤ x3 ∧ x3 < (x81.n : Int) ∧ x81.a.isSome = true ∧
                ∃ x84 : Sl, hld h7 (elemA x81.a x3 1) none = some (x84.v) ∧
                0 ≤ x7 ∧ x7 < (x84.n : Int) ∧ x84.a.isSome = true ∧
                ∃ x87 : Z, hld h7 (elemA x84.a x7 2) (some 2) = some (x87.v) ∧
                ∃ x91 : Sl, hld h7 (x0.add 0) none = some (x91.v) ∧
                0 ≤ x2 ∧ x2 < (x91.n : Int) ∧ x91.a.isSome = true ∧
                ∃ x94 : Sl, hld h7 (elemA x91.a x2 1) none = some (x94.v) ∧
                0 ≤ x7 ∧ x7 < (x94.n : Int) ∧ x94.a.isSome = true ∧
                ∃ x97 : Z, hld h7 (elemA x94.a x7 2) (some 2) = some (x97.v) ∧
                Tri Try.prog (.func (.func 24) #[] #[]) [x58.v, x87.v, x97.v] h7 fun r3 h8 => h7.le h8 ∧ ∃ x98 : Z, r3 = x98.v ∧
                0 ≤ x7 ∧ x7 < (x75.n : Int) ∧ x75.a.isSome = true ∧
                ∃ h9 : Hp, hst h8 (elemA x75.a x7 2) [.bool x98.neg, x98.mag.v] = some h9 ∧
                ∀ x68 : Int, x68 = IntKind.i64.wrap (x7 + 1) →
                I2 x68 h9 ∧ mu2 x68 h9 < mu2 x7 h7
              ) ∧ ((decide (x7 < (x64.n : Int))) = false →
                J h7
              )
            )
          )
        ) ∧ ((decide (x3 < (x24.n : Int))) = false →
          ∀ x17 : Int, x17 = IntKind.i64.wrap (x2 - 1) →
          I x17 h2 ∧ mu x17 h2 < mu x2 h1
        )
      )
    ) ∧ ((decide (0 ≤ x2)) = false →
      R (.tuple #[]) h1
    )
  )
set_option maxRecDepth 100000 in
theorem t_modhnf_basis_tidy {x0 : Addr} {h : Hp} {R : Value → Hp → Prop} (hv : v_modhnf_basis_tidy x0 h R) : Tri Try.prog (.func (.func 32) #[] #[]) [.pointer (some x0)] h R :=
  tri_of_vc mixed Try.func32 (d := d_modhnf_basis_tidy) (RM := [(4, 4), (5, 5)]) (rvs := []) (args := [.pointer (some x0)]) (caps := []) (by kernel_rfl) Try.ntmps32 (V := v_modhnf_basis_tidy x0 h R) (by kernel_rfl) (by simp) hv

/- trellis/modhnf.Modulo -/
def d_modhnf_Modulo : Vd :=
  .seq (.ops [.op 0 ⟨none, some 2, .box 3 (.t 0)⟩ false (.sh (.one .val)), .op 1 ⟨none, some 3, .box 2 (.t 1)⟩ false (.sh (.one .val)), .op 2 ⟨none, some 4, .new [.i .i64 0, .i .i64 0, .nil]⟩ false (.sh (.one .val)), .op 3 ⟨none, some 5, .mov (.i .i64 0)⟩ false (.no)] [0, 1, 2, 3, 4, 5, 6, 7, 9, 10, 12, 14, 18, 23, 30, 32, 46, 47, 48, 49, 52, 53, 54, 55]) (.seq (.seq (.ops [.op 0 ⟨none, some 15, .ldb 2 2 (some 3)⟩ false (.no), .op 1 ⟨none, some 16, .call false (.f 7) [.t 15]⟩ false (.sh (.one (.int .i64))), .op 2 ⟨none, some 6, .mov (.t 16)⟩ false (.no)] [0, 1, 2, 3, 4, 5, 6, 7, 9, 10, 12, 14, 18, 23, 30, 32, 46, 47, 48, 49, 52, 53, 54, 55]) (.seq (.ops [.op 0 ⟨none, some 17, .mov (.t 6)⟩ false (.no), .op 1 ⟨none, some 18, .bin .neq (.t 17) (.i .i64 0)⟩ false (.sh (.one .val))] [0, 1, 2, 3, 4, 5, 6, 7, 9, 10, 12, 14, 18, 23, 30, 32, 46, 47, 48, 49, 52, 53, 54, 55]) (.cond (.t 18) (.seq (.ops [.op 0 ⟨none, some 19, .bd [.i .i64 0, .i .i64 0, .nil] []⟩ false (.no), .op 1 ⟨none, some 20, .mov (.t 6)⟩ false (.no), .op 2 ⟨none, none, .stb 4 4 3 (.t 19)⟩ false (.sh (.one .val)), .op 3 ⟨none, some 5, .mov (.t 20)⟩ false (.no)] [0, 1, 2, 3, 4, 5, 6, 7, 9, 10, 12, 14, 18, 23, 30, 32, 46, 47, 48, 49, 52, 53, 54, 55]) (.ret)) (.skip)))) (.seq (.seq (.ops [.op 0 ⟨none, some 21, .ldb 3 3 (some 2)⟩ false (.no), .op 1 ⟨none, some 22, .call false (.f 8) [.t 21]⟩ false (.sh (.one (.int .i64))), .op 2 ⟨none, some 23, .bin .eql (.t 22) (.i .i64 0)⟩ false (.sh (.one .val))] [0, 1, 2, 3, 4, 5, 6, 7, 9, 10, 12, 14, 18, 23, 30, 32, 46, 47, 48, 49, 52, 53, 54, 55]) (.cond (.t 23) (.seq (.ops [.op 0 ⟨none, some 24, .bd [.i .i64 0, .i .i64 0, .nil] []⟩ false (.no), .op 1 ⟨none, none, .stb 4 4 3 (.t 24)⟩ false (.sh (.one .val)), .op 2 ⟨none, some 5, .mov (.i .i64 4)⟩ false (.no)] [0, 1, 2, 3, 4, 5, 6, 7, 9, 10, 12, 14, 18, 23, 30, 32, 46, 47, 48, 49, 52, 53, 54, 55]) (.ret)) (.skip))) (.seq (.ops [.op 0 ⟨none, some 25, .fab 2 2 1⟩ false (.no), .op 1 ⟨none, some 26, .ldb 25 2 none⟩ false (.no), .op 2 ⟨none, some 27, .ldb 3 3 (some 2)⟩ false (.no), .op 3 ⟨none, some 28, .call false (.f 29) [.t 26, .t 27]⟩ false (.sh (.one (.addr))), .op 4 ⟨none, some 7, .new [.pnil]⟩ false (.sh (.one .val)), .op 5 ⟨none, none, .stb 7 7 1 (.t 28)⟩ false (.sh (.one .val))] [0, 1, 2, 3, 4, 5, 6, 7, 9, 10, 12, 14, 18, 23, 30, 32, 46, 47, 48, 49, 52, 53, 54, 55]) (.seq (.seq (.ops [.op 0 ⟨none, some 29, .ldb 2 2 (some 3)⟩ false (.no), .op 1 ⟨none, some 30, .call false (.f 30) [.t 29]⟩ false (.sh (.one (.fn)))] [0, 1, 2, 3, 4, 5, 6, 7, 9, 10, 12, 14, 18, 23, 30, 32, 46, 47, 48, 49, 52, 53, 54, 55]) (.block 0 (.rf (.t 30) [(31, .int .i64), (32, .slice)] [7] [7] [(2, 1000002), (3, 1000003), (4, 1000004), (7, 1000007), (10, 1000010), (14, 1000014), (25, 1000002), (38, 1000002), (40, 1000002), (58, 1000010), (64, 1000010)] (.ops [.op 0 ⟨none, some 9, .mov (.t 32)⟩ false (.no)] [0, 1, 2, 3, 4, 5, 6, 7, 9, 10, 12, 14, 18, 23, 30, 32, 46, 47, 48, 49, 52, 53, 54, 55, 1000007]) (.block 1 (.ops [.op 0 ⟨none, some 33, .ldb 7 1000007 none⟩ false (.no), .op 1 ⟨none, some 34, .mov (.t 9)⟩ false (.no), .op 2 ⟨none, some 35, .call false (.f 31) [.t 33, .t 34]⟩ false (.sh (.tup []))] [0, 1, 2, 3, 4, 5, 6, 7, 9, 10, 12, 14, 18, 23, 30, 32, 46, 47, 48, 49, 52, 53, 54, 55, 1000007]))))) (.seq (.ops [.op 0 ⟨none, some 36, .ldb 7 7 none⟩ false (.no), .op 1 ⟨none, some 37, .call false (.f 32) [.t 36]⟩ false (.sh (.tup []))] [0, 1, 2, 3, 4, 5, 6, 7, 9, 10, 12, 14, 18, 23, 30, 32, 46, 47, 48, 49, 52, 53, 54, 55]) (.seq (.ops [.op 0 ⟨none, some 38, .fab 2 2 1⟩ false (.no), .op 1 ⟨none, some 39, .ldb 38 2 none⟩ false (.no), .op 2 ⟨none, some 40, .fab 2 2 1⟩ false (.no), .op 3 ⟨none, some 41, .ldb 40 2 none⟩ false (.no), .op 4 ⟨none, some 42, .bd [.i .i64 0, .i .i64 0, .nil] [(0, 1, .t 39), (1, 1, .t 41)]⟩ false (.no), .op 5 ⟨none, some 10, .new [.i .i64 0, .i .i64 0, .nil]⟩ false (.sh (.one .val)), .op 6 ⟨none, none, .stb 10 10 3 (.t 42)⟩ false (.sh (.one .val))] [0, 1, 2, 3, 4, 5, 6, 7, 9, 10, 12, 14, 18, 23, 30, 32, 46, 47, 48, 49, 52, 53, 54, 55]) (.seq (.seq (.ops [.op 0 ⟨none, some 43, .ldb 7 7 none⟩ false (.no), .op 1 ⟨none, some 44, .nilck (.t 43)⟩ false (.no), .op 2 ⟨none, some 45, .fa 0 (.t 44)⟩ false (.no), .op 3 ⟨none, some 46, .ldh none (.t 45)⟩ false (.sh (.one (.slice))), .op 4 ⟨none, some 47, .len (.t 46)⟩ false (.no), .op 5 ⟨none, some 48, .mov (.i .i64 0)⟩ false (.no)] [0, 1, 2, 3, 4, 5, 6, 7, 9, 10, 12, 14, 18, 23, 30, 32, 46, 47, 48, 49, 52, 53, 54, 55]) (.block 2 (.loop ⟨[4, 10, 46, 47], [4], [4, 10]⟩ [.t 48 (.int .i64), .x 10 [.m]] (.seq (.ops [.op 0 ⟨none, some 49, .bin .lss (.t 48) (.t 47)⟩ false (.sh (.one .val))] [0, 1, 2, 3, 4, 5, 6, 7, 9, 10, 12, 14, 18, 23, 30, 32, 46, 47, 48, 49, 52, 53, 54, 55]) (.seq (.cond (.t 49) (.skip) (.exit 2)) (.seq (.block 3 (.seq (.ops [.op 0 ⟨none, some 50, .ia 1 (.t 46) (.t 48)⟩ false (.no), .op 1 ⟨none, some 51, .ldh none (.t 50)⟩ false (.sh (.one (.slice))), .op 2 ⟨none, some 12, .mov (.t 51)⟩ false (.no)] [0, 1, 2, 3, 4, 5, 6, 7, 9, 10, 12, 14, 18, 23, 30, 32, 46, 47, 48, 49, 52, 53, 54, 55]) (.seq (.ops [.op 0 ⟨none, some 52, .mov (.t 12)⟩ false (.no), .op 1 ⟨none, some 53, .len (.t 52)⟩ false (.no), .op 2 ⟨none, some 54, .mov (.i .i64 0)⟩ false (.no)] [0, 1, 2, 3, 4, 5, 6, 7, 9, 10, 12, 14, 18, 23, 30, 32, 46, 47, 48, 49, 52, 53, 54, 55]) (.block 4 (.loop ⟨[4, 10, 46, 47, 48, 52, 53], [4], [4, 10]⟩ [.t 54 (.int .i64), .x 10 [.m]] (.seq (.ops [.op 0 ⟨none, some 55, .bin .lss (.t 54) (.t 53)⟩ false (.sh (.one .val))] [0, 1, 2, 3, 4, 5, 6, 7, 9, 10, 12, 14, 18, 23, 30, 32, 46, 47, 48, 49, 52, 53, 54, 55]) (.seq (.cond (.t 55) (.skip) (.exit 4)) (.seq (.block 5 (.seq (.ops [.op 0 ⟨none, some 56, .ia 2 (.t 52) (.t 54)⟩ false (.no), .op 1 ⟨none, some 57, .ldh (some 2) (.t 56)⟩ false (.sh (.agg [.z])), .op 2 ⟨none, some 14, .new [.b false, .nil]⟩ false (.sh (.one .val)), .op 3 ⟨none, none, .stb 14 14 2 (.t 57)⟩ false (.sh (.one .val))] [0, 1, 2, 3, 4, 5, 6, 7, 9, 10, 12, 14, 18, 23, 30, 32, 46, 47, 48, 49, 52, 53, 54, 55]) (.ops [.op 0 ⟨none, some 58, .fab 10 10 2⟩ false (.no), .op 1 ⟨none, some 59, .ldb 58 10 none⟩ false (.no), .op 2 ⟨none, some 60, .ldb 14 14 (some 2)⟩ false (.no), .op 3 ⟨none, some 61, .call false (.f 33) [.t 60]⟩ false (.sh (.agg [.z])), .op 4 ⟨none, some 62, .bs [.b false, .nil] 1 2 [(0, .t 61)]⟩ false (.sh (.one .val)), .op 5 ⟨none, some 63, .app 2 32 [.b false, .nil] (.t 59) (.t 62)⟩ false (.sh (.one .slice)), .op 6 ⟨none, some 64, .fab 10 10 2⟩ false (.no), .op 7 ⟨none, none, .stb 64 10 1 (.t 63)⟩ false (.sh (.one .val))] [0, 1, 2, 3, 4, 5, 6, 7, 9, 10, 12, 14, 18, 23, 30, 32, 46, 47, 48, 49, 52, 53, 54, 55]))) (.ops [.op 0 ⟨none, some 65, .bin .add (.t 54) (.i .i64 1)⟩ false (.sh (.one .val)), .op 1 ⟨none, some 54, .mov (.t 65)⟩ false (.no)] [0, 1, 2, 3, 4, 5, 6, 7, 9, 10, 12, 14, 18, 23, 30, 32, 46, 47, 48, 49, 52, 53, 54, 55]))))))))) (.ops [.op 0 ⟨none, some 66, .bin .add (.t 48) (.i .i64 1)⟩ false (.sh (.one .val)), .op 1 ⟨none, some 48, .mov (.t 66)⟩ false (.no)] [0, 1, 2, 3, 4, 5, 6, 7, 9, 10, 12, 14, 18, 23, 30, 32, 46, 47, 48, 49, 52, 53, 54, 55]))))))) (.seq (.ops [.op 0 ⟨none, some 67, .ldb 10 10 (some 3)⟩ false (.no), .op 1 ⟨none, none, .stb 4 4 3 (.t 67)⟩ false (.sh (.one .val)), .op 2 ⟨none, some 5, .mov (.i .i64 0)⟩ false (.no)] [0, 1, 2, 3, 4, 5, 6, 7, 9, 10, 12, 14, 18, 23, 30, 32, 46, 47, 48, 49, 52, 53, 54, 55]) (.ret)))))))))
def v_modhnf_Modulo (x0 : M) (x1 : Z) (h : Hp) (R : Value → Hp → Prop) : Prop :=
  Tri Try.prog (.func (.func 7) #[] #[]) [x0.v] h fun r h1 => ∃ x16 : Int, r = .int .i64 x16 ∧
  ((!decide (x16 = 0)) = true →
    R (.tuple #[.agg #[.int .i64 0, .int .i64 0, .slice none 0 0], .int .i64 x16]) h1
  ) ∧ ((!decide (x16 = 0)) = false →
    Tri Try.prog (.func (.func 8) #[] #[]) [x1.v] h1 fun r1 h2 => ∃ x22 : Int, r1 = .int .i64 x22 ∧
    ((decide (x22 = 0)) = true →
      R (.tuple #[.agg #[.int .i64 0, .int .i64 0, .slice none 0 0], .int .i64 4]) h2
    ) ∧ ((decide (x22 = 0)) = false →
      Tri Try.prog (.func (.func 29) #[] #[]) [.int .i64 x0.cols, x1.v] h2 fun r2 h3 => ∃ x28 : Addr, r2 = .pointer (some x28) ∧
      Tri Try.prog (.func (.func 30) #[] #[]) [x0.v] h3 fun r3 h4 => ∃ x30 : Nat, ∃ x30_p : Array Value, ∃ x30_q : Array Value, r3 = .func (.func x30) x30_p x30_q ∧
      ∃ hm : Hp, ∃ n : Nat, ∃ It : Nat → Hp → Int → Sl → Hp → Prop, IterL Try.prog (.func (.func x30) x30_p x30_q) hm n [.int .i64, .slice] It ∧ ∃ J : Nat → Hp → Prop, J 0 h4 ∧ (∀ i : Nat, ∀ h : Hp, J i h → hm.le h) ∧
      (∀ i : Nat, ∀ h5 : Hp, i < n → J i h5 → ∀ x31 : Int, ∀ x32 : Sl, ∀ h6 : Hp, It i h5 x31 x32 h6 → h5.le h6 →
        Tri Try.prog (.func (.func 31) #[] #[]) [.pointer (some x28), x32.v] h6 fun r4 h8 => r4 = .tuple #[] ∧
        J (i + 1) h8
      ) ∧ (∀ h7 : Hp, J n h7 →
        Tri Try.prog (.func (.func 32) #[] #[]) [.pointer (some x28)] h7 fun r5 h9 => r5 = .tuple #[] ∧
        ∃ x46 : Sl, hld h9 (x28.add 0) none = some (x46.v) ∧
        ∃ I : Int → M → Hp → Prop, ∃ mu : Int → M → Hp → Nat, I 0 ⟨x0.cols, x0.cols, ⟨none, 0, 0⟩⟩ h9 ∧ (∀ x48 : Int, ∀ x10 : M, ∀ h10 : Hp, I x48 x10 h10 →
          ((decide (x48 < (x46.n : Int))) = true →
            0 ≤ x48 ∧ x48 < (x46.n : Int) ∧ x46.a.isSome = true ∧
            ∃ x51 : Sl, hld h10 (elemA x46.a x48 1) none = some (x51.v) ∧
            ∃ I1 : Int → M → Hp → Prop, ∃ mu1 : Int → M → Hp → Nat, I1 0 x10 h10 ∧ (∀ x54 : Int, ∀ x101 : M, ∀ h11 : Hp, I1 x54 x101 h11 →
              ((decide (x54 < (x51.n : Int))) = true →
                0 ≤ x54 ∧ x54 < (x51.n : Int) ∧ x51.a.isSome = true ∧
                ∃ x57 : Z, hld h11 (elemA x51.a x54 2) (some 2) = some (x57.v) ∧
                Tri Try.prog (.func (.func 33) #[] #[]) [x57.v] h11 fun r6 h12 => ∃ x61 : Z, r6 = x61.v ∧
                ∀ b : Nat, ∀ h13 : Hp, h12 b = none → h13 = h12.up b ⟨[.bool x61.neg, x61.mag.v], true⟩ →
                ∃ ys : List Value, firstOf h13 (some (blkA b)) 1 2 = some ys ∧ appRes h13 x101.el.a x101.el.n x101.el.c 1 2 32 [.b false, .nil] ys fun r7 h14 => ∃ x63 : Sl, r7 = x63.v ∧
                ∀ x65 : Int, x65 = IntKind.i64.wrap (x54 + 1) →
                I1 x65 ⟨x101.rows, x101.cols, x63⟩ h14 ∧ mu1 x65 ⟨x101.rows, x101.cols, x63⟩ h14 < mu1 x54 x101 h11
              ) ∧ ((decide (x54 < (x51.n : Int))) = false →
                ∀ x66 : Int, x66 = IntKind.i64.wrap (x48 + 1) →
                I x66 x101 h11 ∧ mu x66 x101 h11 < mu x48 x10 h10
              )
            )
          ) ∧ ((decide (x48 < (x46.n : Int))) = false →
            R (.tuple #[x10.v, .int .i64 0]) h10
          )
        )
      )
    )
  )
set_option maxRecDepth 100000 in
theorem t_modhnf_Modulo {x0 : M} {x1 : Z} {h : Hp} {R : Value → Hp → Prop} (hv : v_modhnf_Modulo x0 x1 h R) : Tri Try.prog (.func (.func 9) #[] #[]) [x0.v, x1.v] h R :=
  tri_of_vc mixed Try.func9 (d := d_modhnf_Modulo) (RM := [(2, 2), (3, 3), (4, 4), (7, 7), (10, 10), (14, 14), (25, 2), (38, 2), (40, 2), (58, 10), (64, 10)]) (rvs := [.cell 4 (some 3), .tmp 5]) (args := [x0.v, x1.v]) (caps := []) (by kernel_rfl) Try.ntmps9 (V := v_modhnf_Modulo x0 x1 h R) (by kernel_rfl) (by simp) hv

/- trellis/modhnf.upTo -/
def d_modhnf_upTo : Vd :=
  .seq (.ops [.op 0 ⟨none, some 2, .mov (.nil)⟩ false (.no)] [0, 2, 3, 4, 8, 9, 10]) (.seq (.ops [.op 0 ⟨none, some 5, .mov (.t 0)⟩ false (.no), .op 1 ⟨none, some 6, .mk [.i .i64 0] 8 (.t 5) (.t 5)⟩ false (.sh (.one .val)), .op 2 ⟨none, some 3, .mov (.t 6)⟩ false (.no)] [0, 2, 3, 4, 8, 9, 10]) (.seq (.seq (.ops [.op 0 ⟨none, some 7, .mov (.t 3)⟩ false (.no), .op 1 ⟨none, some 8, .len (.t 7)⟩ false (.no), .op 2 ⟨none, some 9, .mov (.i .i64 0)⟩ false (.no)] [0, 2, 3, 4, 8, 9, 10]) (.block 0 (.loop ⟨[3, 8], [], []⟩ [.t 9 (.int .i64)] (.seq (.ops [.op 0 ⟨none, some 10, .bin .lss (.t 9) (.t 8)⟩ false (.sh (.one .val))] [0, 2, 3, 4, 8, 9, 10]) (.seq (.cond (.t 10) (.skip) (.exit 0)) (.seq (.block 1 (.seq (.ops [.op 0 ⟨none, some 11, .mov (.t 9)⟩ false (.no), .op 1 ⟨none, some 4, .mov (.t 11)⟩ false (.no)] [0, 2, 3, 4, 8, 9, 10]) (.ops [.op 0 ⟨none, some 12, .mov (.t 3)⟩ false (.no), .op 1 ⟨none, some 13, .mov (.t 4)⟩ false (.no), .op 2 ⟨none, some 14, .mov (.t 4)⟩ false (.no), .op 3 ⟨none, some 15, .ia 1 (.t 12) (.t 13)⟩ false (.no), .op 4 ⟨none, none, .sth 1 (.t 15) (.t 14)⟩ false (.sh (.one .val))] [0, 2, 3, 4, 8, 9, 10]))) (.ops [.op 0 ⟨none, some 16, .bin .add (.t 9) (.i .i64 1)⟩ false (.sh (.one .val)), .op 1 ⟨none, some 9, .mov (.t 16)⟩ false (.no)] [0, 2, 3, 4, 8, 9, 10]))))))) (.seq (.ops [.op 0 ⟨none, some 17, .mov (.t 3)⟩ false (.no), .op 1 ⟨none, some 2, .mov (.t 17)⟩ false (.no)] [0, 2, 3, 4, 8, 9, 10]) (.ret))))
def v_modhnf_upTo (n : Int) (h : Hp) (R : Value → Hp → Prop) : Prop :=
  0 ≤ n ∧ n ≤ n ∧ (8 : Nat) * n ≤ 281474976710656 ∧ n < 9223372036854775808 ∧ ∀ b : Nat, ∀ h1 : Hp, h b = none → h1 = h.up b ⟨mkCells [.int .i64 0] (Int.toNat n * 1), true⟩ →
  ∃ I : Int → Hp → Prop, ∃ mu : Int → Hp → Nat, I 0 h1 ∧ (∀ x9 : Int, ∀ h2 : Hp, I x9 h2 →
    ((decide (x9 < (Int.toNat n : Int))) = true →
      0 ≤ x9 ∧ x9 < (Int.toNat n : Int) ∧ (some (blkA b)).isSome = true ∧
      ∃ h3 : Hp, hst h2 (elemA (some (blkA b)) x9 1) [.int .i64 x9] = some h3 ∧
      ∀ x16 : Int, x16 = IntKind.i64.wrap (x9 + 1) →
      I x16 h3 ∧ mu x16 h3 < mu x9 h2
    ) ∧ ((decide (x9 < (Int.toNat n : Int))) = false →
      R (.slice (some (blkA b)) (Int.toNat n) (Int.toNat n)) h2
    )
  )
set_option maxRecDepth 100000 in
theorem t_modhnf_upTo {n : Int} {h : Hp} {R : Value → Hp → Prop} (hv : v_modhnf_upTo n h R) : Tri Try.prog (.func (.func 47) #[] #[]) [.int .i64 n] h R :=
  tri_of_vc mixed Try.func47 (d := d_modhnf_upTo) (RM := []) (rvs := [.tmp 2]) (args := [.int .i64 n]) (caps := []) (by kernel_rfl) Try.ntmps47 (V := v_modhnf_upTo n h R) (by kernel_rfl) (by simp) hv

end Go.Proofs.Ytmfafadchpglgaa

/- modhnf: the basis in memory; mix. -/
namespace Go.Proofs.Ytmfafadchpglgaa
set_option maxRecDepth 20000

/-- The first n entries of a vector. -/
def vecL (n : Nat) (v : Vec) : List Int := (List.range n).map v
theorem vecL_len (n : Nat) (v : Vec) : (vecL n v).length = n := by simp [vecL]
theorem vecL_get {n : Nat} {v : Vec} {j : Nat} (h : j < n) : (vecL n v).getD j 0 = v j := by simp [vecL, List.getD, h]
theorem vecL_cong {n : Nat} {v w : Vec} (h : ∀ k, k < n → v k = w k) : vecL n v = vecL n w := by
  unfold vecL
  exact List.map_congr_left fun k hk => h k (List.mem_range.1 hk)
theorem vecL_set {n : Nat} {v : Vec} {j : Nat} {x : Int} : (vecL n v).set j x = vecL n (fun k => if k = j then x else v k) := by
  apply List.ext_getElem
  · simp [vecL]
  · intro i h1 h2
    simp only [vecL, List.getElem_set, List.getElem_map, List.getElem_range]
    split
    · rename_i e; rw [if_pos e.symm]
    · rename_i e; rw [if_neg (Ne.symm e)]
theorem vecL_zero (n : Nat) : List.replicate n (0 : Int) = vecL n (fun _ => 0) := by
  apply List.ext_getElem
  · simp [vecL]
  · intro i h1 h2; simp [vecL]
/-- A list as a vector. -/
def vecOf (l : List Int) : Vec := fun k => l.getD k 0
theorem vecL_of {l : List Int} {n : Nat} (h : l.length = n) : vecL n (vecOf l) = l := by
  apply List.ext_getElem
  · simp [vecL, h]
  · intro i h1 h2; simp [vecL, vecOf, List.getD, h2]
theorem vecOf_out {l : List Int} {n : Nat} (h : l.length = n) : ∀ k, n ≤ k → vecOf l k = 0 := fun k hk => by
  simp [vecOf, List.getD, List.getElem?_eq_none (by omega : l.length ≤ k)]

/-- A row's slice. -/
def rowV (n k : Nat) : Value := .slice (some (blkA k)) n n

/-- b.d, in the basis's block. -/
theorem ldD {h : Hp} {bb : Nat} {s0 : Value} {dz : Z} {wr : Bool} (hb : h bb = some ⟨[s0, .bool dz.neg, dz.mag.v], wr⟩) : hld h ((blkA bb).add 1) (some 2) = some dz.v := by
  simp only [add_none, hld, if_true, hb, Option.bind_some, cld]
  rfl

theorem mixV_fill {d : Int} {j : Nat} {X Y : Int} {V W : Vec} {n I : Nat} {w : Int} (hw : w = mixV d j X V Y W I) :
    (vecL n (fun k => if k < I then mixV d j X V Y W k else 0)).set I w = vecL n (fun k => if k < I + 1 then mixV d j X V Y W k else 0) := by
  rw [vecL_set]
  apply vecL_cong
  intro k _
  by_cases h : k = I
  · subst h; rw [if_pos rfl, if_pos (by omega), hw]
  · rw [if_neg h]
    by_cases h2 : k < I
    · rw [if_pos h2, if_pos (by omega)]
    · rw [if_neg h2, if_neg (by omega)]

theorem modhnf_mix {h : Hp} {bb n j K : Nat} {s0 : Value} {dz x y : Z} {v w : Sl} {d X Y : Int} {V W : Vec} {wr : Bool} (hb : h bb = some ⟨[s0, .bool dz.neg, dz.mag.v], wr⟩) (gd : Zs h dz d) (hd : 0 < d) (hn : n ≤ 64)
    (gx : Zs h x X) (gy : Zs h y Y) (gv : RowS false h v (vecL n V)) (gw : RowS false h w (vecL n W)) (kx : SzK K X) (ky : SzK K Y) (kv : ∀ k, SzK K (V k)) (kw : ∀ k, SzK K (W k)) (hK : 2 * K + 1 ≤ 34359738368) :
    Tri Try.prog (.func (.func 60) #[] #[]) [.pointer (some (blkA bb)), .int .i64 (j : Nat), x.v, v.v, y.v, w.v] h
      fun r h' => h.le h' ∧ ∃ kb, r = rowV n kb ∧ h kb = none ∧ RowB false h' kb (vecL n (mixV d j X V Y W)) := by
  have hvn := gv.len
  have hwn := gw.len
  rw [vecL_len] at hvn hwn
  refine t_modhnf_basis_mix ⟨by omega, by omega, by omega, by omega, ?_⟩
  rintro b1 h1 hb1 rfl
  rw [Int.toNat_natCast, hvn]
  refine ⟨fun i h2 => ∃ I : Nat, i = I ∧ I ≤ n ∧ h.le h2 ∧ RowB false h2 b1 (vecL n (fun k => if k < I then mixV d j X V Y W k else 0)), fun i _ => n - i.toNat, ⟨0, rfl, by omega, Hp.le_up _ hb1, ?_⟩, ?_⟩
  · have := RowB.new false (n := n) hb1
    rw [vecL_zero] at this
    simpa using this
  rintro _ h2 ⟨I, rfl, hI, l2, gB⟩
  refine ⟨fun hc J hJ => ?_, fun hc => ?_⟩
  · simp only [decide_eq_true_eq] at hc
    have hI' : I < n := by omega
    have fin : ∀ h3, h.le h3 → RowB false h3 b1 (vecL n (fun k => if k < I + 1 then mixV d j X V Y W k else 0)) → J h3 := by
      intro h3 l3 g3
      refine hJ h3 fun x59 e => ?_
      rw [i64w (by omega) (by omega)] at e
      subst e
      exact ⟨⟨I + 1, by omega, by omega, l3, g3⟩, by dsimp only; omega⟩
    refine ⟨fun hj => ?_, fun hj => ?_⟩
    · simp only [decide_eq_true_eq] at hj
      refine fin h2 l2 ?_
      have e : (fun k => if k < I + 1 then mixV d j X V Y W k else 0) = fun k => if k < I then mixV d j X V Y W k else 0 := by
        funext k
        by_cases h : k = I
        · subst h; rw [if_pos (by omega), if_neg (by omega)]; unfold mixV; rw [if_pos (by omega)]
        · by_cases h2 : k < I
          · rw [if_pos h2, if_pos (by omega)]
          · rw [if_neg h2, if_neg (by omega)]
      rw [e]; exact gB
    · simp only [decide_eq_false_iff_not] at hj
      obtain ⟨zv, hzv, gzv⟩ := (gv.le l2).ld (j := (I : Int)) (by omega) (by rw [vecL_len]; omega)
      obtain ⟨zw, hzw, gzw⟩ := (gw.le l2).ld (j := (I : Int)) (by omega) (by rw [vecL_len]; omega)
      rw [Int.toNat_natCast, vecL_get hI'] at gzv gzw
      refine ⟨by omega, by omega, gv.isS (by rw [vecL_len]; omega), by omega, by omega, gw.isS (by rw [vecL_len]; omega), zv, hzv, zw, hzw, (zint_Mul (gy.le l2) gzw.zs).mono ?_⟩
      rintro _ h4 ⟨l4, p, rfl, hp⟩
      have kp : SzK (2 * K) (Y * W I) := by have := ky.mul (kw I); rwa [← Nat.two_mul] at this
      have kq : SzK (2 * K) (X * V I) := by have := kx.mul (kv I); rwa [← Nat.two_mul] at this
      refine ⟨l4, _, rfl, (zint_MulAdd ((gx.le l2).le l4) (gzv.zs.le l4) (hp.zs (kp.sz (by omega))) (kq.sz (by omega))).mono ?_⟩
      rintro _ h5 ⟨l5, s, rfl, hs⟩
      have ks : Sz (X * V I + Y * W I) := (kq.add kp).sz hK
      obtain ⟨cs, hst, hput⟩ := (gB.le (Hp.le_trans l4 l5)).st (j := (I : Int)) (by omega) (by rw [vecL_len]; omega) s
      refine ⟨l5, _, rfl, by omega, by omega, rfl, _, hst, ?_⟩
      have g6 := hput _ (hs.ze ks false)
      rw [Int.toNat_natCast] at g6
      have l25 : h2.le h5 := Hp.le_trans l4 l5
      have l6 : h.le (h5.up b1 ⟨cs, true⟩) := le_up_of_none hb1 (Hp.le_trans l2 l25)
      refine ⟨fun hk => ?_, fun hk => ?_⟩
      · simp only [decide_eq_true_eq] at hk
        have r6 := g6.row (cc := n) (by rw [List.length_set, vecL_len]; exact Nat.le_refl _)
        have e6 : ((vecL n fun k => if k < I then mixV d j X V Y W k else 0).set I (X * V I + Y * W I)).length = n := by rw [List.length_set, vecL_len]
        rw [e6] at r6
        obtain ⟨z2, hz2, gz2⟩ := r6.ld (j := (I : Int)) (by omega) (by rw [e6]; omega)
        have e7 : ((vecL n fun k => if k < I then mixV d j X V Y W k else 0).set I (X * V I + Y * W I)).getD (I : Int).toNat 0 = X * V I + Y * W I := by
          rw [Int.toNat_natCast]; simp [List.getD, vecL, hI']
        rw [e7] at gz2
        refine ⟨by omega, by omega, rfl, z2, hz2, dz, ldD (l6 _ _ hb), (zint_Mod gz2.zs (gd.le l6) (by omega)).mono ?_⟩
        rintro _ h7 ⟨l7, r, rfl, hr⟩
        obtain ⟨cs2, hst2, hput2⟩ := (g6.le l7).st (j := (I : Int)) (by omega) (by rw [e6]; omega) r
        refine ⟨_, _, rfl, by omega, by omega, rfl, _, hst2, ?_⟩
        have kr : Sz ((X * V I + Y * W I) % d) := gd.sz.le (by
          have h1 := Int.emod_nonneg (X * V I + Y * W I) (by omega : d ≠ 0)
          have h2 := Int.emod_lt_of_pos (X * V I + Y * W I) hd
          omega)
        have g8 := hput2 _ (hr.ze kr false)
        rw [Int.toNat_natCast, List.set_set, mixV_fill (by unfold mixV; rw [if_neg (by omega), if_neg (by omega)])] at g8
        exact fin _ (le_up_of_none hb1 (Hp.le_trans l6 l7)) g8
      · simp only [decide_eq_false_iff_not] at hk
        have hIj : I = j := by omega
        rw [mixV_fill (by unfold mixV; rw [if_neg (by omega), if_pos hIj])] at g6
        exact fin _ l6 g6
  · simp only [decide_eq_false_iff_not] at hc
    have hIn : I = n := by omega
    subst hIn
    refine ⟨l2, b1, rfl, hb1, ?_⟩
    rw [vecL_cong (w := mixV d j X V Y W) fun k hk => by rw [if_pos hk]] at gB
    exact gB

end Go.Proofs.Ytmfafadchpglgaa

/- modhnf: put. -/
namespace Go.Proofs.Ytmfafadchpglgaa
set_option maxRecDepth 20000

def notI (v : Value) : Prop := ∀ n, v ≠ .int .u64 n

/-- The basis in memory: m rows of n numbers. -/
structure BasM (h0 h : Hp) (bb : Nat) (rs : Sl) (rbs : List Nat) (n m : Nat) (R : Nat → Vec) (d : Int) : Prop where
  le : h0.le h
  n0 : h0 bb = none ∧ ∀ k ∈ rbs, h0 k = none
  gr : GrowS [.slice none 0 0] h0 h rs 1 (rbs.map (rowV n))
  nd : bb ∉ rbs ∧ rbs.Nodup ∧ ∀ k, rs.a = some (blkA k) → k ≠ bb ∧ k ∉ rbs
  bc : ∃ dz : Z, h bb = some ⟨[rs.v, .bool dz.neg, dz.mag.v], true⟩ ∧ Ze false h dz d
  rl : rbs.length = m
  rows : ∀ i k, rbs[i]? = some k → RowB false h k (vecL n (R i))

theorem nodup_set : ∀ {l : List Nat} {j kb : Nat}, l.Nodup → kb ∉ l → (l.set j kb).Nodup
  | [], _, _, h, _ => h
  | x :: l, 0, kb, h, hk => by
    rw [List.set_cons_zero, List.nodup_cons]
    exact ⟨fun hin => hk (by simp [hin]), (List.nodup_cons.1 h).2⟩
  | x :: l, j + 1, kb, h, hk => by
    rw [List.set_cons_succ, List.nodup_cons]
    refine ⟨fun hin => ?_, nodup_set (List.nodup_cons.1 h).2 fun hin => hk (by simp [hin])⟩
    rcases List.mem_or_eq_of_mem_set hin with h' | h'
    · exact (List.nodup_cons.1 h).1 h'
    · exact hk (by simp [h'])

section
variable {h0 h : Hp} {bb : Nat} {rs : Sl} {rbs : List Nat} {n m : Nat} {R : Nat → Vec} {d : Int}

theorem GrowS.le {zs : List Value} {h0 h h' : Hp} {s : Sl} {sz : Nat} {vs : List Value} (g : GrowS zs h0 h s sz vs) (l : h.le h') : GrowS zs h0 h' s sz vs := by
  rcases g with g | ⟨k, tl, e1, e2, e3, e4⟩
  · exact Or.inl g
  · exact Or.inr ⟨k, tl, e1, e2, l _ _ e3, e4⟩
theorem GrowS.del {zs : List Value} {h0 h : Hp} {s : Sl} {sz : Nat} {vs : List Value} (g : GrowS zs h0 h s sz vs) {b : Nat} (hb : ∀ k, s.a = some (blkA k) → k ≠ b) : GrowS zs h0 (h.del b) s sz vs := by
  rcases g with g | ⟨k, tl, e1, e2, e3, e4⟩
  · exact Or.inl g
  · exact Or.inr ⟨k, tl, e1, e2, by unfold Hp.del; rw [if_neg (hb k e1)]; exact e3, e4⟩
theorem GrowS.cnt {zs : List Value} {h0 h : Hp} {s : Sl} {vs : List Value} (g : GrowS zs h0 h s 1 vs) : s.n = vs.length := by
  rcases g with ⟨rfl, rfl⟩ | ⟨k, tl, e1, e2, e3, e4, _⟩
  · rfl
  · omega

theorem BasM.rn (s : BasM h0 h bb rs rbs n m R d) : rs.n = m := by have := s.gr.cnt; rw [List.length_map, s.rl] at this; exact this
theorem BasM.mono (s : BasM h0 h bb rs rbs n m R d) {h' : Hp} (l : h.le h') : BasM h0 h' bb rs rbs n m R d :=
  { s with
    le := Hp.le_trans s.le l
    gr := s.gr.le l
    bc := let ⟨dz, a, b⟩ := s.bc; ⟨dz, l _ _ a, b.le l⟩
    rows := fun i k e => (s.rows i k e).le l }
theorem BasM.noi_bb (s : BasM h0 h bb rs rbs n m R d) : NoI h bb := by
  obtain ⟨dz, a, _⟩ := s.bc
  refine NoI.of a fun v hv => ?_
  simp only [List.mem_cons, List.not_mem_nil, or_false] at hv
  rcases hv with rfl | rfl | rfl <;> (intro n e; cases e)
theorem BasM.noi_rs (s : BasM h0 h bb rs rbs n m R d) {kr : Nat} (hr : rs.a = some (blkA kr)) : NoI h kr := by
  rcases s.gr with ⟨rfl, _⟩ | ⟨k, tl, e1, e2, e3, e4, e5, e6, e7⟩
  · cases hr
  · rw [e1] at hr
    cases hr
    refine NoI.of e3 fun v hv => ?_
    rw [List.mem_append] at hv
    rcases hv with hv | hv
    · obtain ⟨j, _, rfl⟩ := List.mem_map.1 hv
      intro n e; cases e
    · have := e7 v hv
      rw [List.mem_singleton] at this
      rw [this]; intro n e; cases e
theorem BasM.delB (s : BasM h0 h bb rs rbs n m R d) {b : Nat} (h1 : b ≠ bb) (h2 : b ∉ rbs) (h3 : ∀ k, rs.a = some (blkA k) → k ≠ b) (h4 : NoI h b) (h5 : h0 b = none) : BasM h0 (h.del b) bb rs rbs n m R d :=
  { s with
    le := Hp.le_del s.le h5
    gr := s.gr.del h3
    bc := let ⟨dz, a, c⟩ := s.bc; ⟨dz, by unfold Hp.del; rw [if_neg (Ne.symm h1)]; exact a, c.del h4⟩
    rows := fun i k e => (s.rows i k e).del (fun e' => h2 (e' ▸ List.mem_of_getElem? e)) h4 }
theorem BasM.upB (s : BasM h0 h bb rs rbs n m R d) {b : Nat} (h1 : b ≠ bb) (h2 : b ∉ rbs) (h3 : ∀ k, rs.a = some (blkA k) → k ≠ b) (h4 : NoI h b) (h5 : h0 b = none) (x : Blk) : BasM h0 (h.up b x) bb rs rbs n m R d :=
  (s.delB h1 h2 h3 h4 h5).mono (Hp.del_le_up _ _ _)
theorem BasM.ldRows (s : BasM h0 h bb rs rbs n m R d) : hld h ((blkA bb).add 0) none = some rs.v := by
  obtain ⟨dz, a, _⟩ := s.bc
  simp only [add_none, hld, if_true, a, Option.bind_some, cld]; rfl
theorem BasM.rowAt (s : BasM h0 h bb rs rbs n m R d) {i : Nat} (hi : i < m) : ∃ k, rbs[i]? = some k ∧ hld h (elemA rs.a (i : Int) 1) none = some (rowV n k) ∧ RowB false h k (vecL n (R i)) ∧ rs.a.isSome = true := by
  have hl := s.rl
  have hi' : i < rbs.length := by omega
  have hk : rbs[i]? = some rbs[i] := List.getElem?_eq_getElem hi'
  rcases s.gr with ⟨_, hv⟩ | ⟨kr, tl, e1, e2, e3, e4, e5, e6, e7⟩
  · rw [List.map_eq_nil_iff] at hv; rw [hv] at hi'; simp at hi'
  · refine ⟨rbs[i], hk, ?_, s.rows i _ hk, by rw [e1]; rfl⟩
    rw [e1, elemA_some]
    simp only [hld, if_true, e3, Option.bind_some, cld, Nat.zero_add, Nat.mul_one, Int.toNat_natCast]
    rw [List.getElem?_append_left (by simpa using hi'), List.getElem?_map, hk]
    rfl

theorem BasM.setRow (s : BasM h0 h bb rs rbs n m R d) {j kb : Nat} {w : Vec} (hj : j < m) (gb : RowB false h kb (vecL n w)) (nb : h0 kb = none) (d1 : kb ≠ bb) (d2 : kb ∉ rbs) (d3 : ∀ k, rs.a = some (blkA k) → k ≠ kb) :
    ∃ (kr : Nat) (cs : List Value), rs.a = some (blkA kr) ∧ hst h (elemA rs.a (j : Int) 1) [rowV n kb] = some (h.up kr ⟨cs, true⟩) ∧ BasM h0 (h.up kr ⟨cs, true⟩) bb rs (rbs.set j kb) n m (setR R j w) d ∧ NoI h kr ∧ h0 kr = none := by
  have hl := s.rl
  have hj' : j < rbs.length := by omega
  rcases s.gr with ⟨_, hv⟩ | ⟨kr, tl, e1, e2, e3, e4, e5, e6, e7⟩
  · rw [List.map_eq_nil_iff] at hv; rw [hv] at hj'; simp at hj'
  · have hni := s.noi_rs e1
    obtain ⟨n1, n2⟩ := s.nd.2.2 kr e1
    have hset : ((rbs.map (rowV n) ++ tl).set j (rowV n kb)) = (rbs.set j kb).map (rowV n) ++ tl := by
      rw [List.set_append_left _ _ (by simpa using hj'), List.map_set]
    refine ⟨kr, (rbs.set j kb).map (rowV n) ++ tl, e1, ?_, ?_, hni, e2⟩
    · rw [e1, hst_blk e3 (by omega) (by simp; omega), Int.toNat_natCast, hset]
    · have del := fun (x : Blk) => Hp.del_le_up h kr x
      refine ⟨le_up_of_none e2 s.le, ⟨s.n0.1, fun k hk => ?_⟩, Or.inr ⟨kr, tl, e1, e2, up_get _ _ _, ?_, ?_, e6, e7⟩, ⟨fun hin => ?_, ?_, fun k hk => ?_⟩, ?_, by rw [List.length_set]; exact hl, fun i k hk => ?_⟩
      · rcases List.mem_or_eq_of_mem_set hk with h | h
        · exact s.n0.2 k h
        · rw [h]; exact nb
      · rw [List.length_map, List.length_set]; rw [List.length_map] at e4; exact e4
      · simp only [List.length_append, List.length_map, List.length_set] at e5 ⊢; exact e5
      · rcases List.mem_or_eq_of_mem_set hin with h | h
        · exact s.nd.1 h
        · exact d1 h.symm
      · exact nodup_set s.nd.2.1 d2
      · rw [e1] at hk
        cases hk
        refine ⟨n1, fun hin => ?_⟩
        rcases List.mem_or_eq_of_mem_set hin with h | h
        · exact n2 h
        · exact d3 kr e1 h
      · obtain ⟨dz, a, c⟩ := s.bc
        exact ⟨dz, by rw [Hp.up_other _ _ (Ne.symm n1)]; exact a, c.up hni _⟩
      · rw [List.getElem?_set] at hk
        unfold setR
        split at hk
        · rename_i e
          rw [if_pos (by omega)]
          cases hk
          exact gb.up (Ne.symm (d3 kr e1)) hni _
        · rename_i e
          rw [if_neg (Ne.symm e)]
          exact (s.rows i k hk).up (fun e' => n2 (by rw [← e']; exact List.mem_of_getElem? hk)) hni _
end

theorem RowB.rowN {h : Hp} {k n : Nat} {v : Vec} (g : RowB false h k (vecL n v)) : RowS false h ⟨some (blkA k), n, n⟩ (vecL n v) := by
  have := g.row (cc := n) (by rw [vecL_len]; exact Nat.le_refl _)
  rw [vecL_len] at this; exact this

theorem modAt_set {n j : Nat} {v : Vec} {d : Int} : (vecL n v).set j (v j % d) = vecL n (modAt d j v) := by
  rw [vecL_set]
  apply vecL_cong
  intro k _
  unfold modAt
  split
  · rename_i e; rw [e]
  · rfl

set_option maxHeartbeats 2000000 in
theorem modhnf_put {h0 h : Hp} {bb kv n K : Nat} {rs : Sl} {rbs : List Nat} {R : Nat → Vec} {d : Int} {L : Vec → Prop} {v0 : Vec} (s : BasM h0 h bb rs rbs n n R d) (t : BasI n d L R) (hn : n ≤ 64) (hd : 0 < d) (gv : RowB false h kv (vecL n v0)) (hv0 : ∀ k, n ≤ k → v0 k = 0)
    (kvn : h0 kv = none) (kv1 : kv ≠ bb) (kv2 : kv ∉ rbs) (kv3 : ∀ k, rs.a = some (blkA k) → k ≠ kv) (kd : SzK K (d + 1)) (ks : ∀ k, SzK K (v0 k)) (hK : 2 * K + 1 ≤ 34359738368) :
    Tri Try.prog (.func (.func 31) #[] #[]) [.pointer (some (blkA bb)), rowV n kv] h
      fun r h' => r = .tuple #[] ∧ ∃ rbs' R', BasM h0 h' bb rs rbs' n n R' d ∧ BasI n d (LatV L v0) R' := by
  have hK1 : K ≤ 34359738368 := by omega
  have kdd : ∀ x : Int, 0 ≤ x → x ≤ d → SzK K x := fun x h1 h2 => kd.le (by omega)
  have kd1 : SzK K d := kdd d (by omega) (Int.le_refl _)
  refine t_modhnf_basis_put (x1 := ⟨some (blkA kv), n, n⟩) ⟨rs, s.ldRows, ?_⟩
  refine ⟨fun x11 x18 h1 => ∃ (j kv : Nat) (rbs : List Nat) (R : Nat → Vec) (v : Vec), x18 = (j : Int) ∧ j ≤ n ∧ x11 = ⟨some (blkA kv), n, n⟩ ∧ BasM h0 h1 bb rs rbs n n R d ∧ RowB false h1 kv (vecL n v) ∧ h0 kv = none ∧ kv ≠ bb ∧ kv ∉ rbs ∧ (∀ k, rs.a = some (blkA k) → k ≠ kv) ∧
      PutI n d (LatV L v0) R v j ∧ ∀ k, SzK K (v k), fun _ x18 _ => n - x18.toNat, ⟨0, kv, rbs, R, v0, rfl, by omega, rfl, s, gv, kvn, kv1, kv2, kv3, t.put hv0, ks⟩, ?_⟩
  clear s t gv kvn kv1 kv2 kv3 ks
  rintro _ _ h1 ⟨j, kv, rbs, R, v, rfl, hj, rfl, s, gv, kvn, kv1, kv2, kv3, pI, ks⟩
  have hrn := s.rn
  refine ⟨fun hc J hJ => ?_, fun hc => ?_⟩
  · simp only [decide_eq_true_eq] at hc
    have hjn : j < n := by omega
    have fin : ∀ (kv' : Nat) (h2 : Hp) (rbs' : List Nat) (R' : Nat → Vec) (v' : Vec), BasM h0 h2 bb rs rbs' n n R' d → RowB false h2 kv' (vecL n v') → h0 kv' = none → kv' ≠ bb → kv' ∉ rbs' → (∀ k, rs.a = some (blkA k) → k ≠ kv') → PutI n d (LatV L v0) R' v' (j + 1) → (∀ k, SzK K (v' k)) → J ⟨some (blkA kv'), n, n⟩ h2 := by
      intro kv' h2 rbs' R' v' a1 a2 a3 a4 a5 a6 a7 a8
      refine hJ _ _ fun x96 e => ?_
      rw [i64w (by omega) (by omega)] at e
      subst e
      exact ⟨⟨j + 1, kv', rbs', R', v', by omega, by omega, rfl, a1, a2, a3, a4, a5, a6, a7, a8⟩, by dsimp only; omega⟩
    obtain ⟨k0, hk0, hld0, _, his⟩ := s.rowAt hjn
    have hk0m : k0 ∈ rbs := List.mem_of_getElem? hk0
    have e1 : ∀ w : Vec, (vecL n w).length = n := vecL_len n
    obtain ⟨z29, hz29, gz29⟩ := gv.rowN.ld (j := (j : Int)) (by omega) (by rw [e1]; omega)
    rw [Int.toNat_natCast, vecL_get hjn] at gz29
    obtain ⟨dz, hdz, gdz⟩ := s.bc
    refine ⟨by omega, by omega, his, ⟨some (blkA k0), n, n⟩, hld0, by omega, by dsimp only; omega, rfl, z29, hz29, dz, ldD hdz, (zint_Mod gz29.zs gdz.zs (by omega)).mono ?_⟩
    rintro _ h3 ⟨l3, r, rfl, hr⟩
    have hm0 : 0 ≤ v j % d := Int.emod_nonneg _ (by omega)
    have hm1 : v j % d < d := Int.emod_lt_of_pos _ hd
    have km : SzK K (v j % d) := kdd _ hm0 (by omega)
    obtain ⟨cs, hst, hput⟩ := (gv.le l3).st (j := (j : Int)) (by omega) (by rw [e1]; omega) r
    have g4 := hput _ (hr.ze (km.sz hK1) false)
    rw [Int.toNat_natCast, modAt_set] at g4
    have s4 : BasM h0 (h3.up kv ⟨cs, true⟩) bb rs rbs n n R d := (s.mono l3).upB kv1 kv2 kv3 (gv.le l3).noi kvn _
    have pM := pI.mod hjn
    have hvj : modAt d j v j = v j % d := by unfold modAt; rw [if_pos rfl]
    have km' : ∀ k, SzK K (modAt d j v k) := fun k => by
      unfold modAt; split
      · rename_i e; rw [e]; exact km
      · exact ks k
    obtain ⟨z41, hz41, gz41⟩ := g4.rowN.ld (j := (j : Int)) (by omega) (by rw [e1]; omega)
    rw [Int.toNat_natCast, vecL_get hjn, hvj] at gz41
    refine ⟨_, _, rfl, by omega, by dsimp only; omega, rfl, _, hst, by omega, by dsimp only; omega, rfl, z41, hz41, (zint_Sign gz41.zs).const ?_⟩
    generalize hw : modAt d j v = w at *
    generalize h3.up kv ⟨cs, true⟩ = h4 at *
    refine ⟨_, rfl, fun he => ?_, fun he => ?_⟩
    · simp only [decide_eq_true_eq] at he
      have h0' : v j % d = 0 := Int.sign_eq_zero_iff_zero.1 he
      exact fin kv h4 rbs R w s4 g4 kvn kv1 kv2 kv3 (pM.skip (by rw [hvj]; exact h0')) km'
    · simp only [decide_eq_false_iff_not] at he
      have hβ : w j ≠ 0 := fun e => he (by rw [← hvj, e]; rfl)
      rw [← hvj] at hm0 hm1 gz41 km
      obtain ⟨k1, hk1, _, gt, _⟩ := s4.rowAt hjn
      rw [hk0] at hk1
      cases hk1
      have hα := pI.t.dg j hjn
      have hαd := pI.t.bd j hjn j
      have kα : SzK K (R j j) := kdd _ hαd.1 hαd.2
      obtain ⟨z48, hz48, gz48⟩ := gt.rowN.ld (j := (j : Int)) (by omega) (by rw [e1]; omega)
      rw [Int.toNat_natCast, vecL_get hjn] at gz48
      refine ⟨by omega, by dsimp only; omega, rfl, by omega, by dsimp only; omega, rfl, z48, hz48, z41, hz41, (bezout_Ext gz48.zs gz41.zs kα km hK).mono ?_⟩
      rintro _ h6 ⟨l6, gz, xz, yz, X, Y, rfl, hg, hx, hy, hE⟩
      obtain ⟨g, hgd⟩ : ∃ g : Int, g = (Int.gcd (R j j) (w j) : Int) := ⟨_, rfl⟩
      have hgp : 0 < g := by rw [hgd]; have := Int.gcd_pos_of_ne_zero_right (R j j) hβ; omega
      rw [← hgd] at hg
      obtain ⟨p, hp⟩ : ∃ p, R j j = g * p := by rw [hgd]; exact Int.gcd_dvd_left ..
      obtain ⟨q, hq⟩ : ∃ q, w j = g * q := by rw [hgd]; exact Int.gcd_dvd_right ..
      have quot : ∀ a b : Int, a = g * b → 0 ≤ a → 0 ≤ b ∧ b ≤ a := fun a b hab ha => by
        have h1 : 0 ≤ b := by
          rcases Int.lt_or_le b 0 with h | h
          · have : g * b < 0 := Int.mul_neg_of_pos_of_neg hgp h
            omega
          · exact h
        have h2 : 1 * b ≤ g * b := Int.mul_le_mul_of_nonneg_right (by omega) h1
        exact ⟨h1, by omega⟩
      have hpb := quot _ _ hp (by omega)
      have hqb := quot _ _ hq hm0
      have hgb : g ≤ R j j := by
        have h1 : g * 1 ≤ g * p := Int.mul_le_mul_of_nonneg_left (by
          rcases Int.lt_or_le p 1 with h | h
          · have : p = 0 := by omega
            rw [this, Int.mul_zero] at hp; omega
          · exact h) (by omega)
        omega
      have kg : SzK K g := kdd _ (by omega) (by omega)
      have kp : SzK K p := kdd _ hpb.1 (by omega)
      have kq : SzK K q := kdd _ hqb.1 (by omega)
      obtain ⟨hX0, hX1⟩ := hE.x0 hβ
      rw [← hgd] at hX1
      have kX : SzK K X := kdd _ hX0 (by
        have : X * 1 ≤ X * g := Int.mul_le_mul_of_nonneg_left (by omega) hX0
        omega)
      have kY : SzK K Y := kd.le (by have := hE.y hβ; omega)
      refine ⟨_, _, _, rfl, by omega, by dsimp only; omega, rfl, z48, ?_, ?_⟩
      · obtain ⟨z, hz, _⟩ := (gt.le l6).rowN.ld (j := (j : Int)) (by omega) (by rw [e1]; omega)
        exact hld_le l6 hz48
      refine (zint_Exact (gz48.zs.le l6) (hg.zs (kg.sz hK1)) (by omega) hp).mono ?_
      rintro _ h7 ⟨l7, pz, rfl, hpz⟩
      have l47 : h4.le h7 := Hp.le_trans l6 l7
      refine ⟨_, _, rfl, by omega, by dsimp only; omega, rfl, z41, hld_le l47 hz41, (zint_Exact (gz41.zs.le l47) ((hg.zs (kg.sz hK1)).le l7) (by omega) hq).mono ?_⟩
      rintro _ h8 ⟨l8, qz, rfl, hqz⟩
      have l68 : h6.le h8 := Hp.le_trans l7 l8
      have l48 : h4.le h8 := Hp.le_trans l47 l8
      have s8 := s4.mono l48
      obtain ⟨dz8, hdz8, gdz8⟩ := s8.bc
      refine ⟨_, _, rfl, rs, s8.ldRows, ?_⟩
      have kR : ∀ k, SzK K (R j k) := fun k => kdd _ (pI.t.bd j hjn k).1 (pI.t.bd j hjn k).2
      refine (modhnf_mix (j := j) hdz8 gdz8.zs hd hn ((hx.zs (kX.sz hK1)).le l68) ((hy.zs (kY.sz hK1)).le l68) (gt.le l48).rowN (g4.le l48).rowN kX kY kR km' hK).mono ?_
      rintro _ h9 ⟨l9, kb, rfl, nkb, gkb⟩
      have s9 := s8.mono l9
      have l49 : h4.le h9 := Hp.le_trans l48 l9
      have some8 : ∀ k, h8 k ≠ none → kb ≠ k := fun k hk e => hk (e ▸ nkb)
      have hbb8 : h8 bb ≠ none := by rw [hdz8]; exact fun e => by cases e
      have hrb8 : ∀ k ∈ rbs, h8 k ≠ none := fun k hk => by
        obtain ⟨i, hi, e⟩ := List.mem_iff_getElem.1 hk
        obtain ⟨zs, a, _⟩ := (s8.rows i k (by rw [List.getElem?_eq_getElem hi, e])).ex
        rw [a]; exact fun e => by cases e
      have hrs8 : ∀ k, rs.a = some (blkA k) → h8 k ≠ none := fun k hk => by
        rcases s8.gr with ⟨hh, _⟩ | ⟨kr, tl, a1, a2, a3, _⟩
        · rw [hh] at hk; cases hk
        · rw [a1] at hk; cases hk; rw [a3]; exact fun e => by cases e
      have hkv8 : h8 kv ≠ none := by
        obtain ⟨zs, a, _⟩ := (g4.le l48).ex
        rw [a]; exact fun e => by cases e
      have nkb0 : h0 kb = none := Hp.none_of_le s8.le nkb
      obtain ⟨kr, cs, ers, hst10, s10, ni10, n10⟩ := s9.setRow hjn gkb nkb0 (some8 bb hbb8) (fun hin => some8 kb (hrb8 kb hin) rfl) (fun k hk e => some8 k (hrs8 k hk) e.symm)
      refine ⟨l9, ⟨some (blkA kb), n, n⟩, rfl, by omega, by omega, his, _, hst10, (zint_Neg (((hqz.zs (kq.sz hK1)).le l9).up ni10 _)).mono ?_⟩
      rintro _ h11 ⟨l11, nq, rfl, hnq⟩
      have gv9 := (g4.le l49).up (b := kr) (fun e => kv3 kr ers e.symm) ni10 ⟨cs, true⟩
      have gt9 := (gt.le l49).up (b := kr) (fun e => (s.nd.2.2 kr ers).2 (e ▸ hk0m)) ni10 ⟨cs, true⟩
      have gp9 := (((hpz.zs (kp.sz hK1)).le l8).le l9).up ni10 ⟨cs, true⟩
      generalize h9.up kr ⟨cs, true⟩ = h10 at *
      have s11 := s10.mono l11
      obtain ⟨dz11, hdz11, gdz11⟩ := s11.bc
      refine ⟨_, rfl, ?_⟩
      refine (modhnf_mix (j := j) hdz11 gdz11.zs hd hn (gp9.le l11) (hnq.zs (kq.neg.sz hK1)) (gv9.le l11).rowN (gt9.le l11).rowN kp kq.neg km' kR hK).mono ?_
      rintro _ h12 ⟨l12, kw, rfl, nkw, gkw⟩
      have some11 : ∀ k, h11 k ≠ none → kw ≠ k := fun k hk e => hk (e ▸ nkw)
      have nkw0 : h0 kw = none := Hp.none_of_le s11.le nkw
      have hrb11 : ∀ k ∈ rbs.set j kb, h11 k ≠ none := fun k hk => by
        obtain ⟨i, hi, e⟩ := List.mem_iff_getElem.1 hk
        obtain ⟨zs, a, _⟩ := (s11.rows i k (by rw [List.getElem?_eq_getElem hi, e])).ex
        rw [a]; exact fun e => by cases e
      have hrs11 : ∀ k, rs.a = some (blkA k) → h11 k ≠ none := fun k hk => by
        rcases s11.gr with ⟨hh, _⟩ | ⟨kr, tl, a1, a2, a3, _⟩
        · rw [hh] at hk; cases hk
        · rw [a1] at hk; cases hk; rw [a3]; exact fun e => by cases e
      refine ⟨⟨some (blkA kw), n, n⟩, rfl, fin kw h12 (rbs.set j kb) _ _ (s11.mono l12) gkw nkw0 (some11 bb (by rw [hdz11]; exact fun e => by cases e)) (fun hin => some11 kw (hrb11 kw hin) rfl) (fun k hk e => some11 k (hrs11 k hk) e.symm)
        (pM.mix hjn hd hm0 hm1 hβ hgd (by rw [hE.e, ← hgd]) hp hq) fun k => ?_⟩
      unfold mixV
      split
      · exact kdd 0 (by omega) (by omega)
      · split
        · rename_i e; subst e
          have : p * w k + -q * R k k = 0 := by rw [hq, hp, Int.neg_mul, ← Int.mul_assoc q g p, Int.mul_comm q g, Int.mul_comm p]; omega
          rw [this]; exact kdd 0 (by omega) (by omega)
        · exact kdd _ (Int.emod_nonneg _ (by omega)) (Int.le_of_lt (Int.emod_lt_of_pos _ hd))
  · simp only [decide_eq_false_iff_not] at hc
    have hjn : j = n := by omega
    subst hjn
    exact ⟨rfl, rbs, R, s, pI.done⟩

end Go.Proofs.Ytmfafadchpglgaa

/- modhnf: start. -/
namespace Go.Proofs.Ytmfafadchpglgaa
set_option maxRecDepth 20000

theorem BasM.grow {h0 h7 h8 : Hp} {bb kb n m : Nat} {rs rs' : Sl} {rbs : List Nat} {R : Nat → Vec} {d : Int} (s : BasM h0 h7 bb rs rbs n m R d) (hn : 0 < n) (gb : RowB false h7 kb (vecL n (R m))) (nb : h0 kb = none) (d1 : kb ≠ bb) (d2 : kb ∉ rbs) (d3 : ∀ k, rs.a = some (blkA k) → k ≠ kb)
    (l : h0.le h8) (l' : (delS h7 rs).le h8) (g : GrowS [.slice none 0 0] h0 h8 rs' 1 (rbs.map (rowV n) ++ [rowV n kb])) :
    ∃ cs, hst h8 ((blkA bb).add 0) [rs'.v] = some (h8.up bb ⟨cs, true⟩) ∧ BasM h0 (h8.up bb ⟨cs, true⟩) bb rs' (rbs ++ [kb]) n (m + 1) R d := by
  obtain ⟨dz, hdz, gdz⟩ := s.bc
  -- what the grown list leaves alone
  have hdel : ∀ b, (∀ k, rs.a = some (blkA k) → k ≠ b) → delS h7 rs b = h7 b := by
    intro b hb
    unfold delS
    cases hr : rs.a with
    | none => rfl
    | some a =>
      rcases s.gr with ⟨rfl, _⟩ | ⟨kr, tl, e1, _⟩
      · cases hr
      · rw [e1] at hr
        cases hr
        simp only [Hp.del]
        rw [if_neg (Ne.symm (hb kr e1))]
  have zle : ∀ {z : Z} {x : Int}, Ze false h7 z x → Ze false h8 z x := by
    intro z x gz
    refine Ze.le ?_ l'
    unfold delS
    cases hr : rs.a with
    | none => exact gz
    | some a =>
      rcases s.gr with ⟨rfl, _⟩ | ⟨kr, tl, e1, _⟩
      · cases hr
      · rw [e1] at hr
        cases hr
        exact gz.del (s.noi_rs e1)
  have zle' : ∀ {zs : List Z} {xs : List Int}, Zss false h7 zs xs → Zss false h8 zs xs := by
    intro zs
    induction zs with
    | nil => intro xs; cases xs with
      | nil => exact fun _ => trivial
      | cons _ _ => exact fun h => h.elim
    | cons z zs ih => intro xs; cases xs with
      | nil => exact fun h => h.elim
      | cons x xs => exact fun h => ⟨zle h.1, ih h.2⟩
  have rle : ∀ {k : Nat} {xs : List Int}, (∀ j, rs.a = some (blkA j) → j ≠ k) → RowB false h7 k xs → RowB false h8 k xs := by
    rintro k xs hk ⟨zs, a, b⟩
    exact ⟨zs, l' _ _ (by rw [hdel k hk]; exact a), zle' b⟩
  have hbb8 : h8 bb = some ⟨[rs.v, .bool dz.neg, dz.mag.v], true⟩ := l' _ _ (by rw [hdel bb fun k hk => (s.nd.2.2 k hk).1]; exact hdz)
  have rows8 : ∀ i k, rbs[i]? = some k → RowB false h8 k (vecL n (R i)) := fun i k e => rle (fun j hj e' => (s.nd.2.2 j hj).2 (e' ▸ List.mem_of_getElem? e)) (s.rows i k e)
  have gb8 : RowB false h8 kb (vecL n (R m)) := rle d3 gb
  -- the list's block holds slices alone
  have hg' := g
  rcases g with ⟨_, hv⟩ | ⟨kr, tl, e1, e2, e3, e4, e5, e6, e7⟩
  · simp at hv
  have noB : ∀ (b : Bool), Value.bool b ∉ rbs.map (rowV n) ++ [rowV n kb] ++ tl := by
    intro b hb
    rw [List.mem_append, List.mem_append] at hb
    rcases hb with (hb | hb) | hb
    · obtain ⟨j, _, e⟩ := List.mem_map.1 hb; cases e
    · rw [List.mem_singleton] at hb; cases hb
    · have := e7 _ hb; rw [List.mem_singleton] at this; cases this
  have nrow : ∀ {k : Nat} {w : Vec}, RowB false h8 k (vecL n w) → k ≠ kr := by
    rintro k w ⟨zs, a, b⟩ rfl
    rw [e3] at a
    have hl := b.len
    rw [vecL_len] at hl
    cases zs with
    | nil => simp at hl; omega
    | cons z zs =>
      injection a with a
      injection a with a
      exact noB z.neg (a ▸ by simp [zcs, zc])
  have nbb : kr ≠ bb := by
    rintro rfl
    rw [e3] at hbb8
    injection hbb8 with a
    injection a with a
    exact noB dz.neg (a ▸ by simp)
  refine ⟨[rs'.v, .bool dz.neg, dz.mag.v], ?_, ?_⟩
  · rw [add_none, hst_at hbb8 (by simp)]
    rfl
  have nib : NoI h8 bb := by
    refine NoI.of hbb8 fun v hv => ?_
    simp only [List.mem_cons, List.not_mem_nil, or_false] at hv
    rcases hv with rfl | rfl | rfl <;> (intro n e; cases e)
  refine ⟨le_up_of_none s.n0.1 l, ⟨s.n0.1, fun k hk => ?_⟩, ?_, ⟨?_, ?_, fun k hk => ?_⟩, ⟨dz, up_get _ _ _, (zle gdz).up nib _⟩, by simp [s.rl], fun i k hk => ?_⟩
  · rw [List.mem_append, List.mem_singleton] at hk
    rcases hk with hk | rfl
    · exact s.n0.2 k hk
    · exact nb
  · rw [List.map_append]
    exact (hg'.del fun k hk => by rw [e1] at hk; cases hk; exact nbb).le (Hp.del_le_up _ _ _)
  · rw [List.mem_append, List.mem_singleton]
    rintro (h | h)
    · exact s.nd.1 h
    · exact d1 h.symm
  · rw [List.nodup_append]
    refine ⟨s.nd.2.1, by simp, fun a ha b hb => ?_⟩
    rw [List.mem_singleton] at hb
    rw [hb]; rintro rfl; exact d2 ha
  · rw [e1] at hk
    cases hk
    refine ⟨nbb, ?_⟩
    rw [List.mem_append, List.mem_singleton]
    rintro (h | h)
    · obtain ⟨i, hi, e⟩ := List.mem_iff_getElem.1 h
      exact nrow (rows8 i kr (by rw [List.getElem?_eq_getElem hi, e])) rfl
    · exact nrow gb8 h.symm
  · have hr8 : RowB false h8 k (vecL n (R i)) ∧ k ≠ bb := by
      rw [List.getElem?_append] at hk
      split at hk
      · exact ⟨rows8 i k hk, fun e => s.nd.1 (e ▸ List.mem_of_getElem? hk)⟩
      · rename_i hi
        rw [s.rl] at hk hi
        have him : i - m = 0 := by
          rcases Nat.eq_zero_or_pos (i - m) with h | h
          · exact h
          · rw [List.getElem?_eq_none (by simp; omega)] at hk; cases hk
        rw [him] at hk
        cases hk
        have : i = m := by omega
        rw [this]
        exact ⟨gb8, d1⟩
    exact hr8.1.up hr8.2 nib _

theorem vecL_unit {n i : Nat} {d : Int} : (List.replicate n (0 : Int)).set i d = vecL n (unitV d i) := by
  rw [vecL_zero, vecL_set]; rfl

set_option maxHeartbeats 2000000 in
theorem modhnf_start {h : Hp} {n : Nat} {dz : Z} {d : Int} (gd : Zs h dz d) (hn : n ≤ 64) :
    Tri Try.prog (.func (.func 29) #[] #[]) [.int .i64 (n : Nat), dz.v] h
      fun r h' => h.le h' ∧ ∃ bb rs rbs, r = .pointer (some (blkA bb)) ∧ BasM h h' bb rs rbs n n (unitV (d.natAbs : Nat)) (d.natAbs : Nat) := by
  have ksz : Sz ((d.natAbs : Nat) : Int) := gd.sz.le (by omega)
  refine t_modhnf_start ((zint_Abs gd).mono ?_)
  rintro _ h1 ⟨l1, x9, rfl, hx9⟩
  refine ⟨_, rfl, ?_⟩
  rintro b h2 hb rfl
  have hb0 : h b = none := Hp.none_of_le l1 hb
  have l2 : h.le (h1.up b ⟨[.slice none 0 0, .bool x9.neg, x9.mag.v], true⟩) := Hp.le_trans l1 (Hp.le_up _ hb)
  refine ⟨fun i h2 => ∃ (I : Nat) (rs : Sl) (rbs : List Nat), i = I ∧ I ≤ n ∧ BasM h h2 b rs rbs n I (unitV (d.natAbs : Nat)) (d.natAbs : Nat), fun i _ => n - i.toNat, ⟨0, ⟨none, 0, 0⟩, [], rfl, by omega, ?_⟩, ?_⟩
  · refine ⟨l2, ⟨hb0, by simp⟩, Or.inl ⟨rfl, rfl⟩, ⟨by simp, List.nodup_nil, fun k hk => by cases hk⟩, ⟨x9, up_get _ _ _, ?_⟩, rfl, fun i k hk => by simp at hk⟩
    exact (hx9.ze ksz false).le (Hp.le_up _ hb)
  clear hx9 l2
  rintro _ h3 ⟨I, rs, rbs, rfl, hI, s⟩
  refine ⟨fun hc => ?_, fun hc => ?_⟩
  · simp only [decide_eq_true_eq] at hc
    have hI' : I < n := by omega
    refine ⟨by omega, by omega, by omega, by omega, ?_⟩
    rintro b1 h4 hb1 rfl
    rw [Int.toNat_natCast]
    have hb10 : h b1 = none := Hp.none_of_le s.le hb1
    have l4 : h3.le (h3.up b1 ⟨mkCells [.bool false, .slice none 0 0] (n * 2), true⟩) := Hp.le_up _ hb1
    have g4 := RowB.new false (n := n) hb1
    have s4 := s.mono l4
    have n1 : b1 ≠ b := by
      rintro rfl
      obtain ⟨_, a, _⟩ := s.bc
      rw [hb1] at a; cases a
    have n2 : b1 ∉ rbs := fun hin => by
      obtain ⟨i, hi, e⟩ := List.mem_iff_getElem.1 hin
      obtain ⟨zs, a, _⟩ := (s.rows i b1 (by rw [List.getElem?_eq_getElem hi, e])).ex
      rw [hb1] at a; cases a
    have n3 : ∀ k, rs.a = some (blkA k) → k ≠ b1 := fun k hk => by
      rintro rfl
      rcases s.gr with ⟨rfl, _⟩ | ⟨kr, tl, a1, a2, a3, _⟩
      · cases hk
      · rw [a1] at hk; cases hk; rw [hb1] at a3; cases a3
    generalize h3.up b1 ⟨mkCells [.bool false, .slice none 0 0] (n * 2), true⟩ = h4 at *
    refine (zint_Abs (gd.le s4.le)).mono ?_
    rintro _ h5 ⟨l5, z, rfl, hz⟩
    have g5 := g4.le l5
    obtain ⟨cs, hst6, hput⟩ := g5.st (j := (I : Int)) (by omega) (by rw [List.length_replicate]; omega) z
    have g6 := hput _ (hz.ze ksz false)
    rw [Int.toNat_natCast, vecL_unit] at g6
    have s6 := (s4.mono l5).upB n1 n2 n3 g5.noi hb10 ⟨cs, true⟩
    refine ⟨_, rfl, by omega, by omega, rfl, _, hst6, ?_⟩
    generalize h5.up b1 ⟨cs, true⟩ = h6 at *
    refine ⟨rs, s6.ldRows, ?_⟩
    rintro b2 h7 hb2 rfl
    have l7 : h6.le (h6.up b2 ⟨[.slice (some (blkA b1)) n n], true⟩) := Hp.le_up _ hb2
    have s7 := s6.mono l7
    have g7 := g6.le l7
    have hb27 := up_get h6 b2 ⟨[.slice (some (blkA b1)) n n], true⟩
    generalize h6.up b2 ⟨[.slice (some (blkA b1)) n n], true⟩ = h7 at *
    refine ⟨[rowV n b1], ?_, ?_⟩
    · have sg : Seg h7 ⟨some (blkA b2), 1, 1⟩ 1 [rowV n b1] := ⟨rfl, fun _ => ⟨b2, 0, _, rfl, hb27, by simp, by simp [rowV]⟩⟩
      exact sg.first (m := 1) (Nat.le_refl 1) (by decide) (fun v hv => by rw [List.mem_singleton] at hv; rw [hv]; rfl)
    · have hrn := s7.rn
      refine app_grow (h0 := h) (vs := rbs.map (rowV n)) s7.gr s7.le (by decide) (fun v hv => ?_) rfl rfl (by decide) (by omega) ?_
      · obtain ⟨j, _, rfl⟩ := List.mem_map.1 hv
        rfl
      · intro rs' h8 l8 l78 g8 hn8
        refine ⟨rs', rfl, ?_⟩
        obtain ⟨cs9, hst9, s9⟩ := s7.grow (by omega) g7 hb10 n1 n2 n3 l8 l78 g8
        refine ⟨_, hst9, fun x33 e => ?_⟩
        rw [i64w (by omega) (by omega)] at e
        subst e
        exact ⟨⟨I + 1, rs', _, by omega, by omega, s9⟩, by dsimp only; omega⟩
  · simp only [decide_eq_false_iff_not] at hc
    have hIn : I = n := by omega
    subst hIn
    exact ⟨s.le, b, rs, rbs, rfl, s⟩

end Go.Proofs.Ytmfafadchpglgaa

/- modhnf: tidy. -/
namespace Go.Proofs.Ytmfafadchpglgaa
set_option maxRecDepth 20000

theorem nodup_inj : ∀ {l : List Nat} {i j : Nat}, l.Nodup → ∀ (hi : i < l.length) (hj : j < l.length), l[i] = l[j] → i = j
  | [], _, _, _, hi, _, _ => by simp at hi
  | x :: l, 0, 0, _, _, _, _ => rfl
  | x :: l, 0, j + 1, h, _, hj, e => by
    exfalso
    rw [List.getElem_cons_zero, List.getElem_cons_succ] at e
    exact (List.nodup_cons.1 h).1 (e ▸ List.getElem_mem _)
  | x :: l, i + 1, 0, h, hi, _, e => by
    exfalso
    rw [List.getElem_cons_zero, List.getElem_cons_succ] at e
    exact (List.nodup_cons.1 h).1 (e ▸ List.getElem_mem _)
  | x :: l, i + 1, j + 1, h, hi, hj, e => by
    rw [List.getElem_cons_succ, List.getElem_cons_succ] at e
    rw [nodup_inj (List.nodup_cons.1 h).2 _ _ e]

/-- A row changed in place. -/
theorem BasM.stRow {h0 h : Hp} {bb k i n m : Nat} {rs : Sl} {rbs : List Nat} {R : Nat → Vec} {d : Int} {cs : List Value} {w : Vec} (s : BasM h0 h bb rs rbs n m R d) (hk : rbs[i]? = some k) (g : RowB false (h.up k ⟨cs, true⟩) k (vecL n w)) :
    BasM h0 (h.up k ⟨cs, true⟩) bb rs rbs n m (setR R i w) d := by
  have hin : k ∈ rbs := List.mem_of_getElem? hk
  have hni := (s.rows i k hk).noi
  have hkb : bb ≠ k := fun e => s.nd.1 (e ▸ hin)
  refine ⟨le_up_of_none (s.n0.2 k hin) s.le, s.n0, (s.gr.del fun j hj => fun e => (s.nd.2.2 j hj).2 (e ▸ hin)).le (Hp.del_le_up _ _ _), s.nd, ?_, s.rl, fun j l hl => ?_⟩
  · obtain ⟨dz, a, c⟩ := s.bc
    exact ⟨dz, by rw [Hp.up_other _ _ hkb]; exact a, c.up hni _⟩
  · unfold setR
    by_cases e : j = i
    · rw [if_pos e]
      rw [e, hk] at hl
      cases hl
      exact g
    · rw [if_neg e]
      refine (s.rows j l hl).up (fun e' => e ?_) hni _
      rw [e'] at hl
      obtain ⟨h1, h1'⟩ := List.getElem?_eq_some_iff.1 hl
      obtain ⟨h2, h2'⟩ := List.getElem?_eq_some_iff.1 hk
      exact nodup_inj s.nd.2.1 h1 h2 (h1'.trans h2'.symm)

theorem setR_setR (R : Nat → Vec) (i : Nat) (v w : Vec) : setR (setR R i v) i w = setR R i w := by
  funext j; unfold setR; split <;> rfl

/-- Row i, changed up to column t. -/
def tidV (R : Nat → Vec) (i j : Nat) (q : Int) (t : Nat) : Vec := fun k => if k < t then q * R j k + R i k else R i k

theorem tidV_first {n : Nat} {d : Int} {L : Vec → Prop} {R : Nat → Vec} {i j : Nat} (s : TidI n d L R i j) (hj : j < n) (q : Int) : setR R i (tidV R i j q j) = R := by
  funext m
  unfold setR
  split
  · rename_i e
    subst e
    funext k
    unfold tidV
    split
    · rename_i hk
      rw [s.up j hj k (Or.inl hk)]; simp
    · rfl
  · rfl
theorem tidV_last {n : Nat} {d : Int} {L : Vec → Prop} {R : Nat → Vec} {i j : Nat} (s : TidI n d L R i j) (hi : i < n) (hj : j < n) (q : Int) : setR R i (tidV R i j q n) = mulR R i j q := by
  unfold mulR
  congr 1
  funext k
  unfold tidV
  split
  · rfl
  · rw [s.up i hi k (Or.inr (by omega)), s.up j hj k (Or.inr (by omega))]; simp

theorem tid_sz {K e : Nat} {d x : Int} (kd : SzK K (d + 1)) (hd : 0 < d) (hx : x.natAbs ≤ d.natAbs * (d.natAbs + 1) ^ e) : SzK ((e + 1) * K) x := by
  unfold SzK at *
  have h1 : (d + 1).natAbs = d.natAbs + 1 := by omega
  rw [h1] at kd
  have h2 : d.natAbs * (d.natAbs + 1) ^ e < (d.natAbs + 1) ^ (e + 1) := by
    rw [Nat.pow_succ, Nat.mul_comm]
    exact Nat.mul_lt_mul_of_pos_left (by omega) (Nat.pow_pos (by omega))
  have h3 : (d.natAbs + 1) ^ (e + 1) ≤ (B ^ K) ^ (e + 1) := Nat.pow_le_pow_left (Nat.le_of_lt kd) _
  rw [← Nat.pow_mul, Nat.mul_comm K] at h3
  omega

theorem TidI.rowj {n : Nat} {d : Int} {L : Vec → Prop} {R : Nat → Vec} {i j : Nat} (s : TidI n d L R i j) (hij : i < j) (hj : j < n) (k : Nat) : 0 ≤ R j k ∧ R j k ≤ d := by
  have dj := s.dg j hj
  rcases Nat.lt_trichotomy k j with h | h | h
  · rw [s.up j hj k (Or.inl h)]; omega
  · rw [h]; omega
  · by_cases hk : k < n
    · have h1 := s.af j hij hj k h hk
      have h2 := s.dg k hk
      omega
    · rw [s.up j hj k (by omega)]; omega
theorem TidI.skip {n : Nat} {d : Int} {L : Vec → Prop} {R : Nat → Vec} {i j : Nat} (s : TidI n d L R i j) (hij : i < j) (hj : j < n) (hq : R i j / R j j = 0) : TidI n d L R i (j + 1) := by
  have := s.step hij hj
  rw [hq] at this
  have e : mulR R i j (-0) = R := by
    unfold mulR setR
    funext m k
    split
    · rename_i e; rw [e]; simp
    · rfl
  rw [e] at this
  exact this

/-- What tidying leaves. -/
structure HerI (n : Nat) (d : Int) (L : Vec → Prop) (R : Nat → Vec) : Prop where
  her : Her n R
  lat : ∀ x, Lat (Rws R 0 n) x ↔ L x
  bd : ∀ i, i < n → ∀ k, 0 ≤ R i k ∧ R i k ≤ d

theorem TidI.herI {n : Nat} {d : Int} {L : Vec → Prop} {R : Nat → Vec} (s : TidI n d L R 0 n) : HerI n d L R := by
  have h := s.her
  refine ⟨h, s.lat, fun i hi k => ?_⟩
  rcases Nat.lt_trichotomy k i with h1 | h1 | h1
  · rw [s.up i hi k (Or.inl h1)]; have := s.dg i hi; omega
  · subst h1; have := s.dg k hi; omega
  · by_cases hk : k < n
    · have h2 := h.rd i k h1 hk
      have h3 := s.dg k hk
      omega
    · rw [s.up i hi k (Or.inr (by omega))]; have := s.dg i hi; omega

set_option maxHeartbeats 4000000 in
theorem modhnf_tidy {h0 h : Hp} {bb n K : Nat} {rs : Sl} {rbs : List Nat} {R : Nat → Vec} {d : Int} {L : Vec → Prop} (s : BasM h0 h bb rs rbs n n R d) (t : BasI n d L R) (hn : n ≤ 64) (hd : 0 < d) (kd : SzK K (d + 1)) (hK : 65 * K + 1 ≤ 34359738368) :
    Tri Try.prog (.func (.func 32) #[] #[]) [.pointer (some (blkA bb))] h
      fun r h' => r = .tuple #[] ∧ ∃ R', BasM h0 h' bb rs rbs n n R' d ∧ HerI n d L R' := by
  have hrn := s.rn
  refine t_modhnf_basis_tidy ⟨rs, s.ldRows, fun x13 e13 => ?_⟩
  rw [hrn, i64w (by omega) (by omega)] at e13
  subst e13
  refine ⟨fun x2 h1 => ∃ R', BasM h0 h1 bb rs rbs n n R' d ∧ ((x2 = -1 ∧ HerI n d L R') ∨ ∃ i : Nat, x2 = i ∧ i < n ∧ TidI n d L R' i (i + 1)), fun x2 _ => (x2 + 1).toNat, ⟨R, s, ?_⟩, ?_⟩
  · rcases Nat.eq_zero_or_pos n with h | h
    · subst h
      refine Or.inl ⟨by omega, ⟨fun i hi => by omega, fun i hi => by omega, fun i k _ hk => by omega⟩, t.lat, fun i hi => by omega⟩
    · refine Or.inr ⟨n - 1, by omega, by omega, ?_⟩
      rw [show n - 1 + 1 = n by omega]
      exact t.tid h
  clear s t R
  rintro x2 h1 ⟨R, s, hi⟩
  refine ⟨fun hc => ?_, fun hc => ?_⟩
  · simp only [decide_eq_true_eq] at hc
    rcases hi with ⟨rfl, _⟩ | ⟨i, rfl, hin, t⟩
    · omega
    rintro x19 e19
    rw [i64w (by omega) (by omega)] at e19
    subst e19
    refine ⟨fun x3 h2 => ∃ (j : Nat) (R' : Nat → Vec), x3 = j ∧ i < j ∧ j ≤ n ∧ BasM h0 h2 bb rs rbs n n R' d ∧ TidI n d L R' i j, fun x3 _ => n - x3.toNat, ⟨i + 1, R, by omega, by omega, by omega, s, t⟩, ?_⟩
    clear s t R
    rintro _ h2 ⟨j, R, rfl, hij, hj, s, t⟩
    refine ⟨rs, s.ldRows, fun hc2 J hJ => ?_, fun hc2 x17 e17 => ?_⟩
    · simp only [decide_eq_true_eq] at hc2
      have hjn : j < n := by omega
      have fin : ∀ h3 R', BasM h0 h3 bb rs rbs n n R' d → TidI n d L R' i (j + 1) → J h3 := by
        intro h3 R' a b
        refine hJ h3 fun x28 e => ?_
        rw [i64w (by omega) (by omega)] at e
        subst e
        exact ⟨⟨j + 1, R', by omega, by omega, by omega, a, b⟩, by dsimp only; omega⟩
      have e1 : ∀ w : Vec, (vecL n w).length = n := vecL_len n
      obtain ⟨ki, hki, ldi, gi, isI⟩ := s.rowAt hin
      obtain ⟨kj, hkj, ldj, gj, _⟩ := s.rowAt hjn
      obtain ⟨z39, hz39, gz39⟩ := gi.rowN.ld (j := (j : Int)) (by omega) (by rw [e1]; omega)
      rw [Int.toNat_natCast, vecL_get hjn] at gz39
      obtain ⟨z49, hz49, gz49⟩ := gj.rowN.ld (j := (j : Int)) (by omega) (by rw [e1]; omega)
      rw [Int.toNat_natCast, vecL_get hjn] at gz49
      have dj := t.dg j hjn
      refine ⟨rs, s.ldRows, by omega, by omega, isI, ⟨some (blkA ki), n, n⟩, ldi, by omega, by dsimp only; omega, rfl, z39, hz39, rs, s.ldRows, by omega, by omega, isI, ⟨some (blkA kj), n, n⟩, ldj, by omega, by dsimp only; omega, rfl, z49, hz49, ?_⟩
      refine (zint_Floor gz39.zs gz49.zs dj.1).mono ?_
      rintro _ h4 ⟨l4, zq, zr, rfl, hzq, _⟩
      have kR : ∀ k, SzK (63 * K) (R i k) := fun k => (tid_sz kd hd (t.sz k)).mono (Nat.mul_le_mul_right _ (by omega))
      have kq : SzK (63 * K) (R i j / R j j) := (kR j).le (floor_le dj.1)
      have kj : ∀ k, SzK K (R j k) := fun k => kd.le (by have := t.rowj hij hjn k; omega)
      have kp : ∀ k, SzK (64 * K) (-(R i j / R j j) * R j k) := fun k => (kq.neg.mul (kj k)).mono (by omega)
      have km : ∀ k, SzK (64 * K + 1) (-(R i j / R j j) * R j k + R i k) := fun k => (kp k).add ((kR k).mono (by omega))
      refine ⟨l4, zq, zr, _, rfl, (zint_Sign (hzq.zs (kq.sz (by omega)))).const ?_⟩
      refine ⟨_, rfl, fun he => ?_, fun he => ?_⟩
      · simp only [decide_eq_true_eq] at he
        exact fin h4 R (s.mono l4) (t.skip hij hjn (Int.sign_eq_zero_iff_zero.1 he))
      · refine (zint_Neg (hzq.zs (kq.sz (by omega)))).mono ?_
        rintro _ h6 ⟨l6, nq, rfl, hnq⟩
        have gnq := hnq.zs (kq.neg.sz (by omega))
        have tstep := t.step hij hjn
        generalize hqe : -(R i j / R j j) = q at *
        have s6 := s.mono (Hp.le_trans l4 l6)
        clear hzq hz39 hz49 gz39 gz49 gi gj ldi ldj he hnq
        refine ⟨nq, rfl, fun x7 h7 => ∃ tt : Nat, x7 = tt ∧ j ≤ tt ∧ tt ≤ n ∧ Zs h7 nq q ∧ BasM h0 h7 bb rs rbs n n (setR R i (tidV R i j q tt)) d, fun x7 _ => n - x7.toNat, ⟨j, rfl, Nat.le_refl _, by omega, gnq, by rw [tidV_first t hjn]; exact s6⟩, ?_⟩
        clear s6 gnq
        rintro _ h7 ⟨tt, rfl, h1t, h2t, gq, s7⟩
        refine ⟨rs, s7.ldRows, fun hc3 => ?_, fun hc3 => ?_⟩
        · simp only [decide_eq_true_eq] at hc3
          have htn : tt < n := by omega
          obtain ⟨ki', hki', ldi, gi, _⟩ := s7.rowAt hin
          rw [hki] at hki'
          cases hki'
          obtain ⟨kj', hkj', ldj, gj, _⟩ := s7.rowAt hjn
          have ei : setR R i (tidV R i j q tt) i tt = R i tt := by unfold setR tidV; rw [if_pos rfl, if_neg (by omega)]
          have ej : setR R i (tidV R i j q tt) j = R j := by unfold setR; rw [if_neg (by omega)]
          obtain ⟨z87, hz87, gz87⟩ := gj.rowN.ld (j := (tt : Int)) (by omega) (by rw [e1]; omega)
          rw [Int.toNat_natCast, vecL_get htn, ej] at gz87
          obtain ⟨z97, hz97, gz97⟩ := gi.rowN.ld (j := (tt : Int)) (by omega) (by rw [e1]; omega)
          rw [Int.toNat_natCast, vecL_get htn, ei] at gz97
          refine ⟨rs, s7.ldRows, by omega, by omega, isI, ⟨some (blkA ki), n, n⟩, ldi, rs, s7.ldRows, by omega, by omega, isI, ⟨some (blkA kj'), n, n⟩, ldj, by omega, by dsimp only; omega, rfl, z87, hz87,
            rs, s7.ldRows, by omega, by omega, isI, ⟨some (blkA ki), n, n⟩, ldi, by omega, by dsimp only; omega, rfl, z97, hz97, (zint_MulAdd gq gz87.zs gz97.zs ((kp tt).sz (by omega))).mono ?_⟩
          rintro _ h8 ⟨l8, z98, rfl, hz98⟩
          obtain ⟨cs, hst, hput⟩ := (gi.le l8).st (j := (tt : Int)) (by omega) (by rw [e1]; omega) z98
          have g9 := hput _ (hz98.ze ((km tt).sz (by omega)) false)
          rw [Int.toNat_natCast, vecL_set] at g9
          have ew : (fun k => if k = tt then q * R j tt + R i tt else setR R i (tidV R i j q tt) i k) = tidV R i j q (tt + 1) := by
            funext k
            unfold setR tidV
            rw [if_pos rfl]
            by_cases h : k = tt
            · subst h; rw [if_pos rfl, if_pos (by omega)]
            · rw [if_neg h]
              by_cases h' : k < tt
              · rw [if_pos h', if_pos (by omega)]
              · rw [if_neg h', if_neg (by omega)]
          rw [ew] at g9
          have s9 := (s7.mono l8).stRow hki g9
          rw [setR_setR] at s9
          refine ⟨l8, z98, rfl, by omega, by dsimp only; omega, rfl, _, hst, fun x68 e => ?_⟩
          rw [i64w (by omega) (by omega)] at e
          subst e
          exact ⟨⟨tt + 1, by omega, by omega, by omega, (gq.le l8).up ((gi.le l8).noi) _, s9⟩, by dsimp only; omega⟩
        · simp only [decide_eq_false_iff_not] at hc3
          have : tt = n := by omega
          subst this
          rw [tidV_last t hin hjn] at s7
          exact fin h7 _ s7 tstep
    · simp only [decide_eq_false_iff_not] at hc2
      have hjn : j = n := by omega
      subst hjn
      rw [i64w (by omega) (by omega)] at e17
      subst e17
      refine ⟨⟨R, s, ?_⟩, by dsimp only; omega⟩
      rcases Nat.eq_zero_or_pos i with h | h
      · subst h
        exact Or.inl ⟨by omega, t.herI⟩
      · refine Or.inr ⟨i - 1, by omega, by omega, ?_⟩
        have : TidI j d L R (i - 1 + 1) j := by rw [show i - 1 + 1 = i by omega]; exact t
        exact this.row (by omega)
  · simp only [decide_eq_false_iff_not] at hc
    rcases hi with ⟨rfl, t⟩ | ⟨i, rfl, _⟩
    · exact ⟨rfl, R, s, t⟩
    · omega

end Go.Proofs.Ytmfafadchpglgaa

/- modhnf: Modulo. -/
namespace Go.Proofs.Ytmfafadchpglgaa
set_option maxRecDepth 20000

/-- Integers appended to a list that began empty. -/
structure GrowZ (h0 h : Hp) (s : Sl) (ns : List Int) : Prop where
  ex : ∃ zs, GrowS [.bool false, .slice none 0 0] h0 h s 2 (zcs zs) ∧ Zss true h zs ns
  le : h0.le h

theorem GrowZ.nil {h0 h : Hp} (l : h0.le h) : GrowZ h0 h ⟨none, 0, 0⟩ [] := ⟨⟨[], Or.inl ⟨rfl, rfl⟩, trivial⟩, l⟩
theorem GrowZ.mono {h0 h h' : Hp} {s : Sl} {ns : List Int} (g : GrowZ h0 h s ns) (l : h.le h') : GrowZ h0 h' s ns := ⟨let ⟨zs, a, b⟩ := g.ex; ⟨zs, a.le l, b.le l⟩, Hp.le_trans g.le l⟩
theorem GrowZ.cnt {h0 h : Hp} {s : Sl} {ns : List Int} (g : GrowZ h0 h s ns) : s.n = ns.length := by
  obtain ⟨zs, a, b⟩ := g.ex
  have hl := b.len
  rcases a with ⟨rfl, hv⟩ | ⟨k, tl, e1, e2, e3, e4, _⟩
  · cases zs with
    | nil => exact hl
    | cons z zs => simp [zcs, zc] at hv
  · rw [zcs_len] at e4; omega
theorem GrowZ.row {h0 h : Hp} {s : Sl} {ns : List Int} (g : GrowZ h0 h s ns) : RowS true h s ns := by
  obtain ⟨zs, a, b⟩ := g.ex
  rcases a with ⟨rfl, hv⟩ | ⟨k, tl, e1, e2, e3, e4, e5, e6, e7⟩
  · refine ⟨⟨zs, ?_, b⟩, Nat.le_refl _⟩
    rw [hv]; exact Seg.nil rfl
  · exact ⟨⟨zs, ⟨e4, fun _ => ⟨k, 0, _, e1, e3, by simp, by simp⟩⟩, b⟩, e6⟩

theorem GrowZ.app {h0 h : Hp} {s : Sl} {ns ms : List Int} {us : List Z} {m bytes : Nat} {K : Value → Hp → Prop} (g : GrowZ h0 h s ns) (hz : Zss true h us ms) (hm : 0 < m) (hu : us.length = m)
    (hcap : (s.n + m) * bytes ≤ 140737488355328) (hk : ∀ (s' : Sl) (h' : Hp), GrowZ h0 h' s' (ns ++ ms) → K s'.v h') : appRes h s.a s.n s.c m 2 bytes [.b false, .nil] (zcs us) K := by
  obtain ⟨zs, a, b⟩ := g.ex
  refine app_grow (h0 := h0) (vs := zcs zs) a g.le (by decide) (zcs_one zs) (by rw [zcs_len, hu]) rfl hm hcap fun s' h' l1 l2 g' hn => hk s' h' ⟨⟨zs ++ us, by rw [zcs_app]; exact g', ?_⟩, l1⟩
  have hd : Zss true h (zs) ns → Zss true h us ms → Zss true (delS h s) zs ns ∧ Zss true (delS h s) us ms := by
    intro x y
    unfold delS
    cases hr : s.a with
    | none => exact ⟨x, y⟩
    | some ad =>
      rcases a with ⟨rfl, _⟩ | ⟨k, tl, e1, e2, e3, e4, e5, e6, e7⟩
      · cases hr
      · rw [e1] at hr
        cases hr
        have ni : NoI h k := NoI.of e3 fun v hv => by
          rw [List.mem_append] at hv
          rcases hv with hv | hv
          · exact zcs_noi zs v hv
          · have := e7 v hv
            simp only [List.mem_cons, List.not_mem_nil, or_false] at this
            rcases this with rfl | rfl <;> (intro n e; cases e)
        exact ⟨x.del ni, y.del ni⟩
  obtain ⟨x, y⟩ := hd b hz
  exact (y.le l2).app (x.le l2)

/-- One more integer, by way of a block of its own. -/
theorem firstZ {h : Hp} {b : Nat} {z : Z} (hb : h b = some ⟨[.bool z.neg, z.mag.v], true⟩) : firstOf h (some (blkA b)) 1 2 = some (zcs [z]) := by
  have sg : Seg h ⟨some (blkA b), 1, 1⟩ 2 (zcs [z]) := ⟨rfl, fun _ => ⟨b, 0, _, rfl, hb, by simp [zcs, zc], by simp [zcs, zc, Sl.v]⟩⟩
  exact sg.first (m := 1) (Nat.le_refl 2) (by decide) (zcs_one [z])

theorem BasM.base {h0 h1 h : Hp} {bb n m : Nat} {rs : Sl} {rbs : List Nat} {R : Nat → Vec} {d : Int} (s : BasM h0 h bb rs rbs n m R d) (l : h1.le h) (n1 : h1 bb = none) (n2 : ∀ k ∈ rbs, h1 k = none) (n3 : ∀ k, rs.a = some (blkA k) → h1 k = none) : BasM h1 h bb rs rbs n m R d :=
  { s with
    le := l
    n0 := ⟨n1, n2⟩
    gr := by
      rcases s.gr with g | ⟨k, tl, e1, e2, e3, e4⟩
      · exact Or.inl g
      · exact Or.inr ⟨k, tl, e1, n3 k e1, e3, e4⟩ }

theorem Zss.weak {h : Hp} : ∀ {zs : List Z} {ns : List Int} {c : Bool}, Zss c h zs ns → Zss false h zs ns
  | [], [], _, _ => trivial
  | [], _ :: _, _, h => h.elim
  | _ :: _, [], _, h => h.elim
  | _ :: _, _ :: _, _, h => ⟨h.1.weak, Zss.weak h.2⟩
theorem RowB.weak {c : Bool} {h : Hp} {k : Nat} {ns : List Int} (g : RowB c h k ns) : RowB false h k ns := let ⟨zs, a, b⟩ := g.ex; ⟨zs, a, b.weak⟩

/-- The lattice of d times the units and of the first i rows. -/
def LatI (ns : List Int) (n : Nat) (d : Int) (i : Nat) : Vec → Prop := Lat (fun g => (∃ j, j < i ∧ g = vecOf (rowOf ns n j)) ∨ ∃ j, j < n ∧ g = unitV d j)

theorem latI_zero {ns : List Int} {n : Nat} {d : Int} (hd : 0 < d) : BasI n d (LatI ns n d 0) (unitV d) := by
  refine ⟨⟨fun i hi k hk => ?_, fun i hi => ?_, fun i hi k => ?_⟩, fun i hi => .gen ⟨i, Nat.le_refl _, hi, rfl⟩, fun x => ⟨Lat.mono ?_, Lat.mono ?_⟩⟩
  · unfold unitV; rw [if_neg (by omega)]
  · unfold unitV; rw [if_pos rfl]; exact hd
  · unfold unitV; split <;> omega
  · rintro g ⟨m, _, hm, rfl⟩
    exact Or.inr ⟨m, hm, rfl⟩
  · rintro g (⟨j, hj, _⟩ | ⟨j, hj, rfl⟩)
    · omega
    · exact ⟨j, Nat.zero_le _, hj, rfl⟩
theorem BasI.cong {n : Nat} {d : Int} {L L' : Vec → Prop} {R : Nat → Vec} (s : BasI n d L R) (h : ∀ x, L x ↔ L' x) : BasI n d L' R := ⟨s.t, s.tail, fun x => (s.lat x).trans (h x)⟩
theorem latI_succ {ns : List Int} {n : Nat} {d : Int} {i : Nat} (x : Vec) : LatV (LatI ns n d i) (vecOf (rowOf ns n i)) x ↔ LatI ns n d (i + 1) x := by
  constructor
  · refine Lat.of ?_
    rintro g (hg | rfl)
    · refine Lat.mono ?_ hg
      rintro g (⟨j, hj, rfl⟩ | hg)
      · exact Or.inl ⟨j, by omega, rfl⟩
      · exact Or.inr hg
    · exact .gen (Or.inl ⟨i, by omega, rfl⟩)
  · refine Lat.of ?_
    rintro g (⟨j, hj, rfl⟩ | hg)
    · by_cases e : j = i
      · rw [e]; exact .gen (Or.inr rfl)
      · exact .gen (Or.inl (.gen (Or.inl ⟨j, by omega, rfl⟩)))
    · exact .gen (Or.inl (.gen (Or.inr hg)))

/-- The entries of i rows. -/
def flatM (n : Nat) (R : Nat → Vec) (i : Nat) : List Int := (List.range i).flatMap fun j => vecL n (R j)
theorem flatM_succ (n : Nat) (R : Nat → Vec) (i : Nat) : flatM n R (i + 1) = flatM n R i ++ vecL n (R i) := by simp [flatM, List.range_succ]
theorem flatM_len (n : Nat) (R : Nat → Vec) (i : Nat) : (flatM n R i).length = i * n := by
  induction i with
  | zero => simp [flatM]
  | succ i ih => rw [flatM_succ, List.length_append, ih, vecL_len, Nat.add_mul, Nat.one_mul]
theorem vecL_succ (n : Nat) (v : Vec) : vecL (n + 1) v = vecL n v ++ [v n] := by simp [vecL, List.range_succ]
theorem rowOf_mem {ns : List Int} {n i : Nat} {x : Int} (h : x ∈ rowOf ns n i) : x ∈ ns := List.mem_of_mem_drop (List.mem_of_mem_take h)
theorem rowOf_len {ns : List Int} {r n i : Nat} (h : ns.length = r * n) (hi : i < r) : (rowOf ns n i).length = n := by
  have : (i + 1) * n ≤ r * n := Nat.mul_le_mul_right _ hi
  rw [Nat.add_mul, Nat.one_mul] at this
  unfold rowOf; simp; omega
theorem vecOf_sz {K : Nat} {l : List Int} (h : ∀ x ∈ l, SzK K x) (k : Nat) : SzK K (vecOf l k) := by
  unfold vecOf
  by_cases hk : k < l.length
  · exact h _ (by simp [List.getD, hk])
  · have : l.getD k 0 = 0 := by simp [List.getD, List.getElem?_eq_none (by omega : l.length ≤ k)]
    rw [this]
    exact Nat.pow_pos (by decide)

theorem le_delL {h0 h : Hp} (l : h0.le h) : ∀ {ls : List Nat}, (∀ k ∈ ls, h0 k = none) → h0.le (delL h ls)
  | [], _ => l
  | k :: ls, hn => Hp.le_del (le_delL l fun j hj => hn j (by simp [hj])) (hn k (by simp))

set_option maxHeartbeats 4000000 in
theorem modhnf_Modulo {c : Bool} {h : Hp} {m : M} {r n K : Nat} {ns : List Int} {dz : Z} {d : Int} (g : Mx c h m r n ns) (hs : ∀ x ∈ ns, SzK K x) (gd : Zs h dz d) (hd : d ≠ 0) (kd : SzK K ((d.natAbs : Nat) + 1)) (hK : 65 * K + 1 ≤ 34359738368) :
    Tri Try.prog (.func (.func 9) #[] #[]) [m.v, dz.v] h
      fun v h' => h.le h' ∧ ∃ (m' : M) (R : Nat → Vec), v = .tuple #[m'.v, .int .i64 0] ∧ Mx true h' m' n n (flatM n R n) ∧ HerI n (d.natAbs : Nat) (LatI ns n (d.natAbs : Nat) r) R := by
  have hn := g.k64
  have hsz : ∀ x ∈ ns, Sz x := fun x hx => (hs x hx).sz (by omega)
  refine t_modhnf_Modulo ((mat_Check m).const ?_)
  refine ⟨_, rfl, fun hc => ?_, fun _ => (zint_Sign gd).const ?_⟩
  · rw [g.ok] at hc; simp at hc
  refine ⟨_, rfl, fun hc => ?_, fun _ => ?_⟩
  · simp only [decide_eq_true_eq] at hc
    exact absurd (Int.sign_eq_zero_iff_zero.1 hc) hd
  rw [g.cols]
  refine (modhnf_start gd hn).mono ?_
  rintro _ h3 ⟨l3, bb, rs, rbs, rfl, s3⟩
  refine ⟨_, rfl, (mat_Lines (g.le l3) hsz).mono ?_⟩
  rintro _ h4 ⟨l4, f, p, q, rfl, hit⟩
  obtain ⟨D, hD⟩ : ∃ D : Int, D = (d.natAbs : Nat) := ⟨_, rfl⟩
  rw [← hD] at s3 kd ⊢
  have hD0 : 0 < D := by omega
  have s4 := s3.mono l4
  -- the basis's own blocks
  have hls : ∃ ls : List Nat, bb ∈ ls ∧ (∀ k ∈ rbs, k ∈ ls) ∧ (∀ k, rs.a = some (blkA k) → k ∈ ls) ∧ ∀ k ∈ ls, h k = none ∧ h3 k ≠ none ∧ NoI h4 k := by
    have hb : h bb = none ∧ h3 bb ≠ none ∧ NoI h4 bb := ⟨s3.n0.1, (by obtain ⟨_, a, _⟩ := s3.bc; rw [a]; exact fun e => nomatch e), s4.noi_bb⟩
    have hr : ∀ k ∈ rbs, h k = none ∧ h3 k ≠ none ∧ NoI h4 k := fun k hk => by
      obtain ⟨i, hi, e⟩ := List.mem_iff_getElem.1 hk
      have e' : rbs[i]? = some k := by rw [List.getElem?_eq_getElem hi, e]
      obtain ⟨_, a, _⟩ := (s3.rows i k e').ex
      exact ⟨s3.n0.2 k hk, (by rw [a]; exact fun e => nomatch e), (s4.rows i k e').noi⟩
    rcases s3.gr with ⟨hh, _⟩ | ⟨kr, tl, a1, a2, a3, _⟩
    · refine ⟨bb :: rbs, by simp, fun k hk => by simp [hk], fun k hk => ?_, fun k hk => ?_⟩
      · rw [hh] at hk; cases hk
      · rw [List.mem_cons] at hk
        rcases hk with rfl | hk
        · exact hb
        · exact hr k hk
    · refine ⟨kr :: bb :: rbs, by simp, fun k hk => by simp [hk], fun k hk => ?_, fun k hk => ?_⟩
      · rw [a1] at hk; cases hk; simp
      · rw [List.mem_cons, List.mem_cons] at hk
        rcases hk with rfl | rfl | hk
        · exact ⟨a2, (by rw [a3]; exact fun e => nomatch e), s4.noi_rs a1⟩
        · exact hb
        · exact hr k hk
  obtain ⟨ls, m1, m2, m3, hl⟩ := hls
  have hdn : ∀ k ∈ ls, delL h4 ls k = none := fun k hk => by rw [delL_get, if_pos hk]
  have lhm : h.le (delL h4 ls) := le_delL (Hp.le_trans l3 l4) fun k hk => (hl k hk).1
  have s4' : BasM (delL h4 ls) h4 bb rs rbs n n (unitV D) D := s4.base (delL_le _ _) (hdn bb m1) (fun k hk => hdn k (m2 k hk)) (fun k hk => hdn k (m3 k hk))
  have hit' := hit ls fun k hk => (hl k hk).2
  generalize delL h4 ls = hm at *
  refine ⟨f, p, q, rfl, hm, r, _, hit', fun i h5 => ∃ (rbs : List Nat) (R : Nat → Vec), BasM hm h5 bb rs rbs n n R D ∧ BasI n D (LatI ns n D i) R, ⟨rbs, _, s4', latI_zero hD0⟩, ?_, ?_, ?_⟩
  · rintro i h5 ⟨rbs, R, s, _⟩
    exact s.le
  · rintro i h5 hi ⟨rbs, R, s, t⟩ x31 x32 h6 ⟨rfl, kb, rfl, nkb, gkb⟩ l6
    have hlen : (rowOf ns n i).length = n := rowOf_len g.len hi
    have n1 : kb ≠ bb := by
      rintro rfl
      obtain ⟨_, a, _⟩ := s.bc
      rw [nkb] at a; cases a
    have n2 : kb ∉ rbs := fun hin => by
      obtain ⟨j, hj, e⟩ := List.mem_iff_getElem.1 hin
      obtain ⟨zs, a, _⟩ := (s.rows j kb (by rw [List.getElem?_eq_getElem hj, e])).ex
      rw [nkb] at a; cases a
    have n3 : ∀ k, rs.a = some (blkA k) → k ≠ kb := fun k hk => by
      rintro rfl
      rcases s.gr with ⟨hh, _⟩ | ⟨kr, tl, a1, a2, a3, _⟩
      · rw [hh] at hk; cases hk
      · rw [a1] at hk; cases hk; rw [nkb] at a3; cases a3
    have gk : RowB false h6 kb (vecL n (vecOf (rowOf ns n i))) := by rw [vecL_of hlen]; exact gkb.weak
    refine (modhnf_put (s.mono l6) t hn hD0 gk (vecOf_out hlen) (Hp.none_of_le s.le nkb) n1 n2 n3 kd (fun k => vecOf_sz (fun x hx => hs x (rowOf_mem hx)) k) (by omega)).mono ?_
    rintro _ h8 ⟨rfl, rbs', R', s8, t8⟩
    exact ⟨rfl, rbs', R', s8, t8.cong fun x => latI_succ x⟩
  · rintro h7 ⟨rbs, R, s, t⟩
    refine (modhnf_tidy s t hn hD0 kd hK).mono ?_
    rintro _ h9 ⟨rfl, R, s, t⟩
    have l9 : h.le h9 := Hp.le_trans lhm s.le
    have hrn := s.rn
    refine ⟨rfl, rs, s.ldRows, fun i x10 h10 => ∃ I : Nat, i = I ∧ I ≤ n ∧ x10.rows = n ∧ x10.cols = n ∧ GrowZ h9 h10 x10.el (flatM n R I), fun i _ _ => n - i.toNat, ⟨0, rfl, by omega, rfl, rfl, GrowZ.nil (Hp.le_refl _)⟩, ?_⟩
    rintro _ x10 h10 ⟨I, rfl, hI, hr, hc, gz⟩
    refine ⟨fun hc1 => ?_, fun hc1 => ?_⟩
    · simp only [decide_eq_true_eq] at hc1
      have hIn : I < n := by omega
      obtain ⟨ki, hki, ldi, gi, isI⟩ := (s.mono gz.le).rowAt hIn
      have gi9 : RowB false h9 ki (vecL n (R I)) := s.rows I ki hki
      refine ⟨by omega, by omega, isI, ⟨some (blkA ki), n, n⟩, ldi, fun t y h11 => ∃ T : Nat, t = T ∧ T ≤ n ∧ y.rows = n ∧ y.cols = n ∧ GrowZ h9 h11 y.el (flatM n R I ++ vecL T (R I)), fun t _ _ => n - t.toNat, ⟨0, rfl, by omega, hr, hc, ?_⟩, ?_⟩
      · have : vecL 0 (R I) = [] := rfl
        rw [this, List.append_nil]; exact gz
      clear gz gi hr hc ldi
      rintro _ y h11 ⟨T, rfl, hT, hr, hc, gz⟩
      refine ⟨fun hc2 => ?_, fun hc2 => ?_⟩
      · simp only [decide_eq_true_eq] at hc2
        have hTn : T < n := by omega
        obtain ⟨z57, hz57, gz57⟩ := ((gi9.le gz.le).rowN).ld (j := (T : Int)) (by omega) (by rw [vecL_len]; omega)
        rw [Int.toNat_natCast, vecL_get hTn] at gz57
        refine ⟨by omega, by dsimp only; omega, rfl, z57, hz57, (zint_Least gz57.zs).mono ?_⟩
        rintro _ h12 ⟨l12, z61, rfl, hz61⟩
        refine ⟨_, rfl, ?_⟩
        rintro b h13 hb rfl
        have l13 : h12.le (h12.up b ⟨[.bool z61.neg, z61.mag.v], true⟩) := Hp.le_up _ hb
        have hcnt := gz.cnt
        rw [List.length_append, flatM_len, vecL_len] at hcnt
        have hIm : I * n ≤ 64 * 64 := Nat.mul_le_mul (by omega) (by omega)
        refine ⟨_, firstZ (up_get _ _ _), GrowZ.app (ms := [R I T]) ((gz.mono l12).mono l13) ⟨(hz61.ze gz57.zs.sz true).le l13, trivial⟩ (by decide) rfl (by omega) ?_⟩
        intro s' h14 g14
        refine ⟨s', rfl, fun x65 e => ?_⟩
        rw [i64w (by omega) (by omega)] at e
        subst e
        refine ⟨⟨T + 1, by omega, by omega, hr, hc, ?_⟩, by dsimp only; omega⟩
        rw [vecL_succ, ← List.append_assoc]
        exact g14
      · simp only [decide_eq_false_iff_not] at hc2
        have hTn : T = n := by omega
        subst hTn
        intro x66 e
        rw [i64w (by omega) (by omega)] at e
        subst e
        refine ⟨⟨I + 1, by omega, by omega, hr, hc, ?_⟩, by dsimp only; omega⟩
        rw [flatM_succ]; exact gz
    · simp only [decide_eq_false_iff_not] at hc1
      have hIn : I = n := by omega
      subst hIn
      exact ⟨Hp.le_trans l9 gz.le, x10, R, rfl, ⟨hr, hc, hn, hn, gz.row, by rw [flatM_len]⟩, t⟩

end Go.Proofs.Ytmfafadchpglgaa
