/- Making: choices, numbers, constants. -/
import Derived.Test.YtjfkhhfdfebpeaaGreatDoorEngT
import Derived.Test.YtjfkhhfdfebpeaaGreatDoorEngTab
import Derived.Test.YtjfkhhfdfebpeaaGreatDoorEngW2
import Derived.Test.YtjfkhhfdfebpeaaGreatDoorEngW5
import Derived.Test.YtjfkhhfdfebpeaaGreatDoorEngZ
set_option linter.all false
set_option linter.unusedVariables false
set_option linter.unusedSimpArgs false
set_option maxRecDepth 100000
set_option maxHeartbeats 4000000
namespace Eng
open Go
section
variable {R : RProg} {G : Nat → AV}
theorem call35 (hR : Has R G c35) (x n : Int) (hn : 0 < n ∧ n < 2 ^ 40) : ∃ v, (Lim R G).call 35 [.pl (.int .i64 (x)), .pl (.int .i64 (n))] [] = some (.pl (.int .i64 (v)), []) ∧ 0 ≤ v ∧ v < n := by
  have h1 : -n < x.tmod n := by have := Int.lt_tmod_of_pos x hn.1; omega
  have h2 : x.tmod n < n := Int.tmod_lt_of_pos x hn.1
  have h3 : 0 ≤ (x.tmod n + n).tmod n := Int.tmod_nonneg n (by omega)
  have h4 : (x.tmod n + n).tmod n < n := Int.tmod_lt_of_pos _ hn.1
  refine ⟨(x.tmod n + n).tmod n, ?_, h3, h4⟩
  refine call_of (hR.at 35 (by kernel_rfl) tab35) (by rfl) ?_
  generalize hv : (x.tmod n + n).tmod n = v at *
  generalize hu : x.tmod n = u at *
  repeat' (first | refine uU ?_ | refine uV fun z hz => ?_ | refine uW fun zs hzs => ?_ | refine dq (fun hq => ?_) fun hq => ?_)
  rename_i z1 hz1 z2 hz2
  (refine fin_ret ?_; rw [show v = z by rw [hz, hz2, hz1, hu, hv]]; cbv)
def dk (l : List Int) (a : Int) : Obj := .box 2 (.st 2 [.sl 1 (l.map fun n => [.int .i64 n]), .int .i64 a])
theorem call16 (hR : Has R G c16) (l : List Int) (hl : l.length ≤ 500) (a n : Int) (ha : 0 ≤ a ∧ a ≤ 500) (hn : n < 2 ^ 40) : ∃ v a', (Lim R G).call 16 [.ptr 0 0, .pl (.int .i64 (n))] [dk l a] = some (.pl (.int .i64 (v)), [dk l a']) ∧ 0 ≤ v ∧ (v < n ∨ v = 0) ∧ 0 ≤ a' ∧ a' ≤ 500 := by
  by_cases h : n < 1 ∨ (l.length : Int) ≤ a
  · refine ⟨0, a, ?_, by omega, .inr rfl, ha.1, ha.2⟩
    refine call_of (hR.at 16 (by kernel_rfl) tab16) (by rfl) ?_
    unfold dk
    have hl : (l.map fun n => [PV.int .i64 n]).length = l.length := by simp
    generalize (l.map fun n => [PV.int .i64 n]) = rs at *
    repeat' (first | refine uU ?_ | refine uV fun z hz => ?_ | refine uW fun zs hzs => ?_ | refine dq (fun hq => ?_) fun hq => ?_)
    all_goals (refine fin_ret ?_; cbv)
  · obtain ⟨x, hx⟩ : ∃ x, (l.map fun n => [PV.int .i64 n]).getD a.toNat [] = [PV.int .i64 x] := by
      refine ⟨l[a.toNat]'(by omega), ?_⟩
      simp [show a.toNat < l.length by omega]
    obtain ⟨v, hc, h1, h2⟩ := call35 (hR.sub (by kernel_rfl)) x n (by omega)
    refine ⟨v, a + 1, ?_, h1, .inl h2, by omega, by omega⟩
    refine call_of (hR.at 16 (by kernel_rfl) tab16) (by rfl) ?_
    unfold dk
    have hl : (l.map fun n => [PV.int .i64 n]).length = l.length := by simp
    generalize (l.map fun n => [PV.int .i64 n]) = rs at *
    generalize ha1 : a + 1 = a1 at *
    repeat' (first | refine uU ?_ | refine uV fun z hz => ?_ | refine uW fun zs hzs => ?_ | refine dq (fun hq => ?_) fun hq => ?_)
    (refine fin_ret ?_; rw [show a1 = z by omega]; cbv)
theorem call5 (hR : Has R G c5) (rs : List (List PV)) : (Lim R G).call 5 [.pl (.sl 1 (rs))] [] = some (.ptr 0 0, [.box 2 (.st 2 [.sl 1 rs, .int .i64 0])]) := by
  refine call_of (hR.at 5 (by kernel_rfl) tab5) (by rfl) ?_
  repeat' (first | refine uU ?_ | refine uV fun z hz => ?_ | refine uW fun zs hzs => ?_ | refine dq (fun hq => ?_) fun hq => ?_)
  (refine fin_ret ?_; cbv)
theorem call18 (hR : Has R G c18) (as bs : List (List PV)) (h : as.length + bs.length < 2 ^ 32) : (Lim R G).call 18 [.pl (.sl 2 (as)), .pl (.sl 2 (bs))] [] = some (.pl (.sl 2 (as ++ bs)), []) := by
  refine call_of (hR.at 18 (by kernel_rfl) tab18) (by rfl) ?_
  repeat' (first | refine uU ?_ | refine uV fun z hz => ?_ | refine uW fun zs hzs => ?_ | refine dq (fun hq => ?_) fun hq => ?_)
  (refine fin_ret ?_; rw [← hzs]; cbv)
theorem call44z (hR : Has R G c44) (k : Int) : (Lim R G).call 44 [.pl (.int .i64 (k)), .pl (.sl 0 [])] [] = some (.st 5 (Tm.enc (Tm.n0 k [])), []) := by
  refine call_of (hR.at 44 (by kernel_rfl) tab44) (by rfl) ?_
  simp only [Tm.n0, Tm.enc, Tm.encs, Ty.kind_mk, Ty.args_mk, Ty.encs_nil]
  repeat' (first | refine uU ?_ | refine uV fun z hz => ?_ | refine uW fun zs hzs => ?_ | refine dq (fun hq => ?_) fun hq => ?_)
  have hz0 : z = 0 := by simpa using hz
  refine wploop (σ := Unit) (fun _ => []) (fun _ => []) (fun _ => True) (fun _ => 0) () (by cbv) trivial (by cbv) ?_
  rintro _ _
  refine wp_at (by cbv) ?_
  repeat' (first | refine uU ?_ | refine uV fun z hz => ?_ | refine uW fun zs hzs => ?_ | refine dq (fun hq => ?_) fun hq => ?_)
  (refine fin_ret ?_; cbv)
theorem call44s (hR : Has R G c44) (k : Int) (as : List Tm) (hs : Tm.sizes as < 2 ^ 31) : (Lim R G).call 44 [.pl (.int .i64 (k)), .pl (.sl 5 (Tm.encs as))] [] = some (.st 5 (Tm.enc (Tm.n0 k as)), []) := call44 (hR.sub (by kernel_rfl)) k as hs
theorem call43s (hR : Has R G c43) (k : Int) (t : Ty) (as : List Tm) (ht : t.size < 2 ^ 31) (hs : Tm.sizes as < 2 ^ 31) : (Lim R G).call 43 [.pl (.int .i64 (k)), .st 2 t.enc, .pl (.sl 5 (Tm.encs as))] [] = some (.st 5 (Tm.enc (Tm.n1 k t as)), []) := call43 (hR.sub (by kernel_rfl)) k t as ht hs
theorem call70 (hR : Has R G c70) (a : Tm) (hs : a.size < 2 ^ 31) : (Lim R G).call 70 [.st 5 a.enc] [] = some (.st 5 a.lamN.enc, []) := by
  have h1 := call20 (hR.sub (by kernel_rfl))
  have h2 := call43s (hR.sub (by kernel_rfl)) 2 .nat [a] (by decide) (by simp only [Tm.sizes]; omega)
  rw [show Ty.mk 1 [] = Ty.nat from rfl] at h1
  refine call_of (hR.at 70 (by kernel_rfl) tab70) (by rfl) ?_
  unfold Tm.lamN
  simp only [Tm.encs] at *
  generalize a.enc = ra at *
  generalize Ty.nat.enc = yt at *
  generalize (Tm.n1 2 Ty.nat [a]).enc = ro at *
  repeat' (first | refine uU ?_ | refine uV fun z hz => ?_ | refine uW fun zs hzs => ?_ | refine dq (fun hq => ?_) fun hq => ?_)
  (refine fin_ret ?_; cbv)
theorem call71 (hR : Has R G c71) (a b c : Tm) (ha : a.size < 2 ^ 29) (hb : b.size < 2 ^ 29) (hc : c.size < 2 ^ 29) : (Lim R G).call 71 [.st 5 a.enc, .st 5 b.enc, .st 5 c.enc] [] = some (.st 5 (Tm.recN a b c).enc, []) := by
  have h1 := call20 (hR.sub (by kernel_rfl))
  have h2 := call43s (hR.sub (by kernel_rfl)) 6 .nat [a, b, c] (by decide) (by simp only [Tm.sizes]; omega)
  rw [show Ty.mk 1 [] = Ty.nat from rfl] at h1
  refine call_of (hR.at 71 (by kernel_rfl) tab71) (by rfl) ?_
  unfold Tm.recN
  simp only [Tm.encs] at *
  generalize a.enc = ra at *
  generalize b.enc = rb at *
  generalize c.enc = rc at *
  generalize Ty.nat.enc = yt at *
  generalize (Tm.n1 6 Ty.nat [a, b, c]).enc = ro at *
  repeat' (first | refine uU ?_ | refine uV fun z hz => ?_ | refine uW fun zs hzs => ?_ | refine dq (fun hq => ?_) fun hq => ?_)
  (refine fin_ret ?_; cbv)
theorem call72 (hR : Has R G c72) : (Lim R G).call 72 [] [] = some (.st 5 Tm.pred.enc, []) := by
  have h1 := call44z (hR.sub (by kernel_rfl)) 4
  have h2 := call42 (hR.sub (by kernel_rfl)) 1
  have h3 := call70 (hR.sub (by kernel_rfl)) (.var 1) (by decide)
  have h4 := call70 (hR.sub (by kernel_rfl)) (.lamN (.var 1)) (by decide)
  have h5 := call42 (hR.sub (by kernel_rfl)) 0
  have h6 := call71 (hR.sub (by kernel_rfl)) (.n0 4 []) (.lamN (.lamN (.var 1))) (.var 0) (by decide) (by decide) (by decide)
  have h7 := call70 (hR.sub (by kernel_rfl)) (.recN (.n0 4 []) (.lamN (.lamN (.var 1))) (.var 0)) (by decide)
  rw [show Tm.mk 1 1 (.mk 0 []) [] = Tm.var 1 from rfl] at h2
  rw [show Tm.mk 1 0 (.mk 0 []) [] = Tm.var 0 from rfl] at h5
  refine call_of (hR.at 72 (by kernel_rfl) tab72) (by rfl) ?_
  unfold Tm.pred
  generalize Tm.enc = te at *
  repeat' (first | refine uU ?_ | refine uV fun z hz => ?_ | refine uW fun zs hzs => ?_ | refine dq (fun hq => ?_) fun hq => ?_)
  (refine fin_ret ?_; cbv)
theorem call45 (hR : Has R G c45) : (Lim R G).call 45 [] [] = some (.st 5 Tm.plus.enc, []) := by
  have h2 := call42 (hR.sub (by kernel_rfl)) 1
  have h5 := call42 (hR.sub (by kernel_rfl)) 0
  have h8 := call44s (hR.sub (by kernel_rfl)) 5 [.var 0] (by decide)
  have h3 := call70 (hR.sub (by kernel_rfl)) (.n0 5 [.var 0]) (by decide)
  have h4 := call70 (hR.sub (by kernel_rfl)) (.lamN (.n0 5 [.var 0])) (by decide)
  have h6 := call71 (hR.sub (by kernel_rfl)) (.var 1) (.lamN (.lamN (.n0 5 [.var 0]))) (.var 0) (by decide) (by decide) (by decide)
  have h7 := call70 (hR.sub (by kernel_rfl)) (.recN (.var 1) (.lamN (.lamN (.n0 5 [.var 0]))) (.var 0)) (by decide)
  have h9 := call70 (hR.sub (by kernel_rfl)) (.lamN (.recN (.var 1) (.lamN (.lamN (.n0 5 [.var 0]))) (.var 0))) (by decide)
  rw [show Tm.mk 1 1 (.mk 0 []) [] = Tm.var 1 from rfl] at h2
  rw [show Tm.mk 1 0 (.mk 0 []) [] = Tm.var 0 from rfl] at h5
  simp only [Tm.encs] at h8
  refine call_of (hR.at 45 (by kernel_rfl) tab45) (by rfl) ?_
  unfold Tm.plus
  generalize Tm.enc = te at *
  repeat' (first | refine uU ?_ | refine uV fun z hz => ?_ | refine uW fun zs hzs => ?_ | refine dq (fun hq => ?_) fun hq => ?_)
  (refine fin_ret ?_; cbv)
theorem call47 (hR : Has R G c47) : (Lim R G).call 47 [] [] = some (.st 5 Tm.sub.enc, []) := by
  have h0 := call72 (hR.sub (by kernel_rfl))
  have h2 := call42 (hR.sub (by kernel_rfl)) 1
  have h5 := call42 (hR.sub (by kernel_rfl)) 0
  have h8 := call44s (hR.sub (by kernel_rfl)) 3 [.pred, .var 0] (by decide)
  have h3 := call70 (hR.sub (by kernel_rfl)) (.n0 3 [.pred, .var 0]) (by decide)
  have h4 := call70 (hR.sub (by kernel_rfl)) (.lamN (.n0 3 [.pred, .var 0])) (by decide)
  have h6 := call71 (hR.sub (by kernel_rfl)) (.var 1) (.lamN (.lamN (.n0 3 [.pred, .var 0]))) (.var 0) (by decide) (by decide) (by decide)
  have h7 := call70 (hR.sub (by kernel_rfl)) (.recN (.var 1) (.lamN (.lamN (.n0 3 [.pred, .var 0]))) (.var 0)) (by decide)
  have h9 := call70 (hR.sub (by kernel_rfl)) (.lamN (.recN (.var 1) (.lamN (.lamN (.n0 3 [.pred, .var 0]))) (.var 0))) (by decide)
  rw [show Tm.mk 1 1 (.mk 0 []) [] = Tm.var 1 from rfl] at h2
  rw [show Tm.mk 1 0 (.mk 0 []) [] = Tm.var 0 from rfl] at h5
  simp only [Tm.encs] at h8
  refine call_of (hR.at 47 (by kernel_rfl) tab47) (by rfl) ?_
  unfold Tm.sub
  generalize Tm.pred = pr at *
  generalize Tm.enc = te at *
  repeat' (first | refine uU ?_ | refine uV fun z hz => ?_ | refine uW fun zs hzs => ?_ | refine dq (fun hq => ?_) fun hq => ?_)
  (refine fin_ret ?_; cbv)
theorem call69 (hR : Has R G c69) (n : Nat) (hn : n < 2 ^ 20) : (Lim R G).call 69 [.pl (.int .i64 ((n : Int)))] [] = some (.st 5 (Tm.numl n).enc, []) := by
  have h1 := call44z (hR.sub (by kernel_rfl)) 4
  refine call_of (hR.at 69 (by kernel_rfl) tab69) (by rfl) ?_
  rw [show Tm.n0 4 [] = Tm.numl 0 from rfl] at h1
  generalize hr0 : (Tm.numl 0).enc = r0 at h1
  generalize hro : (Tm.numl n).enc = ro
  generalize hni : (n : Int) = ni
  repeat' (first | refine uU ?_ | refine uV fun z hz => ?_ | refine uW fun zs hzs => ?_ | refine dq (fun hq => ?_) fun hq => ?_)
  refine wploop (σ := Nat × Int × List PV) (fun x => [(0, .pl (.int .i64 (x.2.1)))]) (fun x => [(1032, .box 5 (.st 5 x.2.2))]) (fun x => x.1 ≤ n ∧ x.2.1 = n - x.1 ∧ x.2.2 = (Tm.numl x.1).enc) (fun x => n - x.1) (0, ni, r0) (by cbv) ⟨by omega, by dsimp only; omega, hr0.symm⟩ (by cbv) ?_
  rintro ⟨m, k, row⟩ ⟨h2, h3, h4⟩
  dsimp only at h2 h3 h4
  refine wp_at (by cbv) ?_
  by_cases hj : m < n
  · have h5 : (Tm.numl (m + 1)).enc = [.int .i64 5, .int .i64 0, .int .i64 0, .sl 2 [], .sl 5 [row]] := by
      simp only [Tm.numl, Tm.n0, Tm.enc, Tm.encs, Ty.kind_mk, Ty.args_mk, Ty.encs_nil, h4]
    repeat' (first | refine uU ?_ | refine uV fun z hz => ?_ | refine uW fun zs hzs => ?_ | refine dq (fun hq => ?_) fun hq => ?_)
    exact again_normal (m + 1, z, [.int .i64 5, .int .i64 0, .int .i64 0, .sl 2 [], .sl 5 [row]]) ⟨by dsimp only; omega, by dsimp only; omega, by dsimp only; exact h5.symm⟩ (by dsimp only; omega) (by cbv)
  · obtain rfl : m = n := by omega
    rw [hro] at h4
    subst h4
    repeat' (first | refine uU ?_ | refine uV fun z hz => ?_ | refine uW fun zs hzs => ?_ | refine dq (fun hq => ?_) fun hq => ?_)
    (refine fin_ret ?_; cbv)
theorem call31 (hR : Has R G c31) (n : Nat) (hn : n < 4096) : (Lim R G).call 31 [.pl (.int .i64 ((n : Int)))] [] = some (.tup [.st 5 (Tm.numl n).enc, .pl (.int .i64 (0))], []) := by
  have h1 := call69 (hR.sub (by kernel_rfl)) n (by omega)
  refine call_of (hR.at 31 (by kernel_rfl) tab31) (by rfl) ?_
  generalize hro : (Tm.numl n).enc = ro at *
  generalize hni : (n : Int) = ni at *
  repeat' (first | refine uU ?_ | refine uV fun z hz => ?_ | refine uW fun zs hzs => ?_ | refine dq (fun hq => ?_) fun hq => ?_)
  (refine fin_ret ?_; cbv)
theorem call12 (hR : Has R G c12) (n : Nat) (hn : n < 4096) : (Lim R G).call 12 [.pl (.int .i64 ((n : Int)))] [] = some (.st 5 (Tm.numl n).enc, []) := by
  have h1 := call31 (hR.sub (by kernel_rfl)) n hn
  refine call_of (hR.at 12 (by kernel_rfl) tab12) (by rfl) ?_
  generalize hro : (Tm.numl n).enc = ro at *
  generalize hni : (n : Int) = ni at *
  repeat' (first | refine uU ?_ | refine uV fun z hz => ?_ | refine uW fun zs hzs => ?_ | refine dq (fun hq => ?_) fun hq => ?_)
  (refine fin_ret ?_; cbv)
end
end Eng

