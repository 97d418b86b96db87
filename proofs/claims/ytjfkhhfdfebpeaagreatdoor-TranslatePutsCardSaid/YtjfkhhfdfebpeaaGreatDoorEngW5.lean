/- Functions on terms: the program's forms. -/
import Derived.Test.YtjfkhhfdfebpeaaGreatDoorEngT
import Derived.Test.YtjfkhhfdfebpeaaGreatDoorEngTab
import Derived.Test.YtjfkhhfdfebpeaaGreatDoorEngW2
import Derived.Test.YtjfkhhfdfebpeaaGreatDoorEngW3
import Derived.Test.YtjfkhhfdfebpeaaGreatDoorEngZ
set_option linter.all false
set_option linter.unusedVariables false
set_option linter.unusedSimpArgs false
set_option maxRecDepth 100000
set_option maxHeartbeats 4000000
namespace Eng
open Go
section
variable {R : RProg} {G : Nat → AV}
def arL : List PV := [.int .i64 0, .int .i64 0, .int .i64 1, .int .i64 2, .int .i64 0, .int .i64 1, .int .i64 3, .int .i64 0, .int .i64 2, .int .i64 3, .int .i64 2, .int .i64 1, .int .i64 1, .int .i64 0]
theorem call99 (hR : Has R G c99) (k : Int) : (Lim R G).call 99 [.pl (.int .i64 k)] [] = some (.tup [.pl (.int .i64 (if 0 ≤ Tm.want k then Tm.want k else 0)), .pl (.bool (decide (0 ≤ Tm.want k)))], []) := by
  have hout : k < 1 ∨ 14 ≤ k → Tm.want k = -1 := fun h => by unfold Tm.want; rw [if_neg (by omega), if_neg (by omega), if_neg (by omega), if_neg (by omega)]
  have hin : 1 ≤ k → k < 14 → ∃ m, m = Tm.want k ∧ 0 ≤ m ∧ arL.drop (k.toNat * 1) = (.int .i64 m) :: arL.drop (k.toNat * 1 + 1) := by
    intro h1 h2
    have : k = 1 ∨ k = 2 ∨ k = 3 ∨ k = 4 ∨ k = 5 ∨ k = 6 ∨ k = 7 ∨ k = 8 ∨ k = 9 ∨ k = 10 ∨ k = 11 ∨ k = 12 ∨ k = 13 := by omega
    rcases this with rfl | rfl | rfl | rfl | rfl | rfl | rfl | rfl | rfl | rfl | rfl | rfl | rfl <;> exact ⟨_, rfl, by decide, rfl⟩
  refine call_of (hR.at 99 (by kernel_rfl) tab99) (by rfl) ?_
  generalize Tm.want k = w at hout hin ⊢
  repeat' (first | refine uU ?_ | refine uV fun z hz => ?_ | refine uW fun zs hzs => ?_ | refine dq (fun hq => ?_) fun hq => ?_)
  · (refine fin_ret ?_; rw [hout (by omega)]; cbv)
  · (refine fin_ret ?_; rw [hout (by omega)]; cbv)
  · obtain ⟨m, rfl, hm, hd⟩ := hin (by omega) (by omega)
    refine dps_iarr (show opd G _ (.g 369) = .rp 14 arL from by rw [hR.g]; rfl) (by cbv) (by omega) (by rfl) hd (fun m' hm' => ?_)
    generalize arL.drop (k.toNat * 1 + 1) = rest at hd ⊢
    obtain ⟨m2, hm2⟩ : ∃ m2, m' = m2 + 1 := ⟨m' - 1, by omega⟩
    subst hm2
    refine dps_gen (by rfl) (s1 := _) (f := _) (by simp only [stepRO, RO.gd, RO.op, RO.d, wantedR, stepOp, opd, lkE, Nat.beq, cond_true, cond_false]; rfl) ?_
    repeat' (first | refine uU ?_ | refine uV fun z hz => ?_ | refine uW fun zs hzs => ?_ | refine dq (fun hq => ?_) fun hq => ?_)
    (refine fin_ret ?_; rw [if_pos hm, decide_eq_true hm]; cbv)
theorem call100 (hR : Has R G c100) (k : Int) : (Lim R G).call 100 [.pl (.int .i64 k)] [] = some (.pl (.bool (decide (k = 2 ∨ k = 6 ∨ k = 9))), []) := by
  refine call_of (hR.at 100 (by kernel_rfl) tab100) (by rfl) ?_
  repeat' (first | refine uU ?_ | refine uV fun z hz => ?_ | refine uW fun zs hzs => ?_ | refine dq (fun hq => ?_) fun hq => ?_)
  all_goals first
    | (refine fin_ret ?_; rw [decide_eq_true (by omega)]; cbv)
    | (refine fin_ret ?_; rw [decide_eq_false (by omega)]; cbv)
theorem call88 (hR : Has R G c88) : ∀ (t : Tm), t.size < 2 ^ 40 → (Lim R G).call 88 [.st 5 t.enc] [] = some (.tup [.pl (.int .i64 (bif t.ok then t.num else 0)), .pl (.bool t.ok)], []) := by
  refine Tm.ind fun k i t as ih hs => ?_
  refine call_of (hR.at 88 (by kernel_rfl) tab88) (by rfl) ?_
  simp only [Tm.size] at hs
  have hcE := call97 (hR.sub (by kernel_rfl)) t (by omega)
  have hcZ := call98 (hR.sub (by kernel_rfl)) t
  have hcK := call99 (hR.sub (by kernel_rfl)) k
  have hcT := call100 (hR.sub (by kernel_rfl)) k
  simp only [Tm.enc, Tm.ok, Tm.tyOk, Tm.num]
  generalize (if t.err = 0 then (t.size : Int) else 0) = n0 at hcE
  generalize Ty.err t = er at hcE ⊢
  generalize Ty.zero t = ze at hcZ ⊢
  obtain ⟨tk, ta⟩ := t
  simp only [Ty.enc, Ty.kind, Ty.args] at hcE hcZ ⊢
  have hl := Tm.encs_len as
  have hl2 := Tm.sizes_len as
  have hl3 := Tm.nums_le as
  generalize hr : Tm.encs as = rs at hl ⊢
  generalize Ty.encs ta = rt at hcE hcZ ⊢
  generalize Tm.want k = w at hcK ⊢
  by_cases hw : 0 ≤ w
  · rw [if_pos hw, decide_eq_true hw] at hcK
    by_cases hk : k = 2 ∨ k = 6 ∨ k = 9
    · rw [decide_eq_true hk] at hcT ⊢
      rw [cond_true]
      repeat' (first | refine uU ?_ | refine uV fun z hz => ?_ | refine uW fun zs hzs => ?_ | refine dq (fun hq => ?_) fun hq => ?_)
      all_goals first
        | (refine fin_ret ?_; rw [decide_eq_false (show ¬ ((as.length : Int) = w ∧ 0 ≤ i ∧ (k = 1 ∨ i = 0)) by omega), Bool.false_and]; cbv)
        | rw [decide_eq_true (show (as.length : Int) = w ∧ 0 ≤ i ∧ (k = 1 ∨ i = 0) by omega), Bool.true_and]
      all_goals first
        | (refine fin_ret ?_; rw [decide_eq_false (show ¬ er = 0 by omega), Bool.false_and]; cbv)
        | rw [decide_eq_true (show er = 0 by omega), Bool.true_and]
      all_goals (
        refine wploop (σ := Int × Int) (fun x => [(61, .pl (.int .i64 x.1)), (8, .pl (.int .i64 x.2))]) (fun _ => []) (fun x => 0 ≤ x.1 ∧ x.1 ≤ as.length ∧ 0 ≤ x.2 ∧ x.2 + Tm.nums (as.drop x.1.toNat) = Tm.nums as + 1 ∧ Tm.oks as = Tm.oks (as.drop x.1.toNat)) (fun x => as.length - x.1.toNat) (0, 1) (by cbv) ⟨by omega, by omega, by omega, by simp; omega, by simp⟩ (by cbv) ?_
        rintro ⟨j, n⟩ ⟨hj1, hj2, hj3, hj4, hj5⟩
        dsimp only at hj1 hj2 hj3 hj4 hj5
        refine wp_at (by cbv) ?_
        by_cases hj : j < as.length
        · obtain ⟨a, ha, hd, he⟩ := Tm.at_ (as := as) (n := j) (by omega)
          rw [hr] at he
          rw [hd] at hj4 hj5
          simp only [Tm.nums] at hj4
          simp only [Tm.oks] at hj5
          have hc := ih a ha (by have := Tm.size_mem ha; omega)
          generalize Tm.enc a = row at hc he
          cases hb : Tm.ok a with
          | false =>
            rw [hb] at hc hj5
            simp only [Bool.false_and] at hj5
            repeat' (first | refine uU ?_ | refine uV fun z hz => ?_ | refine uW fun zs hzs => ?_ | refine dq (fun hq => ?_) fun hq => ?_)
            all_goals (refine fin_ret ?_; rw [hj5]; cbv)
          | true =>
            rw [hb] at hc hj5
            simp only [Bool.true_and, cond_true] at hc hj5
            generalize hcs : ((Tm.num a : Nat) : Int) = c at hc
            repeat' (first | refine uU ?_ | refine uV fun z hz => ?_ | refine uW fun zs hzs => ?_ | refine dq (fun hq => ?_) fun hq => ?_)
            all_goals (
              rename_i z1 hz1
              exact again_normal (z, z1) ⟨by dsimp only; omega, by dsimp only; omega, by dsimp only; omega, by dsimp only; rw [hz]; omega, by dsimp only; rw [hj5, hz]⟩ (by dsimp only; omega) (by cbv))
        · rw [drop_all hj1 (by omega)] at hj4 hj5
          simp only [Tm.nums] at hj4
          simp only [Tm.oks] at hj5
          repeat' (first | refine uU ?_ | refine uV fun z hz => ?_ | refine uW fun zs hzs => ?_ | refine dq (fun hq => ?_) fun hq => ?_)
          (refine fin_ret ?_; rw [hj5, cond_true, show ((Tm.nums as + 1 : Nat) : Int) = n by omega]; cbv)
        )
    · rw [decide_eq_false hk] at hcT ⊢
      rw [cond_false]
      cases ze with
      | false =>
        rw [Bool.false_and, Bool.and_false]
        repeat' (first | refine uU ?_ | refine uV fun z hz => ?_ | refine uW fun zs hzs => ?_ | refine dq (fun hq => ?_) fun hq => ?_)
        all_goals (refine fin_ret ?_; cbv)
      | true =>
        rw [Bool.true_and]
        repeat' (first | refine uU ?_ | refine uV fun z hz => ?_ | refine uW fun zs hzs => ?_ | refine dq (fun hq => ?_) fun hq => ?_)
        all_goals first
          | (refine fin_ret ?_; rw [decide_eq_false (show ¬ ((as.length : Int) = w ∧ 0 ≤ i ∧ (k = 1 ∨ i = 0)) by omega), Bool.false_and]; cbv)
          | rw [decide_eq_true (show (as.length : Int) = w ∧ 0 ≤ i ∧ (k = 1 ∨ i = 0) by omega), Bool.true_and]
        all_goals (
          refine wploop (σ := Int × Int) (fun x => [(61, .pl (.int .i64 x.1)), (8, .pl (.int .i64 x.2))]) (fun _ => []) (fun x => 0 ≤ x.1 ∧ x.1 ≤ as.length ∧ 0 ≤ x.2 ∧ x.2 + Tm.nums (as.drop x.1.toNat) = Tm.nums as + 1 ∧ Tm.oks as = Tm.oks (as.drop x.1.toNat)) (fun x => as.length - x.1.toNat) (0, 1) (by cbv) ⟨by omega, by omega, by omega, by simp; omega, by simp⟩ (by cbv) ?_
          rintro ⟨j, n⟩ ⟨hj1, hj2, hj3, hj4, hj5⟩
          dsimp only at hj1 hj2 hj3 hj4 hj5
          refine wp_at (by cbv) ?_
          by_cases hj : j < as.length
          · obtain ⟨a, ha, hd, he⟩ := Tm.at_ (as := as) (n := j) (by omega)
            rw [hr] at he
            rw [hd] at hj4 hj5
            simp only [Tm.nums] at hj4
            simp only [Tm.oks] at hj5
            have hc := ih a ha (by have := Tm.size_mem ha; omega)
            generalize Tm.enc a = row at hc he
            cases hb : Tm.ok a with
            | false =>
              rw [hb] at hc hj5
              simp only [Bool.false_and] at hj5
              repeat' (first | refine uU ?_ | refine uV fun z hz => ?_ | refine uW fun zs hzs => ?_ | refine dq (fun hq => ?_) fun hq => ?_)
              all_goals (refine fin_ret ?_; rw [hj5]; cbv)
            | true =>
              rw [hb] at hc hj5
              simp only [Bool.true_and, cond_true] at hc hj5
              generalize hcs : ((Tm.num a : Nat) : Int) = c at hc
              repeat' (first | refine uU ?_ | refine uV fun z hz => ?_ | refine uW fun zs hzs => ?_ | refine dq (fun hq => ?_) fun hq => ?_)
              all_goals (
                rename_i z1 hz1
                exact again_normal (z, z1) ⟨by dsimp only; omega, by dsimp only; omega, by dsimp only; omega, by dsimp only; rw [hz]; omega, by dsimp only; rw [hj5, hz]⟩ (by dsimp only; omega) (by cbv))
          · rw [drop_all hj1 (by omega)] at hj4 hj5
            simp only [Tm.nums] at hj4
            simp only [Tm.oks] at hj5
            repeat' (first | refine uU ?_ | refine uV fun z hz => ?_ | refine uW fun zs hzs => ?_ | refine dq (fun hq => ?_) fun hq => ?_)
            (refine fin_ret ?_; rw [hj5, cond_true, show ((Tm.nums as + 1 : Nat) : Int) = n by omega]; cbv)
          )
  · rw [if_neg hw, decide_eq_false hw] at hcK
    rw [decide_eq_false (show ¬ ((as.length : Int) = w ∧ 0 ≤ i ∧ (k = 1 ∨ i = 0)) by omega), Bool.false_and]
    repeat' (first | refine uU ?_ | refine uV fun z hz => ?_ | refine uW fun zs hzs => ?_ | refine dq (fun hq => ?_) fun hq => ?_)
    (refine fin_ret ?_; cbv)
theorem call42 (hR : Has R G c42) (i : Int) : (Lim R G).call 42 [.pl (.int .i64 i)] [] = some (.st 5 (Tm.enc ⟨1, i, ⟨0, []⟩, []⟩), []) := by
  refine call_of (hR.at 42 (by kernel_rfl) tab42) (by rfl) ?_
  repeat' (first | refine uU ?_ | refine uV fun z hz => ?_ | refine uW fun zs hzs => ?_ | refine dq (fun hq => ?_) fun hq => ?_)
  (refine fin_ret ?_; cbv)
theorem call111 (hR : Has R G c111) (i : Int) : (Lim R G).call 111 [.pl (.int .i64 i)] [] = some (.st 5 (Tm.enc ⟨1, i, ⟨0, []⟩, []⟩), []) := by
  refine call_of (hR.at 111 (by kernel_rfl) tab111) (by rfl) ?_
  repeat' (first | refine uU ?_ | refine uV fun z hz => ?_ | refine uW fun zs hzs => ?_ | refine dq (fun hq => ?_) fun hq => ?_)
  (refine fin_ret ?_; cbv)
theorem call44 (hR : Has R G c44) (k : Int) (as : List Tm) (hs : Tm.sizes as < 2 ^ 31) : (Lim R G).call 44 [.pl (.int .i64 k), .pl (.sl 5 (Tm.encs as))] [] = some (.st 5 (Tm.enc ⟨k, 0, ⟨0, []⟩, as⟩), []) := by
  refine call_of (hR.at 44 (by kernel_rfl) tab44) (by rfl) ?_
  simp only [Tm.enc, Ty.kind, Ty.args, Ty.encs]
  have hl := Tm.encs_len as
  have hl2 := Tm.sizes_len as
  generalize hr : Tm.encs as = rs at hl ⊢
  repeat' (first | refine uU ?_ | refine uV fun z hz => ?_ | refine uW fun zs hzs => ?_ | refine dq (fun hq => ?_) fun hq => ?_)
  refine wploop (σ := Int × List (List PV)) (fun x => [(10, .pl (.int .i64 x.1))]) (fun x => [(1016, .buf 5 x.2 0)]) (fun x => 0 ≤ x.1 ∧ x.1 ≤ as.length ∧ x.2.length = x.1 ∧ x.2 ++ Tm.encs (as.drop x.1.toNat) = Tm.encs as) (fun x => as.length - x.1.toNat) (0, []) (by cbv) ⟨by omega, by omega, rfl, by simp⟩ (by cbv) ?_
  rintro ⟨j, n⟩ ⟨hj1, hj2, hj3, hj4⟩
  dsimp only at hj1 hj2 hj3 hj4
  refine wp_at (by cbv) ?_
  by_cases hj : j < as.length
  · obtain ⟨a, ha, hd, he⟩ := Tm.at_ (as := as) (n := j) (by omega)
    rw [hr] at he
    rw [hd] at hj4
    simp only [Tm.encs] at hj4
    have hc := call32 (hR.sub (by kernel_rfl)) a (by have := Tm.size_mem ha; omega)
    generalize Tm.enc a = row at hc he hj4
    repeat' (first | refine uU ?_ | refine uV fun z hz => ?_ | refine uW fun zs hzs => ?_ | refine dq (fun hq => ?_) fun hq => ?_)
    exact again_normal (z, zs) ⟨by dsimp only; omega, by dsimp only; omega, by dsimp only; rw [hzs]; simp; omega, by dsimp only; rw [hzs, hz, List.append_assoc]; exact hj4⟩ (by dsimp only; omega) (by cbv)
  · rw [drop_all hj1 (by omega)] at hj4
    simp only [Tm.encs, List.append_nil] at hj4
    repeat' (first | refine uU ?_ | refine uV fun z hz => ?_ | refine uW fun zs hzs => ?_ | refine dq (fun hq => ?_) fun hq => ?_)
    rw [hr] at hj4
    (refine fin_ret ?_; rw [← hj4]; cbv)
theorem call43 (hR : Has R G c43) (k : Int) (t : Ty) (as : List Tm) (ht : t.size < 2 ^ 31) (hs : Tm.sizes as < 2 ^ 31) : (Lim R G).call 43 [.pl (.int .i64 k), .st 2 t.enc, .pl (.sl 5 (Tm.encs as))] [] = some (.st 5 (Tm.enc ⟨k, 0, t, as⟩), []) := by
  have hc := call44 (hR.sub (by kernel_rfl)) k as hs
  have hd := call40 (hR.sub (by kernel_rfl)) t ht
  refine call_of (hR.at 43 (by kernel_rfl) tab43) (by rfl) ?_
  obtain ⟨tk, ta⟩ := t
  simp only [Tm.enc, Ty.enc, Ty.kind, Ty.args, Ty.encs] at hc hd ⊢
  generalize Tm.encs as = rs at hc ⊢
  generalize Ty.encs ta = rt at hd ⊢
  repeat' (first | refine uU ?_ | refine uV fun z hz => ?_ | refine uW fun zs hzs => ?_ | refine dq (fun hq => ?_) fun hq => ?_)
  (refine fin_ret ?_; cbv)
end
end Eng

