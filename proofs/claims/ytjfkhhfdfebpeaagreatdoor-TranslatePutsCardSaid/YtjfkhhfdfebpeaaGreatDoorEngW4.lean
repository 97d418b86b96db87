/- Functions on terms: form, moving of variables. -/
import Derived.Test.YtjfkhhfdfebpeaaGreatDoorEngT
import Derived.Test.YtjfkhhfdfebpeaaGreatDoorEngTab
import Derived.Test.YtjfkhhfdfebpeaaGreatDoorEngW2
import Derived.Test.YtjfkhhfdfebpeaaGreatDoorEngW3
import Derived.Test.YtjfkhhfdfebpeaaGreatDoorEngZ
set_option linter.all false
set_option linter.unusedVariables false
set_option linter.unusedSimpArgs false
set_option maxRecDepth 100000
set_option maxHeartbeats 4000000
namespace Eng
open Go
section
variable {R : RProg} {G : Nat → AV}
theorem call90 (hR : Has R G c90) : ∀ (t : Tm), t.size < 2 ^ 40 → (Lim R G).call 90 [.st 5 t.enc] [] = some (.pl (.bool t.ok), []) := by
  refine Tm.ind fun k i t as ih hs => ?_
  refine call_of (hR.at 90 (by kernel_rfl) tab90) (by rfl) ?_
  simp only [Tm.size] at hs
  have hcE := call92 (hR.sub (by kernel_rfl)) t (by omega)
  have hcZ := call89 (hR.sub (by kernel_rfl)) t
  have hcK := call101 (hR.sub (by kernel_rfl)) k
  simp only [Tm.enc, Tm.ok, Tm.tyOk]
  generalize Ty.err t = er at hcE ⊢
  generalize Ty.zero t = ze at hcZ ⊢
  obtain ⟨tk, ta⟩ := t
  simp only [Ty.enc, Ty.kind, Ty.args] at hcE hcZ ⊢
  have hl := Tm.encs_len as
  have hl2 := Tm.sizes_len as
  generalize hr : Tm.encs as = rs at hl ⊢
  generalize Ty.encs ta = rt at hcE hcZ ⊢
  generalize Tm.want k = w at hcK ⊢
  by_cases hk : k = 2 ∨ k = 6 ∨ k = 9
  · rw [decide_eq_true hk, cond_true]
    repeat' (first | refine uU ?_ | refine uV fun z hz => ?_ | refine uW fun zs hzs => ?_ | refine dq (fun hq => ?_) fun hq => ?_)
    all_goals first
      | (refine fin_ret ?_; rw [decide_eq_false (show ¬ ((as.length : Int) = w ∧ 0 ≤ i ∧ (k = 1 ∨ i = 0)) by omega), Bool.false_and]; cbv)
      | rw [decide_eq_true (show (as.length : Int) = w ∧ 0 ≤ i ∧ (k = 1 ∨ i = 0) by omega), Bool.true_and]
    all_goals first
      | (refine fin_ret ?_; rw [decide_eq_false (show ¬ er = 0 by omega), Bool.false_and]; cbv)
      | rw [decide_eq_true (show er = 0 by omega), Bool.true_and]
    all_goals (
      refine wploop (σ := Int) (fun x => [(44, .pl (.int .i64 x))]) (fun _ => []) (fun x => 0 ≤ x ∧ x ≤ as.length ∧ Tm.oks as = Tm.oks (as.drop x.toNat)) (fun x => as.length - x.toNat) 0 (by cbv) ⟨by omega, by omega, by simp⟩ (by cbv) ?_
      rintro j ⟨hj1, hj2, hj3⟩
      refine wp_at (by cbv) ?_
      by_cases hj : j < as.length
      · obtain ⟨a, ha, hd, he⟩ := Tm.at_ (as := as) (n := j) (by omega)
        rw [hr] at he
        rw [hd] at hj3
        simp only [Tm.oks] at hj3
        have hc := ih a ha (by have := Tm.size_mem ha; omega)
        generalize Tm.enc a = row at hc he
        cases hb : Tm.ok a with
        | false =>
          rw [hb] at hc hj3
          simp only [Bool.false_and] at hj3
          repeat' (first | refine uU ?_ | refine uV fun z hz => ?_ | refine uW fun zs hzs => ?_ | refine dq (fun hq => ?_) fun hq => ?_)
          all_goals (refine fin_ret ?_; rw [hj3]; cbv)
        | true =>
          rw [hb] at hc hj3
          simp only [Bool.true_and] at hj3
          repeat' (first | refine uU ?_ | refine uV fun z hz => ?_ | refine uW fun zs hzs => ?_ | refine dq (fun hq => ?_) fun hq => ?_)
          all_goals exact again_normal z ⟨by omega, by omega, by rw [hj3, hz]⟩ (by omega) (by cbv)
      · rw [drop_all hj1 (by omega)] at hj3
        simp only [Tm.oks] at hj3
        repeat' (first | refine uU ?_ | refine uV fun z hz => ?_ | refine uW fun zs hzs => ?_ | refine dq (fun hq => ?_) fun hq => ?_)
        (refine fin_ret ?_; rw [hj3]; cbv)
      )
  · rw [decide_eq_false hk, cond_false]
    cases ze with
    | false =>
      rw [Bool.false_and, Bool.and_false]
      repeat' (first | refine uU ?_ | refine uV fun z hz => ?_ | refine uW fun zs hzs => ?_ | refine dq (fun hq => ?_) fun hq => ?_)
      all_goals (refine fin_ret ?_; cbv)
    | true =>
      rw [Bool.true_and]
      repeat' (first | refine uU ?_ | refine uV fun z hz => ?_ | refine uW fun zs hzs => ?_ | refine dq (fun hq => ?_) fun hq => ?_)
      all_goals first
        | (refine fin_ret ?_; rw [decide_eq_false (show ¬ ((as.length : Int) = w ∧ 0 ≤ i ∧ (k = 1 ∨ i = 0)) by omega), Bool.false_and]; cbv)
        | rw [decide_eq_true (show (as.length : Int) = w ∧ 0 ≤ i ∧ (k = 1 ∨ i = 0) by omega), Bool.true_and]
      all_goals (
        refine wploop (σ := Int) (fun x => [(44, .pl (.int .i64 x))]) (fun _ => []) (fun x => 0 ≤ x ∧ x ≤ as.length ∧ Tm.oks as = Tm.oks (as.drop x.toNat)) (fun x => as.length - x.toNat) 0 (by cbv) ⟨by omega, by omega, by simp⟩ (by cbv) ?_
        rintro j ⟨hj1, hj2, hj3⟩
        refine wp_at (by cbv) ?_
        by_cases hj : j < as.length
        · obtain ⟨a, ha, hd, he⟩ := Tm.at_ (as := as) (n := j) (by omega)
          rw [hr] at he
          rw [hd] at hj3
          simp only [Tm.oks] at hj3
          have hc := ih a ha (by have := Tm.size_mem ha; omega)
          generalize Tm.enc a = row at hc he
          cases hb : Tm.ok a with
          | false =>
            rw [hb] at hc hj3
            simp only [Bool.false_and] at hj3
            repeat' (first | refine uU ?_ | refine uV fun z hz => ?_ | refine uW fun zs hzs => ?_ | refine dq (fun hq => ?_) fun hq => ?_)
            all_goals (refine fin_ret ?_; rw [hj3]; cbv)
          | true =>
            rw [hb] at hc hj3
            simp only [Bool.true_and] at hj3
            repeat' (first | refine uU ?_ | refine uV fun z hz => ?_ | refine uW fun zs hzs => ?_ | refine dq (fun hq => ?_) fun hq => ?_)
            all_goals exact again_normal z ⟨by omega, by omega, by rw [hj3, hz]⟩ (by omega) (by cbv)
        · rw [drop_all hj1 (by omega)] at hj3
          simp only [Tm.oks] at hj3
          repeat' (first | refine uU ?_ | refine uV fun z hz => ?_ | refine uW fun zs hzs => ?_ | refine dq (fun hq => ?_) fun hq => ?_)
          (refine fin_ret ?_; rw [hj3]; cbv)
        )
theorem call104 (hR : Has R G c104) (t : Tm) : (Lim R G).call 104 [.st 5 t.enc] [] = some (.pl (.int .i64 (Tm.bnd t.kind)), []) := by
  refine call_of (hR.at 104 (by kernel_rfl) tab104) (by rfl) ?_
  obtain ⟨k, i, t, as⟩ := t
  rw [show (Tm.mk k i t as).kind = k from rfl]
  unfold Tm.bnd
  simp only [Tm.enc]
  generalize Ty.encs t.args = rt
  generalize t.kind = tk
  generalize Tm.encs as = rs
  repeat' (first | refine uU ?_ | refine uV fun z hz => ?_ | refine uW fun zs hzs => ?_ | refine dq (fun hq => ?_) fun hq => ?_)
  · (refine fin_ret ?_; rw [if_pos (by omega)]; cbv)
  · (refine fin_ret ?_; rw [if_neg (by omega)]; cbv)
theorem call81 (hR : Has R G c81) : ∀ (t : Tm) (m : Int), t.size < 2 ^ 40 → (Lim R G).call 81 [.st 5 t.enc, .pl (.int .i64 m)] [] = some (.pl (.bool (t.least m)), []) := by
  refine Tm.ind fun k i t as ih m hs => ?_
  refine call_of (hR.at 81 (by kernel_rfl) tab81) (by rfl) ?_
  simp only [Tm.size] at hs
  simp only [Tm.enc, Tm.least]
  have hl := Tm.encs_len as
  have hl2 := Tm.sizes_len as
  generalize hr : Tm.encs as = rs at hl ⊢
  generalize Ty.encs t.args = rt
  generalize t.kind = tk
  repeat' (first | refine uU ?_ | refine uV fun z hz => ?_ | refine uW fun zs hzs => ?_ | refine dq (fun hq => ?_) fun hq => ?_)
  · (refine fin_ret ?_; rw [decide_eq_false (by omega)]; cbv)
  · rw [decide_eq_true (by omega), Bool.true_and]
    refine wploop (σ := Int) (fun x => [(14, .pl (.int .i64 x))]) (fun _ => []) (fun x => 0 ≤ x ∧ x ≤ as.length ∧ Tm.leasts as m = Tm.leasts (as.drop x.toNat) m) (fun x => as.length - x.toNat) 0 (by cbv) ⟨by omega, by omega, by simp⟩ (by cbv) ?_
    rintro j ⟨hj1, hj2, hj3⟩
    refine wp_at (by cbv) ?_
    by_cases hj : j < as.length
    · obtain ⟨a, ha, hd, he⟩ := Tm.at_ (as := as) (n := j) (by omega)
      rw [hr] at he
      rw [hd] at hj3
      simp only [Tm.leasts] at hj3
      have hc := ih a ha m (by have := Tm.size_mem ha; omega)
      generalize Tm.enc a = row at hc he
      cases hb : Tm.least a m with
      | false =>
        rw [hb] at hc hj3
        simp only [Bool.false_and] at hj3
        repeat' (first | refine uU ?_ | refine uV fun z hz => ?_ | refine uW fun zs hzs => ?_ | refine dq (fun hq => ?_) fun hq => ?_)
        all_goals (refine fin_ret ?_; rw [hj3]; cbv)
      | true =>
        rw [hb] at hc hj3
        simp only [Bool.true_and] at hj3
        repeat' (first | refine uU ?_ | refine uV fun z hz => ?_ | refine uW fun zs hzs => ?_ | refine dq (fun hq => ?_) fun hq => ?_)
        all_goals exact again_normal z ⟨by omega, by omega, by rw [hj3, hz]⟩ (by omega) (by cbv)
    · rw [drop_all hj1 (by omega)] at hj3
      simp only [Tm.leasts] at hj3
      repeat' (first | refine uU ?_ | refine uV fun z hz => ?_ | refine uW fun zs hzs => ?_ | refine dq (fun hq => ?_) fun hq => ?_)
      (refine fin_ret ?_; rw [hj3]; cbv)
theorem call93 (hR : Has R G c93) : ∀ (t : Tm) (fr d : Int), t.low (2 ^ 40) → t.size < 2 ^ 31 → (-2 ^ 40 < d ∧ d < 2 ^ 40) → (-2 ^ 40 < fr ∧ fr + t.size < 2 ^ 40) → (Lim R G).call 93 [.st 5 t.enc, .pl (.int .i64 fr), .pl (.int .i64 d)] [] = some (.st 5 (t.up fr d).enc, []) := by
  refine Tm.ind fun k i t as ih fr d hlow hs hdd hf => ?_
  have hcB := call104 (hR.sub (by kernel_rfl)) (Tm.mk k i t as)
  rw [show (Tm.mk k i t as).kind = k from rfl] at hcB
  have hb : 0 ≤ Tm.bnd k ∧ Tm.bnd k ≤ 1 := by unfold Tm.bnd; split <;> omega
  refine call_of (hR.at 93 (by kernel_rfl) tab93) (by rfl) ?_
  simp only [Tm.size, Tm.low] at hs hlow hf
  simp only [Tm.enc, Tm.up] at hcB ⊢
  generalize hi2 : (if k = 1 ∧ fr ≤ i then i + d else i) = i2
  generalize Tm.bnd k = bd at hcB hb ⊢
  have hl := Tm.encs_len as
  have hl2 := Tm.sizes_len as
  generalize hr : Tm.encs as = rs at hl hcB ⊢
  generalize Ty.encs t.args = rt at hcB ⊢
  generalize t.kind = tk at hcB ⊢
  generalize ho : Tm.encs (Tm.ups as (fr + bd) d) = ro
  repeat' (first | refine uU ?_ | refine uV fun z hz => ?_ | refine uW fun zs hzs => ?_ | refine dq (fun hq => ?_) fun hq => ?_)
  all_goals first
    | (rename_i z1 hz1
       rw [if_pos (by omega), ← hz1] at hi2
       subst hi2)
    | (rw [if_neg (by omega)] at hi2
       subst hi2)
  all_goals (
    refine wploop (σ := Int × List (List PV)) (fun x => [(34, .pl (.int .i64 x.1))]) (fun x => [(1033, .buf 5 x.2 0)]) (fun x => 0 ≤ x.1 ∧ x.1 ≤ as.length ∧ x.2.length = x.1 ∧ x.2 ++ (fun l => Tm.encs (Tm.ups l (fr + bd) d)) (as.drop x.1.toNat) = (fun l => Tm.encs (Tm.ups l (fr + bd) d)) as) (fun x => as.length - x.1.toNat) (0, []) (by cbv) ⟨by omega, by omega, rfl, by simp⟩ (by cbv) ?_
    rintro ⟨j, n⟩ ⟨hj1, hj2, hj3, hj4⟩
    dsimp only at hj1 hj2 hj3 hj4
    refine wp_at (by cbv) ?_
    by_cases hj : j < as.length
    · obtain ⟨a, ha, hd, he⟩ := Tm.at_ (as := as) (n := j) (by omega)
      rw [hr] at he
      rw [hd] at hj4
      simp only [Tm.ups, Tm.encs] at hj4
      have hc := ih a ha (fr + bd) d (Tm.lows_mem hlow.2.2 ha) (by have := Tm.size_mem ha; omega) hdd (by have := Tm.size_mem ha; omega)
      generalize Tm.enc a = row at hc he
      generalize Tm.enc (Tm.up a (fr + bd) d) = row' at hc hj4
      repeat' (first | refine uU ?_ | refine uV fun z hz => ?_ | refine uW fun zs hzs => ?_ | refine dq (fun hq => ?_) fun hq => ?_)
      rw [← hz] at hc
      repeat' (first | refine uU ?_ | refine uV fun z hz => ?_ | refine uW fun zs hzs => ?_ | refine dq (fun hq => ?_) fun hq => ?_)
      exact again_normal (z, zs) ⟨by dsimp only; omega, by dsimp only; omega, by dsimp only; rw [hzs]; simp; omega, by dsimp only; rw [hzs, hz, List.append_assoc]; exact hj4⟩ (by dsimp only; omega) (by cbv)
    · rw [drop_all hj1 (by omega)] at hj4
      simp only [Tm.ups, Tm.encs, List.append_nil] at hj4
      repeat' (first | refine uU ?_ | refine uV fun z hz => ?_ | refine uW fun zs hzs => ?_ | refine dq (fun hq => ?_) fun hq => ?_)
      rw [ho] at hj4
      (refine fin_ret ?_; rw [← hj4]; cbv)
    )
end
end Eng

