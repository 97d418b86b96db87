/- The references' functions on formulas: copies, translation. -/
import Derived.Test.YtjfkhhfdfebpeaaGreatDoorEngT
import Derived.Test.YtjfkhhfdfebpeaaGreatDoorEngTab
import Derived.Test.YtjfkhhfdfebpeaaGreatDoorEngW14
import Derived.Test.YtjfkhhfdfebpeaaGreatDoorEngW4
import Derived.Test.YtjfkhhfdfebpeaaGreatDoorEngZ
set_option linter.all false
set_option linter.unusedVariables false
set_option linter.unusedSimpArgs false
set_option maxRecDepth 100000
set_option maxHeartbeats 4000000
namespace Eng
open Go
section
variable {R : RProg} {G : Nat → AV}
theorem call62 (hR : Has R G c62) : ∀ (f : Fm) (m : Int), f.size < 2 ^ 31 → (Lim R G).call 62 [.st 5 f.enc, .pl (.int .i64 (m))] [] = some (.pl (.bool (f.least m)), []) := by
  refine Fm.ind fun k t ts as ih m hs => ?_
  simp only [Fm.size] at hs
  refine call_of (hR.at 62 (by kernel_rfl) tab62) (by rfl) ?_
  simp only [Fm.enc, Fm.least]
  have hl := Fm.encs_len as
  have hl2 := Fm.sizes_len as
  generalize hr : Fm.encs as = rs at hl ⊢
  have hl' := Tm.encs_len ts
  have hl2' := Tm.sizes_len ts
  generalize hr' : Tm.encs ts = rs' at hl' ⊢
  generalize Ty.encs t.args = rt at *
  generalize t.kind = tk at *
  generalize hres : (Tm.leasts ts m && Fm.leasts as m) = res
  repeat' (first | refine uU ?_ | refine uV fun z hz => ?_ | refine uW fun zs hzs => ?_ | refine dq (fun hq => ?_) fun hq => ?_)
  refine wploop (σ := Int) (fun x => [(12, .pl (.int .i64 x))]) (fun _ => []) (fun x => 0 ≤ x ∧ x ≤ ts.length ∧ Tm.leasts ts m = Tm.leasts (ts.drop x.toNat) m) (fun x => ts.length - x.toNat) 0 (by cbv) ⟨by omega, by omega, by simp⟩ (by cbv) ?_
  rintro j ⟨hj1, hj2, hj3⟩
  refine wp_at (by cbv) ?_
  by_cases hj : j < ts.length
  · obtain ⟨a, ha, hd, he⟩ := Tm.at_ (as := ts) (n := j) (by omega)
    rw [hr'] at he
    rw [hd] at hj3
    simp only [Tm.leasts] at hj3
    have hc := call81 (hR.sub (by kernel_rfl)) a m (by have := Tm.size_mem ha; omega)
    generalize Tm.enc a = row at hc he
    cases hb : Tm.least a m with
    | false =>
      rw [hb] at hc hj3
      simp only [Bool.false_and] at hj3
      repeat' (first | refine uU ?_ | refine uV fun z hz => ?_ | refine uW fun zs hzs => ?_ | refine dq (fun hq => ?_) fun hq => ?_)
      all_goals (refine fin_ret ?_; rw [← hres, hj3, Bool.false_and]; cbv)
    | true =>
      rw [hb] at hc hj3
      simp only [Bool.true_and] at hj3
      repeat' (first | refine uU ?_ | refine uV fun z hz => ?_ | refine uW fun zs hzs => ?_ | refine dq (fun hq => ?_) fun hq => ?_)
      all_goals exact again_normal z ⟨by omega, by omega, by rw [hj3, hz]⟩ (by omega) (by cbv)
  · rw [drop_all hj1 (by omega)] at hj3
    simp only [Tm.leasts] at hj3
    repeat' (first | refine uU ?_ | refine uV fun z hz => ?_ | refine uW fun zs hzs => ?_ | refine dq (fun hq => ?_) fun hq => ?_)
    rw [hj3, Bool.true_and] at hres
    subst hres
    clear hj3
    refine wploop (σ := Int) (fun x => [(24, .pl (.int .i64 x))]) (fun _ => []) (fun x => 0 ≤ x ∧ x ≤ as.length ∧ Fm.leasts as m = Fm.leasts (as.drop x.toNat) m) (fun x => as.length - x.toNat) 0 (by cbv) ⟨by omega, by omega, by simp⟩ (by cbv) ?_
    rintro j ⟨hj1, hj2, hj3⟩
    refine wp_at (by cbv) ?_
    by_cases hj : j < as.length
    · obtain ⟨a, ha, hd, he⟩ := Fm.at_ (as := as) (n := j) (by omega)
      rw [hr] at he
      rw [hd] at hj3
      simp only [Fm.leasts] at hj3
      have hc := ih a ha m (by have := Fm.size_mem ha; omega)
      generalize Fm.enc a = row at hc he
      cases hb : Fm.least a m with
      | false =>
        rw [hb] at hc hj3
        simp only [Bool.false_and] at hj3
        repeat' (first | refine uU ?_ | refine uV fun z hz => ?_ | refine uW fun zs hzs => ?_ | refine dq (fun hq => ?_) fun hq => ?_)
        all_goals (refine fin_ret ?_; rw [hj3]; cbv)
      | true =>
        rw [hb] at hc hj3
        simp only [Bool.true_and] at hj3
        repeat' (first | refine uU ?_ | refine uV fun z hz => ?_ | refine uW fun zs hzs => ?_ | refine dq (fun hq => ?_) fun hq => ?_)
        all_goals exact again_normal z ⟨by omega, by omega, by rw [hj3, hz]⟩ (by omega) (by cbv)
    · rw [drop_all hj1 (by omega)] at hj3
      simp only [Fm.leasts] at hj3
      repeat' (first | refine uU ?_ | refine uV fun z hz => ?_ | refine uW fun zs hzs => ?_ | refine dq (fun hq => ?_) fun hq => ?_)
      (refine fin_ret ?_; rw [hj3]; cbv)
end
end Eng

