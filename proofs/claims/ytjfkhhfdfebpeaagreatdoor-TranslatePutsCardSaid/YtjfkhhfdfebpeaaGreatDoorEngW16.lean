/- The reference's translation of formulas. -/
import Derived.Test.YtjfkhhfdfebpeaaGreatDoorEngT
import Derived.Test.YtjfkhhfdfebpeaaGreatDoorEngTab
import Derived.Test.YtjfkhhfdfebpeaaGreatDoorEngW15
import Derived.Test.YtjfkhhfdfebpeaaGreatDoorEngW2
import Derived.Test.YtjfkhhfdfebpeaaGreatDoorEngW3
import Derived.Test.YtjfkhhfdfebpeaaGreatDoorEngZ
set_option linter.all false
set_option linter.unusedVariables false
set_option linter.unusedSimpArgs false
set_option maxRecDepth 100000
set_option maxHeartbeats 4000000
namespace Eng
open Go
section
variable {R : RProg} {G : Nat → AV}
theorem call28 (hR : Has R G c28) : ∀ (f : Fm), f.size < 2 ^ 31 → (Lim R G).call 28 [.st 5 f.enc] [] = some (.st 5 f.enc, []) := by
  refine Fm.ind fun k t ts as ih hs => ?_
  simp only [Fm.size] at hs
  have hcT := call40 (hR.sub (by kernel_rfl)) t (by omega)
  rw [Ty.enc_eq] at hcT
  refine call_of (hR.at 28 (by kernel_rfl) tab28) (by rfl) ?_
  simp only [Fm.enc]
  have hl := Fm.encs_len as
  have hl2 := Fm.sizes_len as
  generalize hr : Fm.encs as = rs at hl ⊢
  have hl' := Tm.encs_len ts
  have hl2' := Tm.sizes_len ts
  generalize hr' : Tm.encs ts = rs' at hl' ⊢
  generalize Ty.encs t.args = rt at *
  generalize t.kind = tk at *
  repeat' (first | refine uU ?_ | refine uV fun z hz => ?_ | refine uW fun zs hzs => ?_ | refine dq (fun hq => ?_) fun hq => ?_)
  refine wploop (σ := Int × List (List PV)) (fun x => [(17, .pl (.int .i64 x.1))]) (fun x => [(1049, .buf 5 x.2 0)]) (fun x => 0 ≤ x.1 ∧ x.1 ≤ ts.length ∧ x.2.length = x.1 ∧ x.2 ++ Tm.encs (ts.drop x.1.toNat) = Tm.encs ts) (fun x => ts.length - x.1.toNat) (0, []) (by cbv) ⟨by omega, by omega, rfl, by simp⟩ (by cbv) ?_
  rintro ⟨j, n⟩ ⟨hj1, hj2, hj3, hj4⟩
  dsimp only at hj1 hj2 hj3 hj4
  refine wp_at (by cbv) ?_
  by_cases hj : j < ts.length
  · obtain ⟨a, ha, hd, he⟩ := Tm.at_ (as := ts) (n := j) (by omega)
    rw [hr'] at he
    rw [hd] at hj4
    simp only [Tm.encs] at hj4
    have hc := call32 (hR.sub (by kernel_rfl)) a (by have := Tm.size_mem ha; omega)
    generalize Tm.enc a = row at hc he hj4
    repeat' (first | refine uU ?_ | refine uV fun z hz => ?_ | refine uW fun zs hzs => ?_ | refine dq (fun hq => ?_) fun hq => ?_)
    exact again_normal (z, zs) ⟨by dsimp only; omega, by dsimp only; omega, by dsimp only; rw [hzs]; simp; omega, by dsimp only; rw [hzs, hz, List.append_assoc]; exact hj4⟩ (by dsimp only; omega) (by cbv)
  · rw [drop_all hj1 (by omega)] at hj4
    simp only [Tm.encs, List.append_nil] at hj4
    repeat' (first | refine uU ?_ | refine uV fun z hz => ?_ | refine uW fun zs hzs => ?_ | refine dq (fun hq => ?_) fun hq => ?_)
    rw [hr'] at hj4
    subst hj4
    refine wploop (σ := Int × List (List PV)) (fun x => [(32, .pl (.int .i64 x.1))]) (fun x => [(1050, .buf 5 x.2 0)]) (fun x => 0 ≤ x.1 ∧ x.1 ≤ as.length ∧ x.2.length = x.1 ∧ x.2 ++ Fm.encs (as.drop x.1.toNat) = Fm.encs as) (fun x => as.length - x.1.toNat) (0, []) (by cbv) ⟨by omega, by omega, rfl, by simp⟩ (by cbv) ?_
    rintro ⟨j, n⟩ ⟨hj1, hj2, hj3, hj4⟩
    dsimp only at hj1 hj2 hj3 hj4
    refine wp_at (by cbv) ?_
    by_cases hj : j < as.length
    · obtain ⟨a, ha, hd, he⟩ := Fm.at_ (as := as) (n := j) (by omega)
      rw [hr] at he
      rw [hd] at hj4
      simp only [Fm.encs] at hj4
      have hc := ih a ha (by have := Fm.size_mem ha; omega)
      generalize Fm.enc a = row at hc he hj4
      repeat' (first | refine uU ?_ | refine uV fun z hz => ?_ | refine uW fun zs hzs => ?_ | refine dq (fun hq => ?_) fun hq => ?_)
      exact again_normal (z, zs) ⟨by dsimp only; omega, by dsimp only; omega, by dsimp only; rw [hzs]; simp; omega, by dsimp only; rw [hzs, hz, List.append_assoc]; exact hj4⟩ (by dsimp only; omega) (by cbv)
    · rw [drop_all hj1 (by omega)] at hj4
      simp only [Fm.encs, List.append_nil] at hj4
      repeat' (first | refine uU ?_ | refine uV fun z hz => ?_ | refine uW fun zs hzs => ?_ | refine dq (fun hq => ?_) fun hq => ?_)
      rw [hr] at hj4
      (refine fin_ret ?_; rw [← hj4]; cbv)
theorem call14 (hR : Has R G c14) (k : Int) (a b : Fm) (ha : a.size < 2 ^ 31) (hb : b.size < 2 ^ 31) : (Lim R G).call 14 [.pl (.int .i64 (k)), .st 5 a.enc, .st 5 b.enc] [] = some (.st 5 (Fm.two k a b).enc, []) := by
  have h1 := call28 (hR.sub (by kernel_rfl)) a ha
  have h2 := call28 (hR.sub (by kernel_rfl)) b hb
  refine call_of (hR.at 14 (by kernel_rfl) tab14) (by rfl) ?_
  simp only [Fm.two, Fm.enc, Fm.encs, Tm.encs, Ty.kind_mk, Ty.args_mk, Ty.encs_nil]
  generalize a.enc = ra at *
  generalize b.enc = rb at *
  repeat' (first | refine uU ?_ | refine uV fun z hz => ?_ | refine uW fun zs hzs => ?_ | refine dq (fun hq => ?_) fun hq => ?_)
  (refine fin_ret ?_; cbv)
theorem call19 (hR : Has R G c19) (k : Int) (t : Ty) (a : Fm) (ht : t.size < 2 ^ 31) (ha : a.size < 2 ^ 31) : (Lim R G).call 19 [.pl (.int .i64 (k)), .st 2 t.enc, .st 5 a.enc] [] = some (.st 5 (Fm.q k t a).enc, []) := by
  have h1 := call40 (hR.sub (by kernel_rfl)) t ht
  have h2 := call28 (hR.sub (by kernel_rfl)) a ha
  refine call_of (hR.at 19 (by kernel_rfl) tab19) (by rfl) ?_
  simp only [Fm.q, Fm.enc, Fm.encs, Tm.encs]
  rw [Ty.enc_eq] at h1 ⊢
  generalize a.enc = ra at *
  generalize t.kind = tk at *
  generalize Ty.encs t.args = rt at *
  repeat' (first | refine uU ?_ | refine uV fun z hz => ?_ | refine uW fun zs hzs => ?_ | refine dq (fun hq => ?_) fun hq => ?_)
  (refine fin_ret ?_; cbv)
theorem call13 (hR : Has R G c13) (a b : Tm) (ha : a.size < 2 ^ 31) (hb : b.size < 2 ^ 31) : (Lim R G).call 13 [.st 5 a.enc, .st 5 b.enc] [] = some (.st 5 (Fm.eq a b).enc, []) := by
  have h1 := call32 (hR.sub (by kernel_rfl)) a ha
  have h2 := call32 (hR.sub (by kernel_rfl)) b hb
  refine call_of (hR.at 13 (by kernel_rfl) tab13) (by rfl) ?_
  simp only [Fm.eq, Fm.enc, Fm.encs, Tm.encs, Ty.kind_mk, Ty.args_mk, Ty.encs_nil]
  generalize a.enc = ra at *
  generalize b.enc = rb at *
  repeat' (first | refine uU ?_ | refine uV fun z hz => ?_ | refine uW fun zs hzs => ?_ | refine dq (fun hq => ?_) fun hq => ?_)
  (refine fin_ret ?_; cbv)
theorem call11 (hR : Has R G c11) : ∀ (f g : Fm), f.size < 2 ^ 31 → g.size < 2 ^ 31 → (Lim R G).call 11 [.st 5 f.enc, .st 5 g.enc] [] = some (.pl (.bool (f.same g)), []) := by
  refine Fm.ind fun k t ts as ih u hs hu => ?_
  obtain ⟨k', t', ts', bs⟩ := u
  simp only [Fm.size] at hs hu
  have hcT := call29 (hR.sub (by kernel_rfl)) t t' (by omega) (by omega)
  have hcS := call30 (hR.sub (by kernel_rfl)) ts ts' (by omega) (by omega)
  rw [Ty.enc_eq, Ty.enc_eq] at hcT
  refine call_of (hR.at 11 (by kernel_rfl) tab11) (by rfl) ?_
  simp only [Fm.enc, Fm.same]
  have hl := Fm.encs_len as
  have hl2 := Fm.sizes_len as
  generalize hr : Fm.encs as = rs at hl ⊢
  have hl' := Fm.encs_len bs
  have hl2' := Fm.sizes_len bs
  generalize hr' : Fm.encs bs = rs' at hl' ⊢
  generalize Ty.encs t.args = rt at *
  generalize t.kind = tk at *
  generalize Ty.encs t'.args = rt' at *
  generalize t'.kind = tk' at *
  generalize t.same t' = st at *
  generalize Tm.sames ts ts' = ss at *
  generalize Tm.encs ts = rts at *
  generalize Tm.encs ts' = rts' at *
  cases st with
  | false =>
    rw [Bool.and_false, Bool.false_and, Bool.false_and]
    repeat' (first | refine uU ?_ | refine uV fun z hz => ?_ | refine uW fun zs hzs => ?_ | refine dq (fun hq => ?_) fun hq => ?_)
    all_goals (refine fin_ret ?_; cbv)
  | true =>
    rw [Bool.and_true]
    cases ss with
    | false =>
      rw [Bool.and_false, Bool.false_and]
      repeat' (first | refine uU ?_ | refine uV fun z hz => ?_ | refine uW fun zs hzs => ?_ | refine dq (fun hq => ?_) fun hq => ?_)
      all_goals (refine fin_ret ?_; cbv)
    | true =>
      rw [Bool.and_true]
      repeat' (first | refine uU ?_ | refine uV fun z hz => ?_ | refine uW fun zs hzs => ?_ | refine dq (fun hq => ?_) fun hq => ?_)
      · (refine fin_ret ?_; rw [decide_eq_false (by omega), Bool.false_and]; cbv)
      · (refine fin_ret ?_; rw [Fm.sames_len (by omega), Bool.and_false]; cbv)
      · rw [decide_eq_true (by omega), Bool.true_and]
        refine wploop (σ := Int) (fun x => [(39, .pl (.int .i64 x))]) (fun _ => []) (fun x => 0 ≤ x ∧ x ≤ as.length ∧ Fm.sames as bs = Fm.sames (as.drop x.toNat) (bs.drop x.toNat)) (fun x => as.length - x.toNat) 0 (by cbv) ⟨by omega, by omega, by simp⟩ (by cbv) ?_
        rintro j ⟨hj1, hj2, hj3⟩
        refine wp_at (by cbv) ?_
        by_cases hj : j < as.length
        · obtain ⟨a, ha, hd, he⟩ := Fm.at_ (as := as) (n := j) (by omega)
          rw [hr] at he
          obtain ⟨b, hb, hd', he'⟩ := Fm.at_ (as := bs) (n := j) (by omega)
          rw [hr'] at he'
          rw [hd, hd'] at hj3
          simp only [Fm.sames] at hj3
          have hc := ih a ha b (by have := Fm.size_mem ha; omega) (by have := Fm.size_mem hb; omega)
          generalize Fm.enc a = row at hc he
          generalize Fm.enc b = row' at hc he'
          cases hs : Fm.same a b with
          | false =>
            rw [hs] at hc hj3
            simp only [Bool.false_and] at hj3
            repeat' (first | refine uU ?_ | refine uV fun z hz => ?_ | refine uW fun zs hzs => ?_ | refine dq (fun hq => ?_) fun hq => ?_)
            all_goals (refine fin_ret ?_; rw [hj3]; cbv)
          | true =>
            rw [hs] at hc hj3
            simp only [Bool.true_and] at hj3
            repeat' (first | refine uU ?_ | refine uV fun z hz => ?_ | refine uW fun zs hzs => ?_ | refine dq (fun hq => ?_) fun hq => ?_)
            all_goals exact again_normal z ⟨by omega, by omega, by rw [hj3, hz]⟩ (by omega) (by cbv)
        · rw [drop_all hj1 (by omega), drop_all hj1 (by omega)] at hj3
          simp only [Fm.sames] at hj3
          repeat' (first | refine uU ?_ | refine uV fun z hz => ?_ | refine uW fun zs hzs => ?_ | refine dq (fun hq => ?_) fun hq => ?_)
          (refine fin_ret ?_; rw [hj3]; cbv)
end
end Eng

