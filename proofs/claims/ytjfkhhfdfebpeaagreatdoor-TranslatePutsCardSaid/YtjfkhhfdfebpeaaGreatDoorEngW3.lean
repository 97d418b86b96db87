/- Functions on terms: the references' forms. -/
import Derived.Test.YtjfkhhfdfebpeaaGreatDoorEngT
import Derived.Test.YtjfkhhfdfebpeaaGreatDoorEngTab
import Derived.Test.YtjfkhhfdfebpeaaGreatDoorEngW2
import Derived.Test.YtjfkhhfdfebpeaaGreatDoorEngZ
set_option linter.all false
set_option linter.unusedVariables false
set_option linter.unusedSimpArgs false
set_option maxRecDepth 100000
set_option maxHeartbeats 4000000
namespace Eng
open Go
section
variable {R : RProg} {G : Nat → AV}
theorem call101 (hR : Has R G c101) (k : Int) : (Lim R G).call 101 [.pl (.int .i64 k)] [] = some (.pl (.int .i64 (Tm.want k)), []) := by
  refine call_of (hR.at 101 (by kernel_rfl) tab101) (by rfl) ?_
  unfold Tm.want
  repeat' (first | refine uU ?_ | refine uV fun z hz => ?_ | refine uW fun zs hzs => ?_ | refine dq (fun hq => ?_) fun hq => ?_)
  all_goals first
    | (refine fin_ret ?_; rw [if_pos (by omega)]; cbv)
    | (refine fin_ret ?_; rw [if_neg (by omega), if_pos (by omega)]; cbv)
    | (refine fin_ret ?_; rw [if_neg (by omega), if_neg (by omega), if_pos (by omega)]; cbv)
    | (refine fin_ret ?_; rw [if_neg (by omega), if_neg (by omega), if_neg (by omega), if_pos (by omega)]; cbv)
    | (refine fin_ret ?_; rw [if_neg (by omega), if_neg (by omega), if_neg (by omega), if_neg (by omega)]; cbv)
theorem call82 (hR : Has R G c82) : ∀ (t : Tm), t.size < 2 ^ 40 → (Lim R G).call 82 [.st 5 t.enc] [] = some (.pl (.int .i64 t.num), []) := by
  refine Tm.ind fun k i t as ih hs => ?_
  refine call_of (hR.at 82 (by kernel_rfl) tab82) (by rfl) ?_
  obtain ⟨tk, ta⟩ := t
  simp only [Tm.size] at hs
  simp only [Tm.enc, Tm.num]
  have hl := Tm.encs_len as
  have hl2 := Tm.sizes_len as
  have hl3 := Tm.nums_le as
  generalize hr : Tm.encs as = rs at hl ⊢
  repeat' (first | refine uU ?_ | refine uV fun z hz => ?_ | refine uW fun zs hzs => ?_ | refine dq (fun hq => ?_) fun hq => ?_)
  refine wploop (σ := Int × Int) (fun x => [(9, .pl (.int .i64 x.1)), (3, .pl (.int .i64 x.2))]) (fun _ => []) (fun x => 0 ≤ x.1 ∧ x.1 ≤ as.length ∧ 0 ≤ x.2 ∧ x.2 + Tm.nums (as.drop x.1.toNat) = Tm.nums as + 1) (fun x => as.length - x.1.toNat) (0, 1) (by cbv) ⟨by omega, by omega, by omega, by simp <;> omega⟩ (by cbv) ?_
  rintro ⟨j, n⟩ ⟨hj1, hj2, hj3, hj4⟩
  dsimp only at hj1 hj2 hj3 hj4
  refine wp_at (by cbv) ?_
  by_cases hj : j < as.length
  · obtain ⟨a, ha, hd, he⟩ := Tm.at_ (as := as) (n := j) (by omega)
    rw [hr] at he
    rw [hd] at hj4
    simp only [Tm.nums] at hj4
    have hc := ih a ha (by have := Tm.size_mem ha; omega)
    generalize Tm.enc a = row at hc he
    generalize hcs : ((Tm.num a : Nat) : Int) = c at hc
    repeat' (first | refine uU ?_ | refine uV fun z hz => ?_ | refine uW fun zs hzs => ?_ | refine dq (fun hq => ?_) fun hq => ?_)
    rename_i z1 hz1
    exact again_normal (z, z1) ⟨by dsimp only; omega, by dsimp only; omega, by dsimp only; omega, by dsimp only; rw [hz]; omega⟩ (by dsimp only; omega) (by cbv)
  · rw [drop_all hj1 (by omega)] at hj4
    simp only [Tm.nums] at hj4
    repeat' (first | refine uU ?_ | refine uV fun z hz => ?_ | refine uW fun zs hzs => ?_ | refine dq (fun hq => ?_) fun hq => ?_)
    (refine fin_ret ?_; rw [show ((Tm.nums as + 1 : Nat) : Int) = n by omega]; cbv)
theorem call68 (hR : Has R G c68) : ∀ (t u : Tm), t.size < 2 ^ 40 → u.size < 2 ^ 40 → (Lim R G).call 68 [.st 5 t.enc, .st 5 u.enc] [] = some (.pl (.bool (t.same u)), []) := by
  refine Tm.ind fun k i t as ih u hs hu => ?_
  obtain ⟨k', i', t', bs⟩ := u
  simp only [Tm.size] at hs hu
  have hcT := call29 (hR.sub (by kernel_rfl)) t t' (by omega) (by omega)
  obtain ⟨tk, ta⟩ := t
  obtain ⟨tk', ta'⟩ := t'
  refine call_of (hR.at 68 (by kernel_rfl) tab68) (by rfl) ?_
  simp only [Tm.enc, Tm.same, Ty.enc, Ty.kind, Ty.args] at hcT ⊢
  have hl := Tm.encs_len as
  have hl2 := Tm.sizes_len as
  generalize hr : Tm.encs as = rs at hl ⊢
  have hl' := Tm.encs_len bs
  have hl2' := Tm.sizes_len bs
  generalize hr' : Tm.encs bs = rs' at hl' ⊢
  generalize Ty.encs ta = rt at hcT ⊢
  generalize Ty.encs ta' = rt' at hcT ⊢
  cases hT : Ty.same ⟨tk, ta⟩ ⟨tk', ta'⟩ with
  | false =>
    rw [hT] at hcT
    rw [Bool.and_false, Bool.false_and]
    repeat' (first | refine uU ?_ | refine uV fun z hz => ?_ | refine uW fun zs hzs => ?_ | refine dq (fun hq => ?_) fun hq => ?_)
    all_goals (refine fin_ret ?_; cbv)
  | true =>
    rw [hT] at hcT
    rw [Bool.and_true]
    repeat' (first | refine uU ?_ | refine uV fun z hz => ?_ | refine uW fun zs hzs => ?_ | refine dq (fun hq => ?_) fun hq => ?_)
    · (refine fin_ret ?_; rw [decide_eq_false (by omega), Bool.false_and]; cbv)
    · (refine fin_ret ?_; rw [decide_eq_false (by omega), Bool.false_and]; cbv)
    · (refine fin_ret ?_; rw [Tm.sames_len (by omega), Bool.and_false]; cbv)
    · rw [decide_eq_true (by omega), Bool.true_and]
      refine wploop (σ := Int) (fun x => [(38, .pl (.int .i64 x))]) (fun _ => []) (fun x => 0 ≤ x ∧ x ≤ as.length ∧ Tm.sames as bs = Tm.sames (as.drop x.toNat) (bs.drop x.toNat)) (fun x => as.length - x.toNat) 0 (by cbv) ⟨by omega, by omega, by simp⟩ (by cbv) ?_
      rintro j ⟨hj1, hj2, hj3⟩
      refine wp_at (by cbv) ?_
      by_cases hj : j < as.length
      · obtain ⟨a, ha, hd, he⟩ := Tm.at_ (as := as) (n := j) (by omega)
        rw [hr] at he
        obtain ⟨b, hb, hd', he'⟩ := Tm.at_ (as := bs) (n := j) (by omega)
        rw [hr'] at he'
        rw [hd, hd'] at hj3
        simp only [Tm.sames] at hj3
        have hc := ih a ha b (by have := Tm.size_mem ha; omega) (by have := Tm.size_mem hb; omega)
        generalize Tm.enc a = row at hc he
        generalize Tm.enc b = row' at hc he'
        cases hs : Tm.same a b with
        | false =>
          rw [hs] at hc hj3
          simp only [Bool.false_and] at hj3
          repeat' (first | refine uU ?_ | refine uV fun z hz => ?_ | refine uW fun zs hzs => ?_ | refine dq (fun hq => ?_) fun hq => ?_)
          all_goals (refine fin_ret ?_; rw [hj3]; cbv)
        | true =>
          rw [hs] at hc hj3
          simp only [Bool.true_and] at hj3
          repeat' (first | refine uU ?_ | refine uV fun z hz => ?_ | refine uW fun zs hzs => ?_ | refine dq (fun hq => ?_) fun hq => ?_)
          all_goals exact again_normal z ⟨by omega, by omega, by rw [hj3, hz]⟩ (by omega) (by cbv)
      · rw [drop_all hj1 (by omega), drop_all hj1 (by omega)] at hj3
        simp only [Tm.sames] at hj3
        repeat' (first | refine uU ?_ | refine uV fun z hz => ?_ | refine uW fun zs hzs => ?_ | refine dq (fun hq => ?_) fun hq => ?_)
        (refine fin_ret ?_; rw [hj3]; cbv)
theorem call30 (hR : Has R G c30) (as bs : List Tm) (hs : Tm.sizes as < 2 ^ 40) (hu : Tm.sizes bs < 2 ^ 40) : (Lim R G).call 30 [.pl (.sl 5 (Tm.encs as)), .pl (.sl 5 (Tm.encs bs))] [] = some (.pl (.bool (Tm.sames as bs)), []) := by
  refine call_of (hR.at 30 (by kernel_rfl) tab30) (by rfl) ?_
  have hl := Tm.encs_len as
  have hl2 := Tm.sizes_len as
  generalize hr : Tm.encs as = rs at hl ⊢
  have hl' := Tm.encs_len bs
  have hl2' := Tm.sizes_len bs
  generalize hr' : Tm.encs bs = rs' at hl' ⊢
  repeat' (first | refine uU ?_ | refine uV fun z hz => ?_ | refine uW fun zs hzs => ?_ | refine dq (fun hq => ?_) fun hq => ?_)
  · (refine fin_ret ?_; rw [Tm.sames_len (by omega)]; cbv)
  · refine wploop (σ := Int) (fun x => [(13, .pl (.int .i64 x))]) (fun _ => []) (fun x => 0 ≤ x ∧ x ≤ as.length ∧ Tm.sames as bs = Tm.sames (as.drop x.toNat) (bs.drop x.toNat)) (fun x => as.length - x.toNat) 0 (by cbv) ⟨by omega, by omega, by simp⟩ (by cbv) ?_
    rintro j ⟨hj1, hj2, hj3⟩
    refine wp_at (by cbv) ?_
    by_cases hj : j < as.length
    · obtain ⟨a, ha, hd, he⟩ := Tm.at_ (as := as) (n := j) (by omega)
      rw [hr] at he
      obtain ⟨b, hb, hd', he'⟩ := Tm.at_ (as := bs) (n := j) (by omega)
      rw [hr'] at he'
      rw [hd, hd'] at hj3
      simp only [Tm.sames] at hj3
      have hc := call68 (hR.sub (by kernel_rfl)) a b (by have := Tm.size_mem ha; omega) (by have := Tm.size_mem hb; omega)
      generalize Tm.enc a = row at hc he
      generalize Tm.enc b = row' at hc he'
      cases hs : Tm.same a b with
      | false =>
        rw [hs] at hc hj3
        simp only [Bool.false_and] at hj3
        repeat' (first | refine uU ?_ | refine uV fun z hz => ?_ | refine uW fun zs hzs => ?_ | refine dq (fun hq => ?_) fun hq => ?_)
        all_goals (refine fin_ret ?_; rw [hj3]; cbv)
      | true =>
        rw [hs] at hc hj3
        simp only [Bool.true_and] at hj3
        repeat' (first | refine uU ?_ | refine uV fun z hz => ?_ | refine uW fun zs hzs => ?_ | refine dq (fun hq => ?_) fun hq => ?_)
        all_goals exact again_normal z ⟨by omega, by omega, by rw [hj3, hz]⟩ (by omega) (by cbv)
    · rw [drop_all hj1 (by omega), drop_all hj1 (by omega)] at hj3
      simp only [Tm.sames] at hj3
      repeat' (first | refine uU ?_ | refine uV fun z hz => ?_ | refine uW fun zs hzs => ?_ | refine dq (fun hq => ?_) fun hq => ?_)
      (refine fin_ret ?_; rw [hj3]; cbv)
theorem call32 (hR : Has R G c32) : ∀ (t : Tm), t.size < 2 ^ 31 → (Lim R G).call 32 [.st 5 t.enc] [] = some (.st 5 t.enc, []) := by
  refine Tm.ind fun k i t as ih hs => ?_
  refine call_of (hR.at 32 (by kernel_rfl) tab32) (by rfl) ?_
  simp only [Tm.size] at hs
  have hcT := call40 (hR.sub (by kernel_rfl)) t (by omega)
  obtain ⟨tk, ta⟩ := t
  simp only [Tm.enc, Ty.enc, Ty.kind, Ty.args] at hcT ⊢
  have hl := Tm.encs_len as
  have hl2 := Tm.sizes_len as
  generalize hr : Tm.encs as = rs at hl ⊢
  generalize Ty.encs ta = rt at hcT ⊢
  repeat' (first | refine uU ?_ | refine uV fun z hz => ?_ | refine uW fun zs hzs => ?_ | refine dq (fun hq => ?_) fun hq => ?_)
  refine wploop (σ := Int × List (List PV)) (fun x => [(9, .pl (.int .i64 x.1))]) (fun x => [(1032, .buf 5 x.2 0)]) (fun x => 0 ≤ x.1 ∧ x.1 ≤ as.length ∧ x.2.length = x.1 ∧ x.2 ++ Tm.encs (as.drop x.1.toNat) = Tm.encs as) (fun x => as.length - x.1.toNat) (0, []) (by cbv) ⟨by omega, by omega, rfl, by simp⟩ (by cbv) ?_
  rintro ⟨j, n⟩ ⟨hj1, hj2, hj3, hj4⟩
  dsimp only at hj1 hj2 hj3 hj4
  refine wp_at (by cbv) ?_
  by_cases hj : j < as.length
  · obtain ⟨a, ha, hd, he⟩ := Tm.at_ (as := as) (n := j) (by omega)
    rw [hr] at he
    rw [hd] at hj4
    simp only [Tm.encs] at hj4
    have hc := ih a ha (by have := Tm.size_mem ha; omega)
    generalize Tm.enc a = row at hc he hj4
    repeat' (first | refine uU ?_ | refine uV fun z hz => ?_ | refine uW fun zs hzs => ?_ | refine dq (fun hq => ?_) fun hq => ?_)
    exact again_normal (z, zs) ⟨by dsimp only; omega, by dsimp only; omega, by dsimp only; rw [hzs]; simp; omega, by dsimp only; rw [hzs, hz, List.append_assoc]; exact hj4⟩ (by dsimp only; omega) (by cbv)
  · rw [drop_all hj1 (by omega)] at hj4
    simp only [Tm.encs, List.append_nil] at hj4
    repeat' (first | refine uU ?_ | refine uV fun z hz => ?_ | refine uW fun zs hzs => ?_ | refine dq (fun hq => ?_) fun hq => ?_)
    simp only [hr] at hj4
    repeat' (first | refine uU ?_ | refine uV fun z hz => ?_ | refine uW fun zs hzs => ?_ | refine dq (fun hq => ?_) fun hq => ?_)
    (refine fin_ret ?_; rw [← hj4]; cbv)
theorem call79 (hR : Has R G c79) : ∀ (t : Tm), t.size < 2 ^ 31 → (Lim R G).call 79 [.st 5 t.enc] [] = some (.st 5 t.enc, []) := by
  refine Tm.ind fun k i t as ih hs => ?_
  refine call_of (hR.at 79 (by kernel_rfl) tab79) (by rfl) ?_
  simp only [Tm.size] at hs
  have hcT := call77 (hR.sub (by kernel_rfl)) t (by omega)
  obtain ⟨tk, ta⟩ := t
  simp only [Tm.enc, Ty.enc, Ty.kind, Ty.args] at hcT ⊢
  have hl := Tm.encs_len as
  have hl2 := Tm.sizes_len as
  generalize hr : Tm.encs as = rs at hl ⊢
  generalize Ty.encs ta = rt at hcT ⊢
  repeat' (first | refine uU ?_ | refine uV fun z hz => ?_ | refine uW fun zs hzs => ?_ | refine dq (fun hq => ?_) fun hq => ?_)
  refine wploop (σ := Int × List (List PV)) (fun x => [(17, .pl (.int .i64 x.1))]) (fun x => [(1049, .buf 5 x.2 0)]) (fun x => 0 ≤ x.1 ∧ x.1 ≤ as.length ∧ x.2.length = x.1 ∧ x.2 ++ Tm.encs (as.drop x.1.toNat) = Tm.encs as) (fun x => as.length - x.1.toNat) (0, []) (by cbv) ⟨by omega, by omega, rfl, by simp⟩ (by cbv) ?_
  rintro ⟨j, n⟩ ⟨hj1, hj2, hj3, hj4⟩
  dsimp only at hj1 hj2 hj3 hj4
  refine wp_at (by cbv) ?_
  by_cases hj : j < as.length
  · obtain ⟨a, ha, hd, he⟩ := Tm.at_ (as := as) (n := j) (by omega)
    rw [hr] at he
    rw [hd] at hj4
    simp only [Tm.encs] at hj4
    have hc := ih a ha (by have := Tm.size_mem ha; omega)
    generalize Tm.enc a = row at hc he hj4
    repeat' (first | refine uU ?_ | refine uV fun z hz => ?_ | refine uW fun zs hzs => ?_ | refine dq (fun hq => ?_) fun hq => ?_)
    exact again_normal (z, zs) ⟨by dsimp only; omega, by dsimp only; omega, by dsimp only; rw [hzs]; simp; omega, by dsimp only; rw [hzs, hz, List.append_assoc]; exact hj4⟩ (by dsimp only; omega) (by cbv)
  · rw [drop_all hj1 (by omega)] at hj4
    simp only [Tm.encs, List.append_nil] at hj4
    repeat' (first | refine uU ?_ | refine uV fun z hz => ?_ | refine uW fun zs hzs => ?_ | refine dq (fun hq => ?_) fun hq => ?_)
    simp only [hr] at hj4
    (refine fin_ret ?_; rw [← hj4]; cbv)
end
end Eng

