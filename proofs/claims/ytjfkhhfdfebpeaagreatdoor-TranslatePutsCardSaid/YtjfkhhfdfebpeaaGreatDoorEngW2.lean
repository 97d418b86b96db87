/- Functions on types. -/
import Derived.Test.YtjfkhhfdfebpeaaGreatDoorEngT
import Derived.Test.YtjfkhhfdfebpeaaGreatDoorEngTab
import Derived.Test.YtjfkhhfdfebpeaaGreatDoorEngZ
set_option linter.all false
set_option linter.unusedVariables false
set_option linter.unusedSimpArgs false
set_option maxRecDepth 100000
set_option maxHeartbeats 4000000
namespace Eng
open Go
section
variable {R : RProg} {G : Nat → AV}
theorem call40 (hR : Has R G c40) : ∀ (t : Ty), t.size < 2 ^ 31 → (Lim R G).call 40 [.st 2 t.enc] [] = some (.st 2 t.enc, []) := by
  refine Ty.ind fun k as ih hs => ?_
  refine call_of (hR.at 40 (by kernel_rfl) tab40) (by rfl) ?_
  simp only [Ty.size] at hs
  simp only [Ty.enc]
  have hl := Ty.encs_len as
  have hl2 := Ty.sizes_len as
  generalize hr : Ty.encs as = rs at hl ⊢
  repeat' (first | refine uU ?_ | refine uV fun z hz => ?_ | refine uW fun zs hzs => ?_ | refine dq (fun hq => ?_) fun hq => ?_)
  refine wploop (σ := Int × List (List PV)) (fun x => [(9, .pl (.int .i64 x.1))]) (fun x => [(1032, .buf 2 x.2 0)]) (fun x => 0 ≤ x.1 ∧ x.1 ≤ as.length ∧ x.2.length = x.1 ∧ x.2 ++ Ty.encs (as.drop x.1.toNat) = Ty.encs as) (fun x => as.length - x.1.toNat) (0, []) (by cbv) ⟨by omega, by omega, rfl, by simp⟩ (by cbv) ?_
  rintro ⟨j, n⟩ ⟨hj1, hj2, hj3, hj4⟩
  dsimp only at hj1 hj2 hj3 hj4
  refine wp_at (by cbv) ?_
  by_cases hj : j < as.length
  · obtain ⟨a, ha, hd, he⟩ := Ty.at_ (as := as) (n := j) (by omega)
    rw [hr] at he
    rw [hd] at hj4
    simp only [Ty.encs] at hj4
    have hc := ih a ha (by have := Ty.size_mem ha; omega)
    generalize Ty.enc a = row at hc he hj4
    repeat' (first | refine uU ?_ | refine uV fun z hz => ?_ | refine uW fun zs hzs => ?_ | refine dq (fun hq => ?_) fun hq => ?_)
    exact again_normal (z, zs) ⟨by dsimp only; omega, by dsimp only; omega, by dsimp only; rw [hzs]; simp; omega, by dsimp only; rw [hzs, hz, List.append_assoc]; exact hj4⟩ (by dsimp only; omega) (by cbv)
  · rw [drop_all hj1 (by omega)] at hj4
    simp only [Ty.encs, List.append_nil] at hj4
    repeat' (first | refine uU ?_ | refine uV fun z hz => ?_ | refine uW fun zs hzs => ?_ | refine dq (fun hq => ?_) fun hq => ?_)
    rw [hr] at hj4
    (refine fin_ret ?_; rw [← hj4]; cbv)
theorem call77 (hR : Has R G c77) : ∀ (t : Ty), t.size < 2 ^ 31 → (Lim R G).call 77 [.st 2 t.enc] [] = some (.st 2 t.enc, []) := by
  refine Ty.ind fun k as ih hs => ?_
  refine call_of (hR.at 77 (by kernel_rfl) tab77) (by rfl) ?_
  simp only [Ty.size] at hs
  simp only [Ty.enc]
  have hl := Ty.encs_len as
  have hl2 := Ty.sizes_len as
  generalize hr : Ty.encs as = rs at hl ⊢
  repeat' (first | refine uU ?_ | refine uV fun z hz => ?_ | refine uW fun zs hzs => ?_ | refine dq (fun hq => ?_) fun hq => ?_)
  refine wploop (σ := Int × List (List PV)) (fun x => [(12, .pl (.int .i64 x.1))]) (fun x => [(1033, .buf 2 x.2 0)]) (fun x => 0 ≤ x.1 ∧ x.1 ≤ as.length ∧ x.2.length = x.1 ∧ x.2 ++ Ty.encs (as.drop x.1.toNat) = Ty.encs as) (fun x => as.length - x.1.toNat) (0, []) (by cbv) ⟨by omega, by omega, rfl, by simp⟩ (by cbv) ?_
  rintro ⟨j, n⟩ ⟨hj1, hj2, hj3, hj4⟩
  dsimp only at hj1 hj2 hj3 hj4
  refine wp_at (by cbv) ?_
  by_cases hj : j < as.length
  · obtain ⟨a, ha, hd, he⟩ := Ty.at_ (as := as) (n := j) (by omega)
    rw [hr] at he
    rw [hd] at hj4
    simp only [Ty.encs] at hj4
    have hc := ih a ha (by have := Ty.size_mem ha; omega)
    generalize Ty.enc a = row at hc he hj4
    repeat' (first | refine uU ?_ | refine uV fun z hz => ?_ | refine uW fun zs hzs => ?_ | refine dq (fun hq => ?_) fun hq => ?_)
    exact again_normal (z, zs) ⟨by dsimp only; omega, by dsimp only; omega, by dsimp only; rw [hzs]; simp; omega, by dsimp only; rw [hzs, hz, List.append_assoc]; exact hj4⟩ (by dsimp only; omega) (by cbv)
  · rw [drop_all hj1 (by omega)] at hj4
    simp only [Ty.encs, List.append_nil] at hj4
    repeat' (first | refine uU ?_ | refine uV fun z hz => ?_ | refine uW fun zs hzs => ?_ | refine dq (fun hq => ?_) fun hq => ?_)
    rw [hr] at hj4
    (refine fin_ret ?_; rw [← hj4]; cbv)
theorem call29 (hR : Has R G c29) : ∀ (t u : Ty), t.size < 2 ^ 40 → u.size < 2 ^ 40 → (Lim R G).call 29 [.st 2 t.enc, .st 2 u.enc] [] = some (.pl (.bool (t.same u)), []) := by
  refine Ty.ind fun k as ih u hs hu => ?_
  obtain ⟨k', bs⟩ := u
  refine call_of (hR.at 29 (by kernel_rfl) tab29) (by rfl) ?_
  simp only [Ty.size] at hs hu
  simp only [Ty.enc, Ty.same]
  have hl := Ty.encs_len as
  have hl2 := Ty.sizes_len as
  generalize hr : Ty.encs as = rs at hl ⊢
  have hl' := Ty.encs_len bs
  have hl2' := Ty.sizes_len bs
  generalize hr' : Ty.encs bs = rs' at hl' ⊢
  repeat' (first | refine uU ?_ | refine uV fun z hz => ?_ | refine uW fun zs hzs => ?_ | refine dq (fun hq => ?_) fun hq => ?_)
  · (refine fin_ret ?_; rw [decide_eq_false (by omega)]; cbv)
  · (refine fin_ret ?_; rw [Ty.sames_len (by omega), Bool.and_false]; cbv)
  · rw [decide_eq_true (by omega), Bool.true_and]
    refine wploop (σ := Int) (fun x => [(23, .pl (.int .i64 x))]) (fun _ => []) (fun x => 0 ≤ x ∧ x ≤ as.length ∧ Ty.sames as bs = Ty.sames (as.drop x.toNat) (bs.drop x.toNat)) (fun x => as.length - x.toNat) 0 (by cbv) ⟨by omega, by omega, by simp⟩ (by cbv) ?_
    rintro j ⟨hj1, hj2, hj3⟩
    refine wp_at (by cbv) ?_
    by_cases hj : j < as.length
    · obtain ⟨a, ha, hd, he⟩ := Ty.at_ (as := as) (n := j) (by omega)
      rw [hr] at he
      obtain ⟨b, hb, hd', he'⟩ := Ty.at_ (as := bs) (n := j) (by omega)
      rw [hr'] at he'
      rw [hd, hd'] at hj3
      simp only [Ty.sames] at hj3
      have hc := ih a ha b (by have := Ty.size_mem ha; omega) (by have := Ty.size_mem hb; omega)
      generalize Ty.enc a = row at hc he
      generalize Ty.enc b = row' at hc he'
      cases hs : Ty.same a b with
      | false =>
        rw [hs] at hc hj3
        simp only [Bool.false_and] at hj3
        repeat' (first | refine uU ?_ | refine uV fun z hz => ?_ | refine uW fun zs hzs => ?_ | refine dq (fun hq => ?_) fun hq => ?_)
        all_goals (refine fin_ret ?_; rw [hj3]; cbv)
      | true =>
        rw [hs] at hc hj3
        simp only [Bool.true_and] at hj3
        repeat' (first | refine uU ?_ | refine uV fun z hz => ?_ | refine uW fun zs hzs => ?_ | refine dq (fun hq => ?_) fun hq => ?_)
        all_goals exact again_normal z ⟨by omega, by omega, by rw [hj3, hz]⟩ (by omega) (by cbv)
    · rw [drop_all hj1 (by omega), drop_all hj1 (by omega)] at hj3
      simp only [Ty.sames] at hj3
      repeat' (first | refine uU ?_ | refine uV fun z hz => ?_ | refine uW fun zs hzs => ?_ | refine dq (fun hq => ?_) fun hq => ?_)
      (refine fin_ret ?_; rw [hj3]; cbv)
theorem call103 (hR : Has R G c103) : ∀ (t : Ty), t.size < 2 ^ 40 → (Lim R G).call 103 [.st 2 t.enc] [] = some (.pl (.int .i64 t.size), []) := by
  refine Ty.ind fun k as ih hs => ?_
  refine call_of (hR.at 103 (by kernel_rfl) tab103) (by rfl) ?_
  simp only [Ty.size] at hs ⊢
  simp only [Ty.enc]
  have hl := Ty.encs_len as
  have hl2 := Ty.sizes_len as
  generalize hr : Ty.encs as = rs at hl ⊢
  repeat' (first | refine uU ?_ | refine uV fun z hz => ?_ | refine uW fun zs hzs => ?_ | refine dq (fun hq => ?_) fun hq => ?_)
  refine wploop (σ := Int × Int) (fun x => [(9, .pl (.int .i64 x.1)), (3, .pl (.int .i64 x.2))]) (fun _ => []) (fun x => 0 ≤ x.1 ∧ x.1 ≤ as.length ∧ 0 ≤ x.2 ∧ x.2 + Ty.sizes (as.drop x.1.toNat) = Ty.sizes as + 1) (fun x => as.length - x.1.toNat) (0, 1) (by cbv) ⟨by omega, by omega, by omega, by simp <;> omega⟩ (by cbv) ?_
  rintro ⟨j, n⟩ ⟨hj1, hj2, hj3, hj4⟩
  dsimp only at hj1 hj2 hj3 hj4
  refine wp_at (by cbv) ?_
  by_cases hj : j < as.length
  · obtain ⟨a, ha, hd, he⟩ := Ty.at_ (as := as) (n := j) (by omega)
    rw [hr] at he
    rw [hd] at hj4
    simp only [Ty.sizes] at hj4
    have hc := ih a ha (by have := Ty.size_mem ha; omega)
    generalize Ty.enc a = row at hc he
    generalize hcs : ((Ty.size a : Nat) : Int) = c at hc
    repeat' (first | refine uU ?_ | refine uV fun z hz => ?_ | refine uW fun zs hzs => ?_ | refine dq (fun hq => ?_) fun hq => ?_)
    rename_i z1 hz1
    exact again_normal (z, z1) ⟨by dsimp only; omega, by dsimp only; omega, by dsimp only; omega, by dsimp only; rw [hz]; omega⟩ (by dsimp only; omega) (by cbv)
  · rw [drop_all hj1 (by omega)] at hj4
    simp only [Ty.sizes] at hj4
    repeat' (first | refine uU ?_ | refine uV fun z hz => ?_ | refine uW fun zs hzs => ?_ | refine dq (fun hq => ?_) fun hq => ?_)
    (refine fin_ret ?_; rw [show ((Ty.sizes as + 1 : Nat) : Int) = n by omega]; cbv)
theorem call102 (hR : Has R G c102) : ∀ (t : Ty), t.size < 2 ^ 40 → (Lim R G).call 102 [.st 2 t.enc] [] = some (.pl (.bool t.ok), []) := by
  refine Ty.ind fun k as ih hs => ?_
  refine call_of (hR.at 102 (by kernel_rfl) tab102) (by rfl) ?_
  simp only [Ty.size] at hs
  simp only [Ty.enc, Ty.ok]
  have hl := Ty.encs_len as
  have hl2 := Ty.sizes_len as
  generalize hr : Ty.encs as = rs at hl ⊢
  repeat' (first | refine uU ?_ | refine uV fun z hz => ?_ | refine uW fun zs hzs => ?_ | refine dq (fun hq => ?_) fun hq => ?_)
  all_goals first
    | (refine fin_ret ?_
       rw [decide_eq_false (by unfold Ty.kindOk; omega), Bool.false_and]
       cbv)
    | skip
  all_goals (
    rw [decide_eq_true (by unfold Ty.kindOk; omega), Bool.true_and]
    refine wploop (σ := Int) (fun x => [(23, .pl (.int .i64 x))]) (fun _ => []) (fun x => 0 ≤ x ∧ x ≤ as.length ∧ Ty.oks as = Ty.oks (as.drop x.toNat)) (fun x => as.length - x.toNat) 0 (by cbv) ⟨by omega, by omega, by simp⟩ (by cbv) ?_
    rintro j ⟨hj1, hj2, hj3⟩
    refine wp_at (by cbv) ?_
    by_cases hj : j < as.length
    · obtain ⟨a, ha, hd, he⟩ := Ty.at_ (as := as) (n := j) (by omega)
      rw [hr] at he
      rw [hd] at hj3
      simp only [Ty.oks] at hj3
      have hc := ih a ha (by have := Ty.size_mem ha; omega)
      generalize Ty.enc a = row at hc he
      cases hb : Ty.ok a with
      | false =>
        rw [hb] at hc hj3
        simp only [Bool.false_and] at hj3
        repeat' (first | refine uU ?_ | refine uV fun z hz => ?_ | refine uW fun zs hzs => ?_ | refine dq (fun hq => ?_) fun hq => ?_)
        all_goals (refine fin_ret ?_; rw [hj3]; cbv)
      | true =>
        rw [hb] at hc hj3
        simp only [Bool.true_and] at hj3
        repeat' (first | refine uU ?_ | refine uV fun z hz => ?_ | refine uW fun zs hzs => ?_ | refine dq (fun hq => ?_) fun hq => ?_)
        all_goals exact again_normal z ⟨by omega, by omega, by rw [hj3, hz]⟩ (by omega) (by cbv)
    · rw [drop_all hj1 (by omega)] at hj3
      simp only [Ty.oks] at hj3
      repeat' (first | refine uU ?_ | refine uV fun z hz => ?_ | refine uW fun zs hzs => ?_ | refine dq (fun hq => ?_) fun hq => ?_)
      (refine fin_ret ?_; rw [hj3]; cbv)
    )
theorem call92 (hR : Has R G c92) (t : Ty) (hs : t.size < 2 ^ 40) : (Lim R G).call 92 [.st 2 t.enc] [] = some (.pl (.int .i64 t.err), []) := by
  have hc := call102 (hR.sub (by kernel_rfl)) t hs
  have hd := call103 (hR.sub (by kernel_rfl)) t hs
  refine call_of (hR.at 92 (by kernel_rfl) tab92) (by rfl) ?_
  unfold Ty.err
  generalize Ty.enc t = row at hc hd ⊢
  generalize Ty.size t = n at hs hd ⊢
  generalize hn : (n : Int) = m at hd
  cases hb : Ty.ok t with
  | false =>
    rw [hb] at hc
    repeat' (first | refine uU ?_ | refine uV fun z hz => ?_ | refine uW fun zs hzs => ?_ | refine dq (fun hq => ?_) fun hq => ?_)
    (refine fin_ret ?_; cbv)
  | true =>
    rw [hb] at hc
    repeat' (first | refine uU ?_ | refine uV fun z hz => ?_ | refine uW fun zs hzs => ?_ | refine dq (fun hq => ?_) fun hq => ?_)
    · (refine fin_ret ?_; rw [if_pos rfl, if_pos (by omega)]; cbv)
    · (refine fin_ret ?_; rw [if_pos rfl, if_neg (by omega)]; cbv)
theorem call89 (hR : Has R G c89) (t : Ty) : (Lim R G).call 89 [.st 2 t.enc] [] = some (.pl (.bool t.zero), []) := by
  refine call_of (hR.at 89 (by kernel_rfl) tab89) (by rfl) ?_
  obtain ⟨k, as⟩ := t
  simp only [Ty.enc, Ty.zero]
  have hl := Ty.encs_len as
  generalize hr : Ty.encs as = rs at hl ⊢
  repeat' (first | refine uU ?_ | refine uV fun z hz => ?_ | refine uW fun zs hzs => ?_ | refine dq (fun hq => ?_) fun hq => ?_)
  · (refine fin_ret ?_; rw [decide_eq_true (by omega)]; cbv)
  · (refine fin_ret ?_; rw [decide_eq_false (by omega)]; cbv)
  · (refine fin_ret ?_; rw [decide_eq_false (by omega)]; cbv)
theorem call98 (hR : Has R G c98) (t : Ty) : (Lim R G).call 98 [.st 2 t.enc] [] = some (.pl (.bool t.zero), []) := by
  refine call_of (hR.at 98 (by kernel_rfl) tab98) (by rfl) ?_
  obtain ⟨k, as⟩ := t
  simp only [Ty.enc, Ty.zero]
  have hl := Ty.encs_len as
  generalize hr : Ty.encs as = rs at hl ⊢
  repeat' (first | refine uU ?_ | refine uV fun z hz => ?_ | refine uW fun zs hzs => ?_ | refine dq (fun hq => ?_) fun hq => ?_)
  · (refine fin_ret ?_; rw [decide_eq_true (by omega)]; cbv)
  · (refine fin_ret ?_; rw [decide_eq_false (by omega)]; cbv)
  · (refine fin_ret ?_; rw [decide_eq_false (by omega)]; cbv)
theorem call20 (hR : Has R G c20) : (Lim R G).call 20 [] [] = some (.st 2 (Ty.enc (.mk 1 [])), []) := by
  refine call_of (hR.at 20 (by kernel_rfl) tab20) (by rfl) ?_
  repeat' (first | refine uU ?_ | refine uV fun z hz => ?_ | refine uW fun zs hzs => ?_ | refine dq (fun hq => ?_) fun hq => ?_)
  (refine fin_ret ?_; cbv)
theorem call36 (hR : Has R G c36) : (Lim R G).call 36 [] [] = some (.st 2 (Ty.enc (.mk 2 [])), []) := by
  refine call_of (hR.at 36 (by kernel_rfl) tab36) (by rfl) ?_
  repeat' (first | refine uU ?_ | refine uV fun z hz => ?_ | refine uW fun zs hzs => ?_ | refine dq (fun hq => ?_) fun hq => ?_)
  (refine fin_ret ?_; cbv)
theorem call37 (hR : Has R G c37) : (Lim R G).call 37 [] [] = some (.st 2 (Ty.enc (.mk 5 [])), []) := by
  refine call_of (hR.at 37 (by kernel_rfl) tab37) (by rfl) ?_
  repeat' (first | refine uU ?_ | refine uV fun z hz => ?_ | refine uW fun zs hzs => ?_ | refine dq (fun hq => ?_) fun hq => ?_)
  (refine fin_ret ?_; cbv)
theorem call38 (hR : Has R G c38) (t u : Ty) (ht : t.size < 2 ^ 31) (hu : u.size < 2 ^ 31) : (Lim R G).call 38 [.st 2 t.enc, .st 2 u.enc] [] = some (.st 2 (Ty.enc (.mk 3 [t, u])), []) := by
  refine call_of (hR.at 38 (by kernel_rfl) tab38) (by rfl) ?_
  have hc := call40 (hR.sub (by kernel_rfl)) t ht
  have hd := call40 (hR.sub (by kernel_rfl)) u hu
  simp only [Ty.enc, Ty.encs]
  generalize Ty.enc t = a at hc ⊢
  generalize Ty.enc u = b at hd ⊢
  repeat' (first | refine uU ?_ | refine uV fun z hz => ?_ | refine uW fun zs hzs => ?_ | refine dq (fun hq => ?_) fun hq => ?_)
  (refine fin_ret ?_; cbv)
theorem call39 (hR : Has R G c39) (t u : Ty) (ht : t.size < 2 ^ 31) (hu : u.size < 2 ^ 31) : (Lim R G).call 39 [.st 2 t.enc, .st 2 u.enc] [] = some (.st 2 (Ty.enc (.mk 4 [t, u])), []) := by
  refine call_of (hR.at 39 (by kernel_rfl) tab39) (by rfl) ?_
  have hc := call40 (hR.sub (by kernel_rfl)) t ht
  have hd := call40 (hR.sub (by kernel_rfl)) u hu
  simp only [Ty.enc, Ty.encs]
  generalize Ty.enc t = a at hc ⊢
  generalize Ty.enc u = b at hd ⊢
  repeat' (first | refine uU ?_ | refine uV fun z hz => ?_ | refine uW fun zs hzs => ?_ | refine dq (fun hq => ?_) fun hq => ?_)
  (refine fin_ret ?_; cbv)
theorem call109 (hR : Has R G c109) : ∀ (t : Ty), t.size < 2 ^ 40 → (Lim R G).call 109 [.st 2 t.enc] [] = some (.tup [.pl (.int .i64 (bif t.ok then t.size else 0)), .pl (.bool t.ok)], []) := by
  refine Ty.ind fun k as ih hs => ?_
  refine call_of (hR.at 109 (by kernel_rfl) tab109) (by rfl) ?_
  simp only [Ty.size] at hs ⊢
  simp only [Ty.enc, Ty.ok]
  have hl := Ty.encs_len as
  have hl2 := Ty.sizes_len as
  generalize hr : Ty.encs as = rs at hl ⊢
  repeat' (first | refine uU ?_ | refine uV fun z hz => ?_ | refine uW fun zs hzs => ?_ | refine dq (fun hq => ?_) fun hq => ?_)
  all_goals first
    | (refine fin_ret ?_
       rw [decide_eq_false (by unfold Ty.kindOk; omega), Bool.false_and]
       cbv)
    | skip
  all_goals (
    rw [decide_eq_true (by unfold Ty.kindOk; omega), Bool.true_and]
    refine wploop (σ := Int × Int) (fun x => [(27, .pl (.int .i64 x.1)), (5, .pl (.int .i64 x.2))]) (fun _ => []) (fun x => 0 ≤ x.1 ∧ x.1 ≤ as.length ∧ 0 ≤ x.2 ∧ x.2 + Ty.sizes (as.drop x.1.toNat) = Ty.sizes as + 1 ∧ Ty.oks as = Ty.oks (as.drop x.1.toNat)) (fun x => as.length - x.1.toNat) (0, 1) (by cbv) ⟨by omega, by omega, by omega, by simp; omega, by simp⟩ (by cbv) ?_
    rintro ⟨j, n⟩ ⟨hj1, hj2, hj3, hj4, hj5⟩
    dsimp only at hj1 hj2 hj3 hj4 hj5
    refine wp_at (by cbv) ?_
    by_cases hj : j < as.length
    · obtain ⟨a, ha, hd, he⟩ := Ty.at_ (as := as) (n := j) (by omega)
      rw [hr] at he
      rw [hd] at hj4 hj5
      simp only [Ty.sizes] at hj4
      simp only [Ty.oks] at hj5
      have hc := ih a ha (by have := Ty.size_mem ha; omega)
      generalize Ty.enc a = row at hc he
      cases hb : Ty.ok a with
      | false =>
        rw [hb] at hc hj5
        simp only [Bool.false_and] at hj5
        repeat' (first | refine uU ?_ | refine uV fun z hz => ?_ | refine uW fun zs hzs => ?_ | refine dq (fun hq => ?_) fun hq => ?_)
        all_goals (refine fin_ret ?_; rw [hj5]; cbv)
      | true =>
        rw [hb] at hc hj5
        simp only [Bool.true_and, cond_true] at hc hj5
        generalize hcs : ((Ty.size a : Nat) : Int) = c at hc
        repeat' (first | refine uU ?_ | refine uV fun z hz => ?_ | refine uW fun zs hzs => ?_ | refine dq (fun hq => ?_) fun hq => ?_)
        all_goals (
          rename_i z1 hz1
          exact again_normal (z, z1) ⟨by dsimp only; omega, by dsimp only; omega, by dsimp only; omega, by dsimp only; rw [hz]; omega, by dsimp only; rw [hj5, hz]⟩ (by dsimp only; omega) (by cbv))
    · rw [drop_all hj1 (by omega)] at hj4 hj5
      simp only [Ty.sizes] at hj4
      simp only [Ty.oks] at hj5
      repeat' (first | refine uU ?_ | refine uV fun z hz => ?_ | refine uW fun zs hzs => ?_ | refine dq (fun hq => ?_) fun hq => ?_)
      (refine fin_ret ?_; rw [hj5, cond_true, show ((Ty.sizes as + 1 : Nat) : Int) = n by omega]; cbv)
    )
theorem call97 (hR : Has R G c97) (t : Ty) (hs : t.size < 2 ^ 40) : (Lim R G).call 97 [.st 2 t.enc] [] = some (.tup [.pl (.int .i64 (if t.err = 0 then t.size else 0)), .pl (.int .i64 t.err)], []) := by
  have hc := call109 (hR.sub (by kernel_rfl)) t hs
  refine call_of (hR.at 97 (by kernel_rfl) tab97) (by rfl) ?_
  unfold Ty.err
  generalize Ty.enc t = row at hc ⊢
  generalize Ty.size t = n at hs hc ⊢
  generalize hn : (n : Int) = m at hc
  cases hb : Ty.ok t with
  | false =>
    rw [hb] at hc
    repeat' (first | refine uU ?_ | refine uV fun z hz => ?_ | refine uW fun zs hzs => ?_ | refine dq (fun hq => ?_) fun hq => ?_)
    (refine fin_ret ?_; cbv)
  | true =>
    rw [hb, cond_true] at hc
    repeat' (first | refine uU ?_ | refine uV fun z hz => ?_ | refine uW fun zs hzs => ?_ | refine dq (fun hq => ?_) fun hq => ?_)
    · (refine fin_ret ?_; rw [if_pos rfl, if_pos (show n > 64 by omega), if_neg (by omega)]; cbv)
    · (refine fin_ret ?_; rw [if_pos rfl, if_neg (show ¬ n > 64 by omega), if_pos rfl]; cbv)
end
end Eng

