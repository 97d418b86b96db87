/- What is typed is told so: formulas. -/
import Derived.Test.YtjfkhhfdfebpeaaGreatDoorEngT
import Derived.Test.YtjfkhhfdfebpeaaGreatDoorEngTab
import Derived.Test.YtjfkhhfdfebpeaaGreatDoorEngW14
import Derived.Test.YtjfkhhfdfebpeaaGreatDoorEngW29
import Derived.Test.YtjfkhhfdfebpeaaGreatDoorEngW30
import Derived.Test.YtjfkhhfdfebpeaaGreatDoorEngZ
set_option linter.all false
set_option linter.unusedVariables false
set_option linter.unusedSimpArgs false
set_option maxRecDepth 100000
set_option maxHeartbeats 4000000
namespace Eng
open Go
section
variable {R : RProg} {G : Nat → AV}
def Tm.chkI (t : Tm) (r : List Ty) : Except Int Ty := if t.err ≠ 0 then .error t.err else t.inf r
theorem call128 (hR : Has R G c128) (t : Tm) (r : List Ty) (hr : ∀ s ∈ r, s.err = 0) (hs : r.length + t.size < 2 ^ 20) : (Lim R G).call 128 [.pl (.sl 2 (Ty.encs r.reverse)), .st 5 t.enc] [] = some (ansT (t.chkI r), []) := by
  have h1 := call117 (hR.sub (by kernel_rfl)) t (by omega)
  have h2 : t.err = 0 → _ := fun h => call129 (hR.sub (by kernel_rfl)) t r (Tm.err_ok h).1 hr hs
  unfold Tm.chkI
  refine call_of (hR.at 128 (by kernel_rfl) tab128) (by rfl) ?_
  by_cases h : t.err = 0
  · rw [if_neg (by omega)]
    have h3 := h2 h
    rw [h] at h1
    clear h2
    generalize Ty.encs r.reverse = rg at *
    generalize t.enc = rt at *
    cases hv : t.inf r with
    | error e =>
      rw [hv] at h3
      simp only [ansT] at h3 ⊢
      repeat' (first | refine uU ?_ | refine uV fun z hz => ?_ | refine uW fun zs hzs => ?_ | refine dq (fun hq => ?_) fun hq => ?_)
      (refine fin_ret ?_; cbv)
    | ok v =>
      rw [hv] at h3
      simp only [ansT] at h3 ⊢
      generalize v.enc = rv at *
      repeat' (first | refine uU ?_ | refine uV fun z hz => ?_ | refine uW fun zs hzs => ?_ | refine dq (fun hq => ?_) fun hq => ?_)
      (refine fin_ret ?_; cbv)
  · rw [if_pos h]
    clear h2
    simp only [ansT]
    generalize Ty.encs r.reverse = rg at *
    generalize t.enc = rt at *
    generalize t.err = e at *
    repeat' (first | refine uU ?_ | refine uV fun z hz => ?_ | refine uW fun zs hzs => ?_ | refine dq (fun hq => ?_) fun hq => ?_)
    (refine fin_ret ?_; cbv)
theorem call127 (hR : Has R G c127) : ∀ (f : Fm) (r : List Ty), f.ok = true → f.num ≤ 4096 → (∀ s ∈ r, s.err = 0) → r.length + f.size < 2 ^ 20 → (Lim R G).call 127 [.pl (.sl 2 (Ty.encs r.reverse)), .st 5 f.enc] [] = some (.pl (.int .i64 (f.tyE r)), []) := by
  refine Fm.ind fun k t ts as ih r ho hn hr hsz => ?_
  obtain ⟨_, hty, hts, hos⟩ := Fm.ok_mk ho
  have hcq := call91 (hR.sub (by kernel_rfl)) k
  simp only [Fm.size] at hsz
  simp only [Fm.num] at hn
  have h128 : ∀ a ∈ ts, (Lim R G).call 128 [.pl (.sl 2 (Ty.encs r.reverse)), .st 5 a.enc] [] = some (ansT (a.inf r), []) := fun a ha => by
    have h := call128 (hR.sub (by kernel_rfl)) a r hr (by have := Tm.size_mem ha; omega)
    have h0 : a.err = 0 := by
      unfold Tm.err
      rw [if_pos (Tm.oks_mem hts ha), if_neg (by have := Tm.num_mem ha; omega)]
    unfold Tm.chkI at h
    rwa [if_neg (by omega)] at h
  obtain ⟨q, hq⟩ : ∃ q, q = (Fm.mk k t ts as).tyE r := ⟨_, rfl⟩
  rw [← hq]
  simp only [Fm.tyE] at hq
  have hih : ∀ a ∈ as, (Lim R G).call 127 [.pl (.sl 2 (Ty.encs (if Fm.quant k then t :: r else r).reverse)), .st 5 a.enc] [] = some (.pl (.int .i64 (a.tyE (if Fm.quant k then t :: r else r))), []) := fun a ha => by
    refine ih a ha _ (Fm.oks_mem hos ha) (by have := Fm.num_mem ha; omega) ?_ ?_
    · intro s hs
      by_cases hqk : Fm.quant k
      · rw [if_pos hqk] at hs
        rcases List.mem_cons.1 hs with rfl | hs
        · exact Fm.tyOk_err hty hqk
        · exact hr s hs
      · rw [if_neg hqk] at hs
        exact hr s hs
    · have := Fm.size_mem ha
      split
      · simp only [List.length_cons]; omega
      · omega
  have hg' : Ty.encs (if Fm.quant k then t :: r else r).reverse = if Fm.quant k then Ty.encs r.reverse ++ [[.int .i64 t.kind, .sl 2 (Ty.encs t.args)]] else Ty.encs r.reverse := by
    split
    · rw [List.reverse_cons, Ty.encs_app, ← Ty.enc_eq]; rfl
    · rfl
  generalize (if Fm.quant k then t :: r else r) = r' at *
  generalize Ty.encs r'.reverse = rg' at *
  have hl1 := Tm.encs_len ts
  have hl2 := Fm.encs_len as
  have hb1 := Tm.sizes_len ts
  have hb2 := Fm.sizes_len as
  have hlr : (Ty.encs r.reverse).length = r.length := by rw [Ty.encs_len, List.length_reverse]
  refine call_of (hR.at 127 (by kernel_rfl) tab127) (by rfl) ?_
  simp only [Fm.enc]
  generalize htse : Tm.encs ts = rts at *
  generalize hase : Fm.encs as = ras at *
  generalize Ty.encs r.reverse = rg at *
  generalize Ty.encs t.args = rt at *
  generalize t.kind = tk at *
  repeat' (first | refine uU ?_ | refine uV fun z hz => ?_ | refine uW fun zs hzs => ?_ | refine dq (fun hq => ?_) fun hq => ?_)
  refine wploop (σ := Int) (fun x => [(15, .pl (.int .i64 (x)))]) (fun _ => []) (fun x => 0 ≤ x ∧ x ≤ ts.length ∧ Tm.natE ts r = Tm.natE (ts.drop x.toNat) r) (fun x => ts.length - x.toNat) 0 (by cbv) ⟨by omega, by omega, by simp⟩ (by cbv) ?_
  rintro j ⟨hj1, hj2, hj3⟩
  refine wp_at (by cbv) ?_
  by_cases hj : j < ts.length
  · obtain ⟨a, ha, hd, he⟩ := Tm.at_ (as := ts) (n := j) (by omega)
    rw [htse] at he
    rw [hd] at hj3
    simp only [Tm.natE] at hj3
    have hc := h128 a ha
    have hne := Tm.inf_ne a r
    generalize Tm.enc a = row at hc he
    cases hv : a.inf r with
    | error e =>
      rw [hv] at hc hj3
      dsimp only at hj3
      simp only [ansT] at hc
      have he' := hne e hv
      rw [hj3, if_pos (by omega)] at hq
      subst hq
      repeat' (first | refine uU ?_ | refine uV fun z hz => ?_ | refine uW fun zs hzs => ?_ | refine dq (fun hq => ?_) fun hq => ?_)
      (refine fin_ret ?_; cbv)
    | ok v =>
      rw [hv] at hc hj3
      dsimp only at hj3
      simp only [ansT] at hc
      obtain ⟨vk, vas⟩ := v
      simp only [Ty.enc] at hc
      generalize Ty.encs vas = rv at hc
      by_cases hvk : vk = 1
      · rw [if_neg (show ¬ (Ty.mk vk vas).kind ≠ 1 from fun h => h hvk)] at hj3
        repeat' (first | refine uU ?_ | refine uV fun z hz => ?_ | refine uW fun zs hzs => ?_ | refine dq (fun hq => ?_) fun hq => ?_)
        exact again_normal z ⟨by omega, by omega, by rw [hj3, hz]⟩ (by omega) (by cbv)
      · rw [if_pos (show (Ty.mk vk vas).kind ≠ 1 from hvk)] at hj3
        rw [hj3, if_pos (by omega)] at hq
        subst hq
        repeat' (first | refine uU ?_ | refine uV fun z hz => ?_ | refine uW fun zs hzs => ?_ | refine dq (fun hq => ?_) fun hq => ?_)
        (refine fin_ret ?_; cbv)
  · rw [drop_all hj1 (by omega)] at hj3
    simp only [Tm.natE] at hj3
    rw [hj3, if_neg (by omega)] at hq
    clear hj3 h128
    by_cases hqk : Fm.quant k
    · rw [decide_eq_true hqk] at hcq
      rw [if_pos hqk] at hg'
      repeat' (first | refine uU ?_ | refine uV fun z hz => ?_ | refine uW fun zs hzs => ?_ | refine dq (fun hq => ?_) fun hq => ?_)
      rename_i z1 hz1
      have hsl : slcEv rg 2 0 z1 (some z) = some (.ex 2 rg) := by
        unfold slcEv
        rw [hz1, hz]
        simp
      repeat' (first | refine uU ?_ | refine uV fun z hz => ?_ | refine uW fun zs hzs => ?_ | refine dq (fun hq => ?_) fun hq => ?_)
      obtain rfl : zs = rg' := by rw [hzs, hg']
      refine wploop (σ := Int) (fun x => [(48, .pl (.int .i64 (x)))]) (fun _ => []) (fun x => 0 ≤ x ∧ x ≤ as.length ∧ Fm.tyEs as r' = Fm.tyEs (as.drop x.toNat) r') (fun x => as.length - x.toNat) 0 (by cbv) ⟨by omega, by omega, by simp⟩ (by cbv) ?_
      rintro j ⟨hj1, hj2, hj3⟩
      refine wp_at (by cbv) ?_
      by_cases hj : j < as.length
      · obtain ⟨a, ha, hd, he⟩ := Fm.at_ (as := as) (n := j) (by omega)
        rw [hase] at he
        rw [hd] at hj3
        simp only [Fm.tyEs] at hj3
        have hc := hih a ha
        generalize Fm.enc a = row at hc he
        generalize Fm.tyE a r' = e at hc hj3
        by_cases e0 : e = 0
        · rw [if_neg (by omega)] at hj3
          repeat' (first | refine uU ?_ | refine uV fun z hz => ?_ | refine uW fun zs hzs => ?_ | refine dq (fun hq => ?_) fun hq => ?_)
          exact again_normal z ⟨by omega, by omega, by rw [hj3, hz]⟩ (by omega) (by cbv)
        · rw [if_pos e0] at hj3
          rw [hj3] at hq
          subst hq
          repeat' (first | refine uU ?_ | refine uV fun z hz => ?_ | refine uW fun zs hzs => ?_ | refine dq (fun hq => ?_) fun hq => ?_)
          (refine fin_ret ?_; cbv)
      · rw [drop_all hj1 (by omega)] at hj3
        simp only [Fm.tyEs] at hj3
        rw [hj3] at hq
        subst hq
        repeat' (first | refine uU ?_ | refine uV fun z hz => ?_ | refine uW fun zs hzs => ?_ | refine dq (fun hq => ?_) fun hq => ?_)
        (refine fin_ret ?_; cbv)
    · rw [decide_eq_false hqk] at hcq
      rw [if_neg hqk] at hg'
      subst hg'
      repeat' (first | refine uU ?_ | refine uV fun z hz => ?_ | refine uW fun zs hzs => ?_ | refine dq (fun hq => ?_) fun hq => ?_)
      refine wploop (σ := Int) (fun x => [(48, .pl (.int .i64 (x)))]) (fun _ => []) (fun x => 0 ≤ x ∧ x ≤ as.length ∧ Fm.tyEs as r' = Fm.tyEs (as.drop x.toNat) r') (fun x => as.length - x.toNat) 0 (by cbv) ⟨by omega, by omega, by simp⟩ (by cbv) ?_
      rintro j ⟨hj1, hj2, hj3⟩
      refine wp_at (by cbv) ?_
      by_cases hj : j < as.length
      · obtain ⟨a, ha, hd, he⟩ := Fm.at_ (as := as) (n := j) (by omega)
        rw [hase] at he
        rw [hd] at hj3
        simp only [Fm.tyEs] at hj3
        have hc := hih a ha
        generalize Fm.enc a = row at hc he
        generalize Fm.tyE a r' = e at hc hj3
        by_cases e0 : e = 0
        · rw [if_neg (by omega)] at hj3
          repeat' (first | refine uU ?_ | refine uV fun z hz => ?_ | refine uW fun zs hzs => ?_ | refine dq (fun hq => ?_) fun hq => ?_)
          exact again_normal z ⟨by omega, by omega, by rw [hj3, hz]⟩ (by omega) (by cbv)
        · rw [if_pos e0] at hj3
          rw [hj3] at hq
          subst hq
          repeat' (first | refine uU ?_ | refine uV fun z hz => ?_ | refine uW fun zs hzs => ?_ | refine dq (fun hq => ?_) fun hq => ?_)
          (refine fin_ret ?_; cbv)
      · rw [drop_all hj1 (by omega)] at hj3
        simp only [Fm.tyEs] at hj3
        rw [hj3] at hq
        subst hq
        repeat' (first | refine uU ?_ | refine uV fun z hz => ?_ | refine uW fun zs hzs => ?_ | refine dq (fun hq => ?_) fun hq => ?_)
        (refine fin_ret ?_; cbv)
theorem call123 (hR : Has R G c123) (f : Fm) (r : List Ty) (hr : ∀ s ∈ r, s.err = 0) (hs : r.length + f.size < 2 ^ 20) : (Lim R G).call 123 [.pl (.sl 2 (Ty.encs r.reverse)), .st 5 f.enc] [] = some (.pl (.int .i64 (f.chkE r)), []) := by
  have h1 := call60 (hR.sub (by kernel_rfl)) f (by omega)
  have h2 : f.err = 0 → _ := fun h => call127 (hR.sub (by kernel_rfl)) f r (Fm.err_ok h).1 (Fm.err_ok h).2 hr hs
  unfold Fm.chkE
  refine call_of (hR.at 123 (by kernel_rfl) tab123) (by rfl) ?_
  by_cases h : f.err = 0
  · rw [if_neg (by omega)]
    have h3 := h2 h
    rw [h] at h1
    clear h2
    generalize Ty.encs r.reverse = rg at *
    generalize f.enc = rt at *
    generalize f.tyE r = e at *
    repeat' (first | refine uU ?_ | refine uV fun z hz => ?_ | refine uW fun zs hzs => ?_ | refine dq (fun hq => ?_) fun hq => ?_)
    (refine fin_ret ?_; cbv)
  · rw [if_pos h]
    clear h2
    generalize Ty.encs r.reverse = rg at *
    generalize f.enc = rt at *
    generalize f.err = e at *
    repeat' (first | refine uU ?_ | refine uV fun z hz => ?_ | refine uW fun zs hzs => ?_ | refine dq (fun hq => ?_) fun hq => ?_)
    (refine fin_ret ?_; cbv)
theorem call116 (hR : Has R G c116) (f : Fm) (r : List Ty) (hr : ∀ s ∈ r, s.err = 0) (hl : r.length ≤ 16) (hs : f.size < 2 ^ 19) : (Lim R G).call 116 [.pl (.sl 2 (Ty.encs r.reverse)), .st 5 f.enc] [] = some (.pl (.int .i64 (f.chkE r)), []) := by
  have h1 := call122 (hR.sub (by kernel_rfl)) r.reverse (by rw [List.length_reverse]; exact hl) (fun t ht => ⟨hr t (List.mem_reverse.1 ht), by have := (Ty.err_iff.1 (hr t (List.mem_reverse.1 ht))).2; omega⟩)
  have h2 := call123 (hR.sub (by kernel_rfl)) f r hr (by omega)
  refine call_of (hR.at 116 (by kernel_rfl) tab116) (by rfl) ?_
  generalize Ty.encs r.reverse = rg at *
  generalize f.enc = rt at *
  generalize f.chkE r = e at *
  repeat' (first | refine uU ?_ | refine uV fun z hz => ?_ | refine uW fun zs hzs => ?_ | refine dq (fun hq => ?_) fun hq => ?_)
  (refine fin_ret ?_; cbv)
end
end Eng

