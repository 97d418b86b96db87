/- What is typed is told so. -/
import Derived.Test.YtjfkhhfdfebpeaaGreatDoorEngT
import Derived.Test.YtjfkhhfdfebpeaaGreatDoorEngTab
import Derived.Test.YtjfkhhfdfebpeaaGreatDoorEngW2
import Derived.Test.YtjfkhhfdfebpeaaGreatDoorEngZ
set_option linter.all false
set_option linter.unusedVariables false
set_option linter.unusedSimpArgs false
set_option maxRecDepth 100000
set_option maxHeartbeats 4000000
namespace Eng
open Go
section
variable {R : RProg} {G : Nat → AV}
theorem call122 (hR : Has R G c122) (l : List Ty) (hl : l.length ≤ 16) (h : ∀ t ∈ l, t.err = 0 ∧ t.size < 2 ^ 20) : (Lim R G).call 122 [.pl (.sl 2 (Ty.encs l))] [] = some (.pl (.int .i64 (0)), []) := by
  have h92 := call92 (hR.sub (by kernel_rfl))
  refine call_of (hR.at 122 (by kernel_rfl) tab122) (by rfl) ?_
  have hl' := Ty.encs_len l
  generalize hr : Ty.encs l = rs at hl' ⊢
  repeat' (first | refine uU ?_ | refine zm (fun k' hk' => ?_) | refine zr (fun q' hq' => ?_) | refine uV fun z hz => ?_ | refine uW fun zs hzs => ?_ | refine dq (fun hq => ?_) fun hq => ?_)
  refine wploop (σ := Int) (fun x => [(11, .pl (.int .i64 x))]) (fun _ => []) (fun x => 0 ≤ x ∧ x ≤ l.length) (fun x => l.length - x.toNat) 0 (by cbv) ⟨by omega, by omega⟩ (by cbv) ?_
  rintro j ⟨hj1, hj2⟩
  refine wp_at (by cbv) ?_
  by_cases hj : j < l.length
  · obtain ⟨a, ha, hd, he⟩ := Ty.at_ (as := l) (n := j) (by omega)
    rw [hr] at he
    have hc := h92 a (by have := (h a ha).2; omega)
    rw [(h a ha).1] at hc
    generalize Ty.enc a = row at hc he
    repeat' (first | refine uU ?_ | refine zm (fun k' hk' => ?_) | refine zr (fun q' hq' => ?_) | refine uV fun z hz => ?_ | refine uW fun zs hzs => ?_ | refine dq (fun hq => ?_) fun hq => ?_)
    exact again_normal z ⟨by omega, by omega⟩ (by omega) (by cbv)
  · repeat' (first | refine uU ?_ | refine zm (fun k' hk' => ?_) | refine zr (fun q' hq' => ?_) | refine uV fun z hz => ?_ | refine uW fun zs hzs => ?_ | refine dq (fun hq => ?_) fun hq => ?_)
    (refine fin_ret ?_; cbv)
theorem call130 (hR : Has R G c130) (t : Ty) (hs : t.size < 2 ^ 31) : (Lim R G).call 130 [.st 2 t.enc] [] = some (ansT (Ty.sized t), []) := by
  have h1 := call92 (hR.sub (by kernel_rfl)) t (by omega)
  unfold Ty.sized
  refine call_of (hR.at 130 (by kernel_rfl) tab130) (by rfl) ?_
  by_cases h : t.err = 0
  · rw [if_pos h]
    simp only [ansT]
    generalize t.err = e at *
    obtain ⟨k, as⟩ := t
    simp only [Ty.enc] at h1 ⊢
    generalize Ty.encs as = rs at *
    repeat' (first | refine uU ?_ | refine zm (fun k' hk' => ?_) | refine zr (fun q' hq' => ?_) | refine uV fun z hz => ?_ | refine uW fun zs hzs => ?_ | refine dq (fun hq => ?_) fun hq => ?_)
    (refine fin_ret ?_; cbv)
  · rw [if_neg h]
    simp only [ansT]
    generalize t.err = e at *
    obtain ⟨k, as⟩ := t
    simp only [Ty.enc] at h1 ⊢
    generalize Ty.encs as = rs at *
    repeat' (first | refine uU ?_ | refine zm (fun k' hk' => ?_) | refine zr (fun q' hq' => ?_) | refine uV fun z hz => ?_ | refine uW fun zs hzs => ?_ | refine dq (fun hq => ?_) fun hq => ?_)
    (refine fin_ret ?_; cbv)
theorem encs_rev_at {r : List Ty} {i : Int} {u : Ty} (h0 : 0 ≤ i) (h : r[i.toNat]? = some u) : i < r.length ∧ (Ty.encs r.reverse).getD ((r.length : Int) - 1 - i).toNat [] = u.enc := by
  have hl : i.toNat < r.length := (List.getElem?_eq_some_iff.1 h).1
  refine ⟨by omega, ?_⟩
  have h2 : r.reverse[((r.length : Int) - 1 - i).toNat]? = some u := by
    rw [List.getElem?_reverse (by omega), show r.length - 1 - ((r.length : Int) - 1 - i).toNat = i.toNat by omega]
    exact h
  rw [Ty.encs_eq]
  simp only [List.getD, List.getElem?_map, h2]
  rfl
theorem call129v (hR : Has R G c129) (r : List Ty) (i : Int) (t : Ty) (as : List Tm) (hi : 0 ≤ i) (hr : ∀ s ∈ r, s.err = 0) (hs : r.length < 2 ^ 20) :
    (Lim R G).call 129 [.pl (.sl 2 (Ty.encs r.reverse)), .st 5 (Tm.mk 1 i t as).enc] [] = some (ansT (match r[i.toNat]? with | some u => .ok u | none => .error 6), []) := by
  have hl' : (Ty.encs r.reverse).length = r.length := by rw [Ty.encs_len, List.length_reverse]
  cases h : r[i.toNat]? with
  | none =>
    have hlt := List.getElem?_eq_none_iff.1 h
    simp only [ansT]
    refine call_of (hR.at 129 (by kernel_rfl) tab129) (by rfl) ?_
    simp only [Tm.enc]
    generalize Ty.encs r.reverse = rs at *
    generalize Ty.encs t.args = rt at *
    generalize t.kind = tk at *
    generalize Tm.encs as = ra at *
    repeat' (first | refine uU ?_ | refine zm (fun k' hk' => ?_) | refine zr (fun q' hq' => ?_) | refine uV fun z hz => ?_ | refine uW fun zs hzs => ?_ | refine dq (fun hq => ?_) fun hq => ?_)
    (refine fin_ret ?_; cbv)
  | some u =>
    obtain ⟨hlt, he⟩ := encs_rev_at hi h
    have hc := call40 (hR.sub (by kernel_rfl)) u (by have := (Ty.err_iff.1 (hr u (List.mem_of_getElem? h))).2; omega)
    simp only [ansT]
    refine call_of (hR.at 129 (by kernel_rfl) tab129) (by rfl) ?_
    simp only [Tm.enc]
    generalize Ty.encs r.reverse = rs at *
    generalize u.enc = row at *
    generalize Ty.encs t.args = rt at *
    generalize t.kind = tk at *
    generalize Tm.encs as = ra at *
    repeat' (first | refine uU ?_ | refine zm (fun k' hk' => ?_) | refine zr (fun q' hq' => ?_) | refine uV fun z hz => ?_ | refine uW fun zs hzs => ?_ | refine dq (fun hq => ?_) fun hq => ?_)
    rw [show (r.length : Int) - 1 - i = z by omega] at he
    repeat' (first | refine uU ?_ | refine zm (fun k' hk' => ?_) | refine zr (fun q' hq' => ?_) | refine uV fun z hz => ?_ | refine uW fun zs hzs => ?_ | refine dq (fun hq => ?_) fun hq => ?_)
    (refine fin_ret ?_; cbv)
theorem call129l (hR : Has R G c129) (r : List Ty) (i : Int) (t : Ty) (a : Tm) (hc : (Lim R G).call 129 [.pl (.sl 2 (Ty.encs r.reverse ++ [t.enc])), .st 5 a.enc] [] = some (ansT (a.inf (t :: r)), []))
    (ht : t.err = 0) (hv : ∀ v, a.inf (t :: r) = .ok v → v.err = 0) (hs : r.length < 2 ^ 20) :
    (Lim R G).call 129 [.pl (.sl 2 (Ty.encs r.reverse)), .st 5 (Tm.mk 2 i t [a]).enc] [] = some (ansT (match Tm.infs [a] (t :: r) with | .ok [u] => Ty.sized (.fn t u) | .ok _ => .error 7 | .error e => .error e), []) := by
  have s1 := (Ty.err_iff.1 ht).2
  have hl' : (Ty.encs r.reverse).length = r.length := by rw [Ty.encs_len, List.length_reverse]
  simp only [Tm.infs]
  have hne := Tm.inf_ne a (t :: r)
  cases h : a.inf (t :: r) with
  | error e =>
    have he := hne e h
    rw [h] at hc
    simp only [ansT] at hc ⊢
    refine call_of (hR.at 129 (by kernel_rfl) tab129) (by rfl) ?_
    rw [Ty.enc_eq t] at hc
    simp only [Tm.enc, Tm.encs]
    generalize Ty.encs r.reverse = rs at *
    generalize Ty.encs t.args = rt at *
    generalize t.kind = tk at *
    generalize a.enc = ra at *
    repeat' (first | refine uU ?_ | refine zm (fun k' hk' => ?_) | refine zr (fun q' hq' => ?_) | refine uV fun z hz => ?_ | refine uW fun zs hzs => ?_ | refine dq (fun hq => ?_) fun hq => ?_)
    rename_i z1 hz1
    have hsl : slcEv rs 2 0 z1 (some z) = some (.ex 2 rs) := by
      unfold slcEv
      rw [hz1, hz]
      simp
    repeat' (first | refine uU ?_ | refine zm (fun k' hk' => ?_) | refine zr (fun q' hq' => ?_) | refine uV fun z hz => ?_ | refine uW fun zs hzs => ?_ | refine dq (fun hq => ?_) fun hq => ?_)
    rw [← hzs] at hc
    repeat' (first | refine uU ?_ | refine zm (fun k' hk' => ?_) | refine zr (fun q' hq' => ?_) | refine uV fun z hz => ?_ | refine uW fun zs hzs => ?_ | refine dq (fun hq => ?_) fun hq => ?_)
    (refine fin_ret ?_; cbv)
  | ok v =>
    have s2 := (Ty.err_iff.1 (hv v h)).2
    rw [h] at hc
    simp only [ansT] at hc ⊢
    have h1 := call39 (hR.sub (by kernel_rfl)) t v (by omega) (by omega)
    have h2 := call130 (hR.sub (by kernel_rfl)) (Ty.fn t v) (by simp only [Ty.fn, Ty.size, Ty.sizes]; omega)
    rw [show Ty.mk 4 [t, v] = Ty.fn t v from rfl] at h1
    generalize Ty.sized (Ty.fn t v) = q at *
    generalize Ty.fn t v = w at *
    refine call_of (hR.at 129 (by kernel_rfl) tab129) (by rfl) ?_
    rw [Ty.enc_eq t] at hc h1
    simp only [Tm.enc, Tm.encs]
    generalize Ty.encs r.reverse = rs at *
    generalize v.enc = row at *
    generalize w.enc = rw' at *
    generalize Ty.encs t.args = rt at *
    generalize t.kind = tk at *
    generalize a.enc = ra at *
    cases q with
    | error e =>
      simp only [ansT] at h2 ⊢
      repeat' (first | refine uU ?_ | refine zm (fun k' hk' => ?_) | refine zr (fun q' hq' => ?_) | refine uV fun z hz => ?_ | refine uW fun zs hzs => ?_ | refine dq (fun hq => ?_) fun hq => ?_)
      rename_i z1 hz1
      have hsl : slcEv rs 2 0 z1 (some z) = some (.ex 2 rs) := by
        unfold slcEv
        rw [hz1, hz]
        simp
      repeat' (first | refine uU ?_ | refine zm (fun k' hk' => ?_) | refine zr (fun q' hq' => ?_) | refine uV fun z hz => ?_ | refine uW fun zs hzs => ?_ | refine dq (fun hq => ?_) fun hq => ?_)
      rw [← hzs] at hc
      repeat' (first | refine uU ?_ | refine zm (fun k' hk' => ?_) | refine zr (fun q' hq' => ?_) | refine uV fun z hz => ?_ | refine uW fun zs hzs => ?_ | refine dq (fun hq => ?_) fun hq => ?_)
      (refine fin_ret ?_; cbv)
    | ok q =>
      simp only [ansT] at h2 ⊢
      generalize q.enc = rq at *
      repeat' (first | refine uU ?_ | refine zm (fun k' hk' => ?_) | refine zr (fun q' hq' => ?_) | refine uV fun z hz => ?_ | refine uW fun zs hzs => ?_ | refine dq (fun hq => ?_) fun hq => ?_)
      rename_i z1 hz1
      have hsl : slcEv rs 2 0 z1 (some z) = some (.ex 2 rs) := by
        unfold slcEv
        rw [hz1, hz]
        simp
      repeat' (first | refine uU ?_ | refine zm (fun k' hk' => ?_) | refine zr (fun q' hq' => ?_) | refine uV fun z hz => ?_ | refine uW fun zs hzs => ?_ | refine dq (fun hq => ?_) fun hq => ?_)
      rw [← hzs] at hc
      repeat' (first | refine uU ?_ | refine zm (fun k' hk' => ?_) | refine zr (fun q' hq' => ?_) | refine uV fun z hz => ?_ | refine uW fun zs hzs => ?_ | refine dq (fun hq => ?_) fun hq => ?_)
      (refine fin_ret ?_; cbv)
theorem Tm.pre_step {l0 : List Ty} {v : Ty} {x y : Except Int (List Ty)} (h : y = Tm.pre l0 (match x with | .error e => .error e | .ok l => .ok (v :: l))) : y = Tm.pre (l0 ++ [v]) x := by
  rw [h]
  cases x <;> simp [Tm.pre]
theorem call129n (hR : Has R G c129) (r : List Ty) (k i : Int) (t : Ty) (as : List Tm) (ho : (Tm.mk k i t as).ok = true) (h1 : k ≠ 1) (h2 : k ≠ 2) (hr : ∀ s ∈ r, s.err = 0)
    (hih : ∀ a ∈ as, (Lim R G).call 129 [.pl (.sl 2 (Ty.encs r.reverse)), .st 5 a.enc] [] = some (ansT (a.inf r), [])) :
    (Lim R G).call 129 [.pl (.sl 2 (Ty.encs r.reverse)), .st 5 (Tm.mk k i t as).enc] [] = some (ansT (match Tm.infs as r with | .ok l => Tm.node k t l | .error e => .error e), []) := by
  obtain ⟨e1, e2, e3, e4, e5⟩ := Tm.ok_mk ho
  have hw := Tm.want_cases e1
  obtain ⟨q, hq⟩ : ∃ q, q = (match Tm.infs as r with | .ok l => Tm.node k t l | .error e => .error e : Except Int Ty) := ⟨_, rfl⟩
  rw [← hq]
  have c20 := call20 (hR.sub (by kernel_rfl))
  have c36 := call36 (hR.sub (by kernel_rfl))
  have c37 := call37 (hR.sub (by kernel_rfl))
  refine call_of (hR.at 129 (by kernel_rfl) tab129) (by rfl) ?_
  simp only [Tm.enc]
  have hlen := Tm.encs_len as
  generalize hra : Tm.encs as = ra at *
  generalize Ty.encs r.reverse = rg at *
  generalize hrt : Ty.encs t.args = rt
  generalize htk : t.kind = tk
  repeat' (first | refine uU ?_ | refine zm (fun k' hk' => ?_) | refine zr (fun q' hq' => ?_) | refine uV fun z hz => ?_ | refine uW fun zs hzs => ?_ | refine dq (fun hq => ?_) fun hq => ?_)
  refine wploop (σ := Int × List (List PV)) (fun x => [(69, .pl (.int .i64 (x.1)))]) (fun x => [(1144, .buf 2 x.2 0)]) (fun x => 0 ≤ x.1 ∧ x.1 ≤ as.length ∧ x.2.length = x.1 ∧ ∃ l0 : List Ty, x.2 = Ty.encs l0 ∧ (∀ s ∈ l0, s.err = 0) ∧ Tm.infs as r = Tm.pre l0 (Tm.infs (as.drop x.1.toNat) r)) (fun x => as.length - x.1.toNat) (0, []) (by cbv) ⟨by omega, by omega, rfl, [], rfl, by simp, by simp [Tm.pre_nil]⟩ (by cbv) ?_
  rintro ⟨j, n⟩ ⟨hj1, hj2, hj3, l0, hj4, hj5, hj6⟩
  dsimp only at hj1 hj2 hj3 hj4 hj6
  refine wp_at (by cbv) ?_
  by_cases hj : j < as.length
  · obtain ⟨a, ha, hd, he⟩ := Tm.at_ (as := as) (n := j) (by omega)
    rw [hra] at he
    rw [hd] at hj6
    simp only [Tm.infs] at hj6
    have hc := hih a ha
    have ht0 := Tm.inf_err a r
    have hne := Tm.inf_ne a r
    have hao := Tm.oks_mem e5 ha
    generalize Tm.enc a = row at hc he
    cases hv : a.inf r with
    | error e =>
      rw [hv] at hc hj6
      dsimp only at hj6
      simp only [Tm.pre] at hj6
      rw [hj6] at hq
      have he' := hne e hv
      subst hq
      simp only [ansT] at hc ⊢
      repeat' (first | refine uU ?_ | refine zm (fun k' hk' => ?_) | refine zr (fun q' hq' => ?_) | refine uV fun z hz => ?_ | refine uW fun zs hzs => ?_ | refine dq (fun hq => ?_) fun hq => ?_)
      (refine fin_ret ?_; cbv)
    | ok v =>
      rw [hv] at hc hj6
      dsimp only at hj6
      simp only [ansT] at hc
      have hv0 := ht0 v hao hr hv
      generalize hvr : v.enc = row' at hc
      repeat' (first | refine uU ?_ | refine zm (fun k' hk' => ?_) | refine zr (fun q' hq' => ?_) | refine uV fun z hz => ?_ | refine uW fun zs hzs => ?_ | refine dq (fun hq => ?_) fun hq => ?_)
      exact again_normal (z, zs) ⟨by dsimp only; omega, by dsimp only; omega, by dsimp only; rw [hzs]; simp; omega, l0 ++ [v], by dsimp only; rw [hzs, hj4, Ty.encs_app, ← hvr]; rfl, by
        intro s hs
        rcases List.mem_append.1 hs with hs | hs
        · exact hj5 s hs
        · rw [List.mem_singleton.1 hs]; exact hv0, by
        dsimp only
        rw [hz]
        exact Tm.pre_step hj6⟩ (by dsimp only; omega) (by cbv)
  · rw [drop_all hj1 (by omega)] at hj6
    simp only [Tm.infs, Tm.pre, List.append_nil] at hj6
    rw [hj6] at hq
    dsimp only at hq
    have hll : l0.length = as.length := by
      have := Ty.encs_len l0
      rw [← hj4] at this
      omega
    rcases hw with ⟨rfl, hw⟩ | ⟨rfl, hw⟩ | ⟨rfl, hw⟩ | ⟨rfl, hw⟩ | ⟨rfl, hw⟩ | ⟨rfl, hw⟩ | ⟨rfl, hw⟩ | ⟨rfl, hw⟩ | ⟨rfl, hw⟩ | ⟨rfl, hw⟩ | ⟨rfl, hw⟩ | ⟨rfl, hw⟩ | ⟨rfl, hw⟩
    · exact absurd rfl h1
    · exact absurd rfl h2
    · obtain ⟨f, s, rfl⟩ := len2 (l := l0) (by omega)
      have he1 := hj5 f (by simp)
      have he2 := hj5 s (by simp)
      obtain ⟨fk, fas⟩ := f
      by_cases hk : fk = 4
      · obtain ⟨x, y, rfl, hx, hy⟩ := Ty.err_two he1 (.inr hk)
        subst hk
        have h29 := call29 (hR.sub (by kernel_rfl)) x s (by have := (Ty.err_iff.1 hx).2; omega) (by have := (Ty.err_iff.1 he2).2; omega)
        have hq' : q = if x.same s = true then .ok y else .error 7 := by rw [hq]; simp [Tm.node]
        simp only [Ty.encs, Ty.enc] at hj4
        subst hj4
        cases hsm : x.same s with
        | true =>
          rw [hsm] at h29 hq'
          subst hq'
          simp only [if_true, ansT]
          generalize x.enc = rx at *
          generalize y.enc = ry at *
          generalize s.enc = rs' at *
          repeat' (first | refine uU ?_ | refine zm (fun k' hk' => ?_) | refine zr (fun q' hq' => ?_) | refine uV fun z hz => ?_ | refine uW fun zs hzs => ?_ | refine dq (fun hq => ?_) fun hq => ?_)
          (refine fin_ret ?_; cbv)
        | false =>
          rw [hsm] at h29 hq'
          subst hq'
          simp only [Bool.false_eq_true, if_false, ansT]
          generalize x.enc = rx at *
          generalize y.enc = ry at *
          generalize s.enc = rs' at *
          repeat' (first | refine uU ?_ | refine zm (fun k' hk' => ?_) | refine zr (fun q' hq' => ?_) | refine uV fun z hz => ?_ | refine uW fun zs hzs => ?_ | refine dq (fun hq => ?_) fun hq => ?_)
          (refine fin_ret ?_; cbv)
      · have hq' : q = .error 7 := by
          rw [hq]
          unfold Tm.node
          rw [if_pos rfl]
          split
          · rename_i h; cases h; rw [if_neg (fun h => hk h.1)]
          · rfl
        subst hq'
        simp only [Ty.encs, Ty.enc] at hj4
        subst hj4
        simp only [ansT]
        generalize Ty.encs fas = rx at *
        generalize s.enc = rs' at *
        repeat' (first | refine uU ?_ | refine zm (fun k' hk' => ?_) | refine zr (fun q' hq' => ?_) | refine uV fun z hz => ?_ | refine uW fun zs hzs => ?_ | refine dq (fun hq => ?_) fun hq => ?_)
        (refine fin_ret ?_; cbv)
    · obtain rfl := len0 (l := l0) (by omega)
      have hq' : q = .ok .nat := by rw [hq]; simp [Tm.node]
      subst hq' hj4
      simp only [ansT]
      rw [show Ty.mk 1 [] = Ty.nat from rfl] at c20
      generalize Ty.nat.enc = rn at *
      repeat' (first | refine uU ?_ | refine zm (fun k' hk' => ?_) | refine zr (fun q' hq' => ?_) | refine uV fun z hz => ?_ | refine uW fun zs hzs => ?_ | refine dq (fun hq => ?_) fun hq => ?_)
      (refine fin_ret ?_; cbv)
    · obtain ⟨s, rfl⟩ := len1 (l := l0) (by omega)
      have h29 := call29 (hR.sub (by kernel_rfl)) s .nat (by have := (Ty.err_iff.1 (hj5 s (by simp))).2; omega) (by decide)
      have hq' : q = if s.same .nat = true then .ok .nat else .error 7 := by rw [hq]; simp [Tm.node]
      simp only [Ty.encs] at hj4
      subst hj4
      rw [show Ty.mk 1 [] = Ty.nat from rfl] at c20
      cases hsm : s.same .nat with
      | true =>
        rw [hsm] at h29 hq'
        subst hq'
        simp only [if_true, ansT]
        generalize Ty.nat.enc = rn at *
        generalize s.enc = rs' at *
        repeat' (first | refine uU ?_ | refine zm (fun k' hk' => ?_) | refine zr (fun q' hq' => ?_) | refine uV fun z hz => ?_ | refine uW fun zs hzs => ?_ | refine dq (fun hq => ?_) fun hq => ?_)
        (refine fin_ret ?_; cbv)
      | false =>
        rw [hsm] at h29 hq'
        subst hq'
        simp only [Bool.false_eq_true, if_false, ansT]
        generalize Ty.nat.enc = rn at *
        generalize s.enc = rs' at *
        repeat' (first | refine uU ?_ | refine zm (fun k' hk' => ?_) | refine zr (fun q' hq' => ?_) | refine uV fun z hz => ?_ | refine uW fun zs hzs => ?_ | refine dq (fun hq => ?_) fun hq => ?_)
        (refine fin_ret ?_; cbv)
    · obtain ⟨a, b, c, rfl⟩ := len3 (l := l0) (by omega)
      have ht := (Ty.err_iff.1 (Tm.tyOk_err e4 (by omega))).2
      have e1 := (Ty.err_iff.1 (hj5 a (by simp))).2
      have e2 := (Ty.err_iff.1 (hj5 b (by simp))).2
      have e3 := (Ty.err_iff.1 (hj5 c (by simp))).2
      have hn := Ty.nat_size
      have hl := Ty.list_size
      have s1 : (Ty.fn t t).size ≤ 200 := by simp only [Ty.fn, Ty.size, Ty.sizes]; omega
      have s2 : (Ty.fn .list (Ty.fn t t)).size ≤ 300 := by simp only [Ty.fn, Ty.size, Ty.sizes] at *; omega
      have s3 : (Ty.fn .nat (Ty.fn t t)).size ≤ 400 := by simp only [Ty.fn, Ty.size, Ty.sizes] at *; omega
      have f1 := call39 (hR.sub (by kernel_rfl)) t t (by omega) (by omega)
      have f2 := call39 (hR.sub (by kernel_rfl)) .list (Ty.fn t t) (by omega) (by omega)
      have f3 := call39 (hR.sub (by kernel_rfl)) .nat (Ty.fn t t) (by omega) (by omega)
      have f4 := call40 (hR.sub (by kernel_rfl)) t (by omega)
      have h1 := call29 (hR.sub (by kernel_rfl)) a t (by omega) (by omega)
      have h2 := call29 (hR.sub (by kernel_rfl)) b (Ty.fn .nat (Ty.fn t t)) (by omega) (by omega)
      have h3 := call29 (hR.sub (by kernel_rfl)) c Ty.nat (by omega) (by omega)
      have hq' : q = if a.same t = true ∧ b.same (Ty.fn .nat (Ty.fn t t)) = true ∧ c.same Ty.nat = true then .ok t else .error 7 := by rw [hq]; simp [Tm.node]
      simp only [Ty.encs] at hj4
      subst hj4
      rw [show Ty.mk 1 [] = Ty.nat from rfl] at c20
      rw [show Ty.mk 2 [] = Ty.list from rfl] at c36
      rw [show Ty.mk 4 [t, t] = Ty.fn t t from rfl] at f1
      rw [show Ty.mk 4 [.list, .fn t t] = Ty.fn .list (.fn t t) from rfl] at f2
      rw [show Ty.mk 4 [.nat, (Ty.fn t t)] = (Ty.fn .nat (Ty.fn t t)) from rfl] at f3
      generalize h1s : a.same t = b1 at *
      generalize h2s : b.same (Ty.fn .nat (Ty.fn t t)) = b2 at *
      generalize h3s : c.same Ty.nat = b3 at *
      generalize (Ty.fn .nat (Ty.fn t t)) = g3 at *
      generalize Ty.fn .list (Ty.fn t t) = g2 at *
      generalize Ty.fn t t = g1 at *
      have hte := Ty.enc_eq t
      rw [hrt, htk] at hte
      rw [hte] at f1 f4 h1
      generalize Ty.nat = nt at *
      generalize Ty.list = lt at *
      cases b1 <;> cases b2 <;> cases b3
      all_goals (
        simp only [if_true, if_false, Bool.false_eq_true, and_true, and_false, and_self] at hq'
        subst hq'
        simp only [ansT, hte]
        generalize nt.enc = rn at *
        generalize lt.enc = rl at *
        generalize a.enc = ra' at *
        generalize b.enc = rb' at *
        generalize c.enc = rc' at *
        generalize g1.enc = rg1 at *
        generalize g2.enc = rg2 at *
        generalize g3.enc = rg3 at *
        repeat' (first | refine uU ?_ | refine zm (fun k' hk' => ?_) | refine zr (fun q' hq' => ?_) | refine uV fun z hz => ?_ | refine uW fun zs hzs => ?_ | refine dq (fun hq => ?_) fun hq => ?_)
        (refine fin_ret ?_; cbv)
        )
    · obtain rfl := len0 (l := l0) (by omega)
      have hq' : q = .ok .list := by rw [hq]; simp [Tm.node]
      subst hq' hj4
      simp only [ansT]
      rw [show Ty.mk 2 [] = Ty.list from rfl] at c36
      generalize Ty.list.enc = rn at *
      repeat' (first | refine uU ?_ | refine zm (fun k' hk' => ?_) | refine zr (fun q' hq' => ?_) | refine uV fun z hz => ?_ | refine uW fun zs hzs => ?_ | refine dq (fun hq => ?_) fun hq => ?_)
      (refine fin_ret ?_; cbv)
    · obtain ⟨a, b, rfl⟩ := len2 (l := l0) (by omega)
      have h1 := call29 (hR.sub (by kernel_rfl)) a .nat (by have := (Ty.err_iff.1 (hj5 a (by simp))).2; omega) (by decide)
      have h2 := call29 (hR.sub (by kernel_rfl)) b .list (by have := (Ty.err_iff.1 (hj5 b (by simp))).2; omega) (by decide)
      have hq' : q = if a.same .nat = true ∧ b.same .list = true then .ok .list else .error 7 := by rw [hq]; simp [Tm.node]
      simp only [Ty.encs] at hj4
      subst hj4
      rw [show Ty.mk 1 [] = Ty.nat from rfl] at c20
      rw [show Ty.mk 2 [] = Ty.list from rfl] at c36
      cases hs1 : a.same .nat <;> cases hs2 : b.same .list
      all_goals (
        rw [hs1] at h1 hq'
        rw [hs2] at h2 hq'
        simp only [if_true, if_false, Bool.false_eq_true, and_true, and_false, and_self] at hq'
        subst hq'
        simp only [ansT]
        generalize Ty.nat.enc = rn at *
        generalize Ty.list.enc = rl at *
        generalize a.enc = ra' at *
        generalize b.enc = rb' at *
        repeat' (first | refine uU ?_ | refine zm (fun k' hk' => ?_) | refine zr (fun q' hq' => ?_) | refine uV fun z hz => ?_ | refine uW fun zs hzs => ?_ | refine dq (fun hq => ?_) fun hq => ?_)
        (refine fin_ret ?_; cbv)
        )
    · obtain ⟨a, b, c, rfl⟩ := len3 (l := l0) (by omega)
      have ht := (Ty.err_iff.1 (Tm.tyOk_err e4 (by omega))).2
      have e1 := (Ty.err_iff.1 (hj5 a (by simp))).2
      have e2 := (Ty.err_iff.1 (hj5 b (by simp))).2
      have e3 := (Ty.err_iff.1 (hj5 c (by simp))).2
      have hn := Ty.nat_size
      have hl := Ty.list_size
      have s1 : (Ty.fn t t).size ≤ 200 := by simp only [Ty.fn, Ty.size, Ty.sizes]; omega
      have s2 : (Ty.fn .list (Ty.fn t t)).size ≤ 300 := by simp only [Ty.fn, Ty.size, Ty.sizes] at *; omega
      have s3 : (Ty.fn .nat (Ty.fn .list (Ty.fn t t))).size ≤ 400 := by simp only [Ty.fn, Ty.size, Ty.sizes] at *; omega
      have f1 := call39 (hR.sub (by kernel_rfl)) t t (by omega) (by omega)
      have f2 := call39 (hR.sub (by kernel_rfl)) .list (Ty.fn t t) (by omega) (by omega)
      have f3 := call39 (hR.sub (by kernel_rfl)) .nat (Ty.fn .list (Ty.fn t t)) (by omega) (by omega)
      have f4 := call40 (hR.sub (by kernel_rfl)) t (by omega)
      have h1 := call29 (hR.sub (by kernel_rfl)) a t (by omega) (by omega)
      have h2 := call29 (hR.sub (by kernel_rfl)) b (Ty.fn .nat (Ty.fn .list (Ty.fn t t))) (by omega) (by omega)
      have h3 := call29 (hR.sub (by kernel_rfl)) c Ty.list (by omega) (by omega)
      have hq' : q = if a.same t = true ∧ b.same (Ty.fn .nat (Ty.fn .list (Ty.fn t t))) = true ∧ c.same Ty.list = true then .ok t else .error 7 := by rw [hq]; simp [Tm.node]
      simp only [Ty.encs] at hj4
      subst hj4
      rw [show Ty.mk 1 [] = Ty.nat from rfl] at c20
      rw [show Ty.mk 2 [] = Ty.list from rfl] at c36
      rw [show Ty.mk 4 [t, t] = Ty.fn t t from rfl] at f1
      rw [show Ty.mk 4 [.list, .fn t t] = Ty.fn .list (.fn t t) from rfl] at f2
      rw [show Ty.mk 4 [.nat, (Ty.fn .list (Ty.fn t t))] = (Ty.fn .nat (Ty.fn .list (Ty.fn t t))) from rfl] at f3
      generalize h1s : a.same t = b1 at *
      generalize h2s : b.same (Ty.fn .nat (Ty.fn .list (Ty.fn t t))) = b2 at *
      generalize h3s : c.same Ty.list = b3 at *
      generalize (Ty.fn .nat (Ty.fn .list (Ty.fn t t))) = g3 at *
      generalize Ty.fn .list (Ty.fn t t) = g2 at *
      generalize Ty.fn t t = g1 at *
      have hte := Ty.enc_eq t
      rw [hrt, htk] at hte
      rw [hte] at f1 f4 h1
      generalize Ty.nat = nt at *
      generalize Ty.list = lt at *
      cases b1 <;> cases b2 <;> cases b3
      all_goals (
        simp only [if_true, if_false, Bool.false_eq_true, and_true, and_false, and_self] at hq'
        subst hq'
        simp only [ansT, hte]
        generalize nt.enc = rn at *
        generalize lt.enc = rl at *
        generalize a.enc = ra' at *
        generalize b.enc = rb' at *
        generalize c.enc = rc' at *
        generalize g1.enc = rg1 at *
        generalize g2.enc = rg2 at *
        generalize g3.enc = rg3 at *
        repeat' (first | refine uU ?_ | refine zm (fun k' hk' => ?_) | refine zr (fun q' hq' => ?_) | refine uV fun z hz => ?_ | refine uW fun zs hzs => ?_ | refine dq (fun hq => ?_) fun hq => ?_)
        (refine fin_ret ?_; cbv)
        )
    · obtain ⟨a, b, rfl⟩ := len2 (l := l0) (by omega)
      have e1 := (Ty.err_iff.1 (hj5 a (by simp))).2
      have e2 := (Ty.err_iff.1 (hj5 b (by simp))).2
      have h1 := call38 (hR.sub (by kernel_rfl)) a b (by omega) (by omega)
      have h2 := call130 (hR.sub (by kernel_rfl)) (Ty.pair a b) (by simp only [Ty.pair, Ty.size, Ty.sizes]; omega)
      rw [show Ty.mk 3 [a, b] = Ty.pair a b from rfl] at h1
      have hq' : q = Ty.sized (.pair a b) := by rw [hq]; simp [Tm.node]
      simp only [Ty.encs] at hj4
      subst hj4
      rw [← hq'] at h2
      generalize Ty.pair a b = w at *
      cases q with
      | error e =>
        simp only [ansT] at h2 ⊢
        generalize a.enc = ra' at *
        generalize b.enc = rb' at *
        generalize w.enc = rw' at *
        repeat' (first | refine uU ?_ | refine zm (fun k' hk' => ?_) | refine zr (fun q' hq' => ?_) | refine uV fun z hz => ?_ | refine uW fun zs hzs => ?_ | refine dq (fun hq => ?_) fun hq => ?_)
        (refine fin_ret ?_; cbv)
      | ok q =>
        simp only [ansT] at h2 ⊢
        generalize a.enc = ra' at *
        generalize b.enc = rb' at *
        generalize w.enc = rw' at *
        generalize q.enc = rq at *
        repeat' (first | refine uU ?_ | refine zm (fun k' hk' => ?_) | refine zr (fun q' hq' => ?_) | refine uV fun z hz => ?_ | refine uW fun zs hzs => ?_ | refine dq (fun hq => ?_) fun hq => ?_)
        (refine fin_ret ?_; cbv)
    · obtain ⟨f, rfl⟩ := len1 (l := l0) (by omega)
      have he1 := hj5 f (by simp)
      obtain ⟨fk, fas⟩ := f
      by_cases hk : fk = 3
      · obtain ⟨x, y, rfl, hx, hy⟩ := Ty.err_two he1 (.inl hk)
        subst hk
        have hq' : q = .ok x := by rw [hq]; simp [Tm.node]
        simp only [Ty.encs, Ty.enc] at hj4
        subst hj4 hq'
        simp only [ansT]
        generalize x.enc = rx at *
        generalize y.enc = ry at *
        repeat' (first | refine uU ?_ | refine zm (fun k' hk' => ?_) | refine zr (fun q' hq' => ?_) | refine uV fun z hz => ?_ | refine uW fun zs hzs => ?_ | refine dq (fun hq => ?_) fun hq => ?_)
        (refine fin_ret ?_; cbv)
      · have hq' : q = .error 7 := by
          rw [hq]
          unfold Tm.node
          simp only [Int.reduceEq, if_false, if_true]
          split
          · rename_i h; cases h; rw [if_neg hk]
          · rfl
        simp only [Ty.encs, Ty.enc] at hj4
        subst hj4 hq'
        simp only [ansT]
        generalize Ty.encs fas = rx at *
        repeat' (first | refine uU ?_ | refine zm (fun k' hk' => ?_) | refine zr (fun q' hq' => ?_) | refine uV fun z hz => ?_ | refine uW fun zs hzs => ?_ | refine dq (fun hq => ?_) fun hq => ?_)
        (refine fin_ret ?_; cbv)
    · obtain ⟨f, rfl⟩ := len1 (l := l0) (by omega)
      have he1 := hj5 f (by simp)
      obtain ⟨fk, fas⟩ := f
      by_cases hk : fk = 3
      · obtain ⟨x, y, rfl, hx, hy⟩ := Ty.err_two he1 (.inl hk)
        subst hk
        have hq' : q = .ok y := by rw [hq]; simp [Tm.node]
        simp only [Ty.encs, Ty.enc] at hj4
        subst hj4 hq'
        simp only [ansT]
        generalize x.enc = rx at *
        generalize y.enc = ry at *
        repeat' (first | refine uU ?_ | refine zm (fun k' hk' => ?_) | refine zr (fun q' hq' => ?_) | refine uV fun z hz => ?_ | refine uW fun zs hzs => ?_ | refine dq (fun hq => ?_) fun hq => ?_)
        (refine fin_ret ?_; cbv)
      · have hq' : q = .error 7 := by
          rw [hq]
          unfold Tm.node
          simp only [Int.reduceEq, if_false, if_true]
          split
          · rename_i h; cases h; rw [if_neg hk]
          · rfl
        simp only [Ty.encs, Ty.enc] at hj4
        subst hj4 hq'
        simp only [ansT]
        generalize Ty.encs fas = rx at *
        repeat' (first | refine uU ?_ | refine zm (fun k' hk' => ?_) | refine zr (fun q' hq' => ?_) | refine uV fun z hz => ?_ | refine uW fun zs hzs => ?_ | refine dq (fun hq => ?_) fun hq => ?_)
        (refine fin_ret ?_; cbv)
    · obtain rfl := len0 (l := l0) (by omega)
      have hq' : q = .ok .unit := by rw [hq]; simp [Tm.node]
      subst hq' hj4
      simp only [ansT]
      rw [show Ty.mk 5 [] = Ty.unit from rfl] at c37
      generalize Ty.unit.enc = rn at *
      repeat' (first | refine uU ?_ | refine zm (fun k' hk' => ?_) | refine zr (fun q' hq' => ?_) | refine uV fun z hz => ?_ | refine uW fun zs hzs => ?_ | refine dq (fun hq => ?_) fun hq => ?_)
      (refine fin_ret ?_; cbv)
theorem call129 (hR : Has R G c129) : ∀ (t : Tm) (r : List Ty), t.ok = true → (∀ s ∈ r, s.err = 0) → r.length + t.size < 2 ^ 20 → (Lim R G).call 129 [.pl (.sl 2 (Ty.encs r.reverse)), .st 5 t.enc] [] = some (ansT (t.inf r), []) := by
  refine Tm.ind fun k i t as ih r ho hr hsz => ?_
  obtain ⟨e1, e2, e3, e4, e5⟩ := Tm.ok_mk ho
  have hw := Tm.want_cases e1
  simp only [Tm.size] at hsz
  have hts := Ty.size_pos t
  by_cases k1 : k = 1
  · subst k1
    unfold Tm.inf
    exact call129v hR r i t as e2 hr (by omega)
  by_cases k2 : k = 2
  · subst k2
    obtain ⟨a, rfl⟩ := len1 (l := as) (by omega)
    have ht := Tm.tyOk_err e4 (.inl rfl)
    simp only [Tm.sizes] at hsz
    have ho1 := (Tm.oks_cons e5).1
    have hr' : ∀ s ∈ t :: r, s.err = 0 := by
      intro s hs
      rcases List.mem_cons.1 hs with rfl | hs
      · exact ht
      · exact hr s hs
    have hc := ih a (by simp) (t :: r) ho1 hr' (by simp only [List.length_cons]; omega)
    rw [List.reverse_cons, Ty.encs_app] at hc
    unfold Tm.inf
    exact call129l hR r i t a hc ht (fun v hv => Tm.inf_err a _ v ho1 hr' hv) (by omega)
  · unfold Tm.inf
    rw [if_neg k1, if_neg k2]
    exact call129n hR r k i t as ho k1 k2 hr (fun a ha => ih a ha r (Tm.oks_mem e5 ha) hr (by have := Tm.size_mem ha; omega))
end
end Eng

