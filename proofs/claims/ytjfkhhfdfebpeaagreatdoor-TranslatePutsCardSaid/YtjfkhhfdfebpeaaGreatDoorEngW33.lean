/- The law TranslatePuts. -/
import Derived.Test.YtjfkhhfdfebpeaaGreatDoorEngT
import Derived.Test.YtjfkhhfdfebpeaaGreatDoorEngTab
import Derived.Test.YtjfkhhfdfebpeaaGreatDoorEngW1
import Derived.Test.YtjfkhhfdfebpeaaGreatDoorEngW13
import Derived.Test.YtjfkhhfdfebpeaaGreatDoorEngW16
import Derived.Test.YtjfkhhfdfebpeaaGreatDoorEngW18
import Derived.Test.YtjfkhhfdfebpeaaGreatDoorEngW19
import Derived.Test.YtjfkhhfdfebpeaaGreatDoorEngW27
import Derived.Test.YtjfkhhfdfebpeaaGreatDoorEngW28
import Derived.Test.YtjfkhhfdfebpeaaGreatDoorEngW29
import Derived.Test.YtjfkhhfdfebpeaaGreatDoorEngW31
import Derived.Test.YtjfkhhfdfebpeaaGreatDoorEngW32
import Derived.Test.YtjfkhhfdfebpeaaGreatDoorEngZ
set_option linter.all false
set_option linter.unusedVariables false
set_option linter.unusedSimpArgs false
set_option maxRecDepth 100000
set_option maxHeartbeats 20000000
namespace Eng
open Go
section
variable {R : RProg} {G : Nat → AV}
theorem call113 (hR : Has R G c113) (l : List Int) : (Lim R G).call 113 [.pl (.sl 1 (l.map fun n => [.int .i64 n]))] [] = some (.pl (.bool (true)), []) := by
  have e2 := call2 (hR.sub (by kernel_rfl))
  have e3 := call3 (hR.sub (by kernel_rfl)) (l.map fun n => [.int .i64 n])
  have e5 := call5 (hR.sub (by kernel_rfl)) (l.map fun n => [.int .i64 n])
  by_cases hl : l.length ≤ 500
  · rw [show (l.map fun n => [PV.int .i64 n]).length = l.length by simp, decide_eq_true hl] at e3
    have s6 : ∃ (r : List Ty) (a' : Int), (Lim R G).call 6 [.ptr 0 0] [dk l 0] = some (.pl (.sl 2 (ctxR r)), [dk l a']) ∧ (0 ≤ a' ∧ a' ≤ 500) ∧ CtxMade 3 3 r := call6 (hR.sub (by kernel_rfl)) l hl 0 (by omega)
    have s17 : ∀ a : Int, 0 ≤ a ∧ a ≤ 500 → ∃ (t : Ty) (a' : Int), (Lim R G).call 17 [.ptr 0 0, .pl (.int .i64 (1))] [dk l a] = some (.st 2 t.enc, [dk l a']) ∧ (0 ≤ a' ∧ a' ≤ 500) ∧ t.Sm 3 := fun a h => call17 (hR.sub (by kernel_rfl)) l hl 1 1 a rfl (by omega) h
    have s7a : ∀ a : Int, 0 ≤ a ∧ a ≤ 500 → ∃ (f : Fm) (a' : Int), (Lim R G).call 7 [.ptr 0 0, .pl (.sl 2 ([])), .pl (.int .i64 (1))] [dk l a] = some (.st 5 f.enc, [dk l a']) ∧ ((0 ≤ a' ∧ a' ≤ 500) ∧ f.size ≤ 1574) ∧ Fm.Gd [] 1574 f ∧ f.nu = true := fun a h => call7z1 (hR.sub (by kernel_rfl)) l hl 1 [] a (by omega) ⟨by simp, by simp⟩ h
    have s7b : ∀ (r : List Ty) (s : Ty) (a : Int), CtxMade 3 3 r → s.Sm 3 → 0 ≤ a ∧ a ≤ 500 → ∃ (f : Fm) (a' : Int), (Lim R G).call 7 [.ptr 0 0, .pl (.sl 2 (ctxR r ++ [s.enc])), .pl (.int .i64 (2))] [dk l a] = some (.st 5 f.enc, [dk l a']) ∧ ((0 ≤ a' ∧ a' ≤ 500) ∧ f.size ≤ 3158) ∧ Fm.Gd (s :: r) 3158 f ∧ f.nu = true := fun r s a hr hs h => by
      rw [← ctxR_cons]
      exact call7z2 (hR.sub (by kernel_rfl)) l hl 2 (s :: r) a (by omega) (((CtxMade.ok hr).cons hs).mono (by omega)) h
    have s21 : ∀ (r : List Ty) (s : Ty) (a : Int), CtxMade 3 3 r → s.Sm 3 → 0 ≤ a ∧ a ≤ 500 → ∃ (u : Tm) (a' : Int), (Lim R G).call 21 [.ptr 0 0, .pl (.sl 2 (ctxR r)), .st 2 s.enc, .pl (.int .i64 (2))] [dk l a] = some (.st 5 u.enc, [dk l a']) ∧ ((0 ≤ a' ∧ a' ≤ 500) ∧ u.size ≤ 726) ∧ Tm.Gd r s 726 u := fun r s a hr hs h => call21t2 (hR.sub (by kernel_rfl)) l hl s 2 r a hs (by omega) ⟨by have := hr.1; omega, hr.2⟩ h
    have e9 := fun a f => call9 (hR.sub (by kernel_rfl)) a f
    have e114 := fun f s => call114 (hR.sub (by kernel_rfl)) f s
    have e115 := fun f => call115 (hR.sub (by kernel_rfl)) f
    have e11 := fun a b => call11 (hR.sub (by kernel_rfl)) a b
    have e116 : ∀ (f : Fm) (r : List Ty) (s : Ty), CtxMade 3 3 r → s.Sm 3 → f.size < 2 ^ 19 → (Lim R G).call 116 [.pl (.sl 2 (ctxR r ++ [s.enc])), .st 5 f.enc] [] = some (.pl (.int .i64 (f.chkE (s :: r))), []) := fun f r s hr hs h => by
      rw [← ctxR_cons]
      refine call116 (hR.sub (by kernel_rfl)) f (s :: r) (fun t ht => ?_) (by have := hr.1; simp only [List.length_cons]; omega) h
      rcases List.mem_cons.1 ht with rfl | ht
      · exact hs.err (by omega)
      · exact (hr.2 t ht).err (by omega)
    have e117 := fun t => call117 (hR.sub (by kernel_rfl)) t
    have hcl := ctxR_len
    refine call_of (hR.at 113 (by kernel_rfl) tab113) (by rfl) ?_
    unfold dk at *
    generalize (l.map fun n => [PV.int .i64 n]) = rs at *
    generalize ctxR = cx at *
    generalize Fm.enc = fe at *
    generalize Tm.enc = te at *
    generalize Ty.enc = ye at *
    repeat' (first | refine uU ?_ | refine zm (fun k' hk' => ?_) | refine zr (fun q' hq' => ?_) | refine uV fun z hz => ?_ | refine uW fun zs hzs => ?_ | refine dq (fun hq => ?_) fun hq => ?_)
    refine dE (by cbv; fail_if_success intros) (by exact s6) ?_
    intro r a1 ⟨ha1, hr⟩
    refine ⟨_, _, _, by cbv, ?_⟩
    repeat' (first | refine uU ?_ | refine zm (fun k' hk' => ?_) | refine zr (fun q' hq' => ?_) | refine uV fun z hz => ?_ | refine uW fun zs hzs => ?_ | refine dq (fun hq => ?_) fun hq => ?_)
    refine dE (by cbv; fail_if_success intros) (by exact s17 _ ha1) ?_
    intro s a2 ⟨ha2, hs⟩
    refine ⟨_, _, _, by cbv, ?_⟩
    repeat' (first | refine uU ?_ | refine zm (fun k' hk' => ?_) | refine zr (fun q' hq' => ?_) | refine uV fun z hz => ?_ | refine uW fun zs hzs => ?_ | refine dq (fun hq => ?_) fun hq => ?_)
    refine dE (by cbv; fail_if_success intros) (by exact s7a _ ha2) ?_
    intro a a3 ⟨⟨ha3, _⟩, hga, _⟩
    refine ⟨_, _, _, by cbv, ?_⟩
    have hcr := hcl r
    have hr3 := hr.1
    have s7b := fun a h => s7b r s a hr hs h
    have s21 := fun a h => s21 r s a hr hs h
    have e116 := fun f h => e116 f r s hr hs h
    generalize hcz : cx r ++ [ye s] = rz at *
    generalize cx r = rc at *
    repeat' (first | refine uU ?_ | refine zm (fun k' hk' => ?_) | refine zr (fun q' hq' => ?_) | refine uV fun z hz => ?_ | refine uW fun zs hzs => ?_ | refine dq (fun hq => ?_) fun hq => ?_)
    rw [hcz] at hzs
    subst hzs
    refine dE (by cbv; fail_if_success intros) (by exact s7b _ ha3) ?_
    intro f a4 ⟨⟨ha4, hfs⟩, hgf, hfn⟩
    refine ⟨_, _, _, by cbv, ?_⟩
    repeat' (first | refine uU ?_ | refine zm (fun k' hk' => ?_) | refine zr (fun q' hq' => ?_) | refine uV fun z hz => ?_ | refine uW fun zs hzs => ?_ | refine dq (fun hq => ?_) fun hq => ?_)
    refine dE (by cbv; fail_if_success intros) (by exact s21 _ ha4) ?_
    intro u a5 ⟨⟨ha5, hus⟩, hgu⟩
    refine ⟨_, _, _, by cbv, ?_⟩
    have law := puts_law (hga.mono (show 1574 ≤ 3158 by omega)) hgf hfn (hgu.mono (show 726 ≤ 3158 by omega)) hr3 (by omega)
    have has := hga.sz
    have h1 := e114 f u (by omega) (by omega)
    have h2 := e9 a f (by omega) (by omega)
    rcases law.x with ex | ex
    · rcases law.y with ey | ey
      · have xs := law.xs ex
        have ys := law.ys ey
        rw [ex, if_pos rfl] at h1
        rw [ey, if_pos rfl] at h2
        have h3 := e9 a (f.inn 0 0 u) (by omega) (by omega)
        have h4 := e114 (f.Tr a) u (by omega) (by omega)
        rcases law.p ex with ep | ep
        · rcases law.q ey with eq | eq
          · obtain ⟨l1, l2, l3, l4, l5, l6, l7, l8⟩ := law.e ex ey eq
            have h5 := e115 f (fun _ => l4) (by omega)
            have h6 := e115 (f.Tr a) (fun _ => l5) (by omega)
            have h8 := e116 (f.Tr a) ys
            have h9 := e117 u (by omega)
            rw [ep, if_pos rfl] at h3
            rw [eq, if_pos rfl] at h4
            rw [l1, if_pos rfl] at h5
            rw [l3, if_pos rfl, l7] at h6
            rw [l8] at h8
            rw [l2] at h9
            have h7 := e11 ((f.Tr a).inn 0 0 u) ((f.Tr a).inn 0 0 u) (by
              obtain ⟨g1, g2, g3, _, g5⟩ := Fm.putE_zero eq
              have o := Fm.inn_ok (Tm.err_ok g2).1 (f.Tr a) 0 0 (Fm.err_ok g1).1 (by omega) (by omega)
              have n := Fm.inn_num (s := u) (f.Tr a) 0 0 (Fm.err_ok g1).1
              rw [show (0 : Int) + 0 = 0 from rfl] at n
              have := Fm.ok_size' o (by omega)
              omega) (by
              obtain ⟨g1, g2, g3, _, g5⟩ := Fm.putE_zero eq
              have o := Fm.inn_ok (Tm.err_ok g2).1 (f.Tr a) 0 0 (Fm.err_ok g1).1 (by omega) (by omega)
              have n := Fm.inn_num (s := u) (f.Tr a) 0 0 (Fm.err_ok g1).1
              rw [show (0 : Int) + 0 = 0 from rfl] at n
              have := Fm.ok_size' o (by omega)
              omega)
            rw [Fm.same_refl] at h7
            rw [l6] at h3
            have hrk : (rowsK (sortK (f.mark 0 []))).length ≤ 4000 := by
              rw [rowsK_len, len_sortK]
              have := Fm.mark_len f 0 []
              simp only [List.length_nil] at this
              omega
            have hget := fun n => @rowsK_get (sortK (f.mark 0 [])) n
            generalize rowsK (sortK (f.mark 0 [])) = rk at *
            generalize (f.Tr a).inn 0 0 u = fp at *
            generalize f.inn 0 0 u = fx at *
            generalize f.Tr a = fy at *
            clear s6 s17 s7a s7b s21 e9 e114 e115 e11 e116 e117 law
            repeat' (first | refine uU ?_ | refine zm (fun k' hk' => ?_) | refine zr (fun q' hq' => ?_) | refine uV fun z hz => ?_ | refine uW fun zs hzs => ?_ | refine dq (fun hq => ?_) fun hq => ?_)
            refine wploop (σ := Int) (fun x => [(141, .pl (.int .i64 (x)))]) (fun _ => []) (fun x => 0 ≤ x ∧ x ≤ rk.length) (fun x => rk.length - x.toNat) 0 (by cbv) ⟨by omega, by omega⟩ (by cbv) ?_
            rintro j ⟨hj1, hj2⟩
            refine wp_at (by cbv) ?_
            by_cases hj : j < rk.length
            · obtain ⟨v, hrow⟩ := hget j.toNat (by omega)
              repeat' (first | refine uU ?_ | refine zm (fun k' hk' => ?_) | refine zr (fun q' hq' => ?_) | refine uV fun z hz => ?_ | refine uW fun zs hzs => ?_ | refine dq (fun hq => ?_) fun hq => ?_)
              exact again_normal z ⟨by omega, by omega⟩ (by omega) (by cbv)
            · repeat' (first | refine uU ?_ | refine zm (fun k' hk' => ?_) | refine zr (fun q' hq' => ?_) | refine uV fun z hz => ?_ | refine uW fun zs hzs => ?_ | refine dq (fun hq => ?_) fun hq => ?_)
              rw [hcz] at hzs
              subst hzs
              repeat' (first | refine uU ?_ | refine zm (fun k' hk' => ?_) | refine zr (fun q' hq' => ?_) | refine uV fun z hz => ?_ | refine uW fun zs hzs => ?_ | refine dq (fun hq => ?_) fun hq => ?_)
              (refine fin_ret ?_; cbv)
          · rw [ep, if_pos rfl] at h3
            rw [eq, if_neg (by decide)] at h4
            generalize (f.inn 0 0 u).Tr a = fq at *
            generalize f.inn 0 0 u = fx at *
            generalize f.Tr a = fy at *
            generalize Fm.zero = f0 at *
            clear s6 s17 s7a s7b s21 e9 e114 e115 e11 e116 e117 law
            repeat' (first | refine uU ?_ | refine zm (fun k' hk' => ?_) | refine zr (fun q' hq' => ?_) | refine uV fun z hz => ?_ | refine uW fun zs hzs => ?_ | refine dq (fun hq => ?_) fun hq => ?_)
            (refine fin_ret ?_; cbv)
        · rw [ep, if_neg (by decide)] at h3
          rcases law.q ey with eq | eq
          · rw [eq, if_pos rfl] at h4
            generalize (f.Tr a).inn 0 0 u = fp at *
            generalize f.inn 0 0 u = fx at *
            generalize f.Tr a = fy at *
            generalize Fm.zero = f0 at *
            clear s6 s17 s7a s7b s21 e9 e114 e115 e11 e116 e117 law
            repeat' (first | refine uU ?_ | refine zm (fun k' hk' => ?_) | refine zr (fun q' hq' => ?_) | refine uV fun z hz => ?_ | refine uW fun zs hzs => ?_ | refine dq (fun hq => ?_) fun hq => ?_)
            (refine fin_ret ?_; cbv)
          · rw [eq, if_neg (by decide)] at h4
            generalize f.inn 0 0 u = fx at *
            generalize f.Tr a = fy at *
            generalize Fm.zero = f0 at *
            clear s6 s17 s7a s7b s21 e9 e114 e115 e11 e116 e117 law
            repeat' (first | refine uU ?_ | refine zm (fun k' hk' => ?_) | refine zr (fun q' hq' => ?_) | refine uV fun z hz => ?_ | refine uW fun zs hzs => ?_ | refine dq (fun hq => ?_) fun hq => ?_)
            (refine fin_ret ?_; cbv)
      · rw [ex, if_pos rfl] at h1
        rw [ey, if_neg (by decide)] at h2
        generalize f.inn 0 0 u = fx at *
        generalize Fm.zero = f0 at *
        clear s6 s17 s7a s7b s21 e9 e114 e115 e11 e116 e117 law
        repeat' (first | refine uU ?_ | refine zm (fun k' hk' => ?_) | refine zr (fun q' hq' => ?_) | refine uV fun z hz => ?_ | refine uW fun zs hzs => ?_ | refine dq (fun hq => ?_) fun hq => ?_)
        (refine fin_ret ?_; cbv)
    · rw [ex, if_neg (by decide)] at h1
      rcases law.y with ey | ey
      · rw [ey, if_pos rfl] at h2
        generalize f.Tr a = fy at *
        generalize Fm.zero = f0 at *
        clear s6 s17 s7a s7b s21 e9 e114 e115 e11 e116 e117 law
        repeat' (first | refine uU ?_ | refine zm (fun k' hk' => ?_) | refine zr (fun q' hq' => ?_) | refine uV fun z hz => ?_ | refine uW fun zs hzs => ?_ | refine dq (fun hq => ?_) fun hq => ?_)
        (refine fin_ret ?_; cbv)
      · rw [ey, if_neg (by decide)] at h2
        generalize Fm.zero = f0 at *
        clear s6 s17 s7a s7b s21 e9 e114 e115 e11 e116 e117 law
        repeat' (first | refine uU ?_ | refine zm (fun k' hk' => ?_) | refine zr (fun q' hq' => ?_) | refine uV fun z hz => ?_ | refine uW fun zs hzs => ?_ | refine dq (fun hq => ?_) fun hq => ?_)
        (refine fin_ret ?_; cbv)
  · rw [show (l.map fun n => [PV.int .i64 n]).length = l.length by simp, decide_eq_false hl] at e3
    refine call_of (hR.at 113 (by kernel_rfl) tab113) (by rfl) ?_
    generalize (l.map fun n => [PV.int .i64 n]) = rs at *
    repeat' (first | refine uU ?_ | refine zm (fun k' hk' => ?_) | refine zr (fun q' hq' => ?_) | refine uV fun z hz => ?_ | refine uW fun zs hzs => ?_ | refine dq (fun hq => ?_) fun hq => ?_)
    (refine fin_ret ?_; cbv)
end
end Eng

