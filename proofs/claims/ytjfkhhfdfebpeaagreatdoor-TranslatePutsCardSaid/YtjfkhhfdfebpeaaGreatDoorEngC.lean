/- The engine, part Q: a call, seen from the caller. -/
import Derived.Test.YtjfkhhfdfebpeaaGreatDoorEngB
import Derived.LoopN
set_option linter.all false
set_option linter.unusedVariables false
set_option linter.unusedSimpArgs false
namespace Eng
open Go
section
variable {X : Ctx} {B : Base} {K K' : Kom} {w w' : World} {hp : Heap} {g g' : Nat → Value} {order : List Nat} {objs objs' : List Obj} {site : Nat}
def gIn (order : List Nat) (g : Nat → Value) : Nat → Value := fun i => match nthN order i with
  | some r => g r
  | none => .nilFunc
theorem gIn_nth {i r : Nat} (h : nthN order i = some r) : gIn order g i = g r := by simp [gIn, h]
theorem rn_in (ho : getOs hp (rnIn hp order) order = some objs) : RnOk (rnIn hp order) hp g (initH 0 objs) (gIn order g) := by
  refine ⟨fun r i n v hp' hl => ?_, fun r i ks hp' hl => ?_, fun r v i v' ho' => ?_⟩
  · obtain ⟨_, h1⟩ := idxOf_nth (show idxOf order r 0 = some i from hp')
    simp only [Nat.sub_zero] at h1
    obtain ⟨o, e1, e2⟩ := (getOs_nth i ho).2 r h1
    rw [hl] at e1
    simp only [Option.some.injEq] at e1; subst e1
    exact ⟨⟨n, _, by rw [lk_init]; exact e2⟩, gIn_nth h1⟩
  · obtain ⟨_, h1⟩ := idxOf_nth (show idxOf order r 0 = some i from hp')
    simp only [Nat.sub_zero] at h1
    obtain ⟨o, e1, e2⟩ := (getOs_nth i ho).2 r h1
    rw [hl] at e1
    simp only [Option.some.injEq] at e1; subst e1
    exact ⟨⟨_, by rw [lk_init]; exact e2⟩, gIn_nth h1⟩
  · simp only [rnIn] at ho'
    split at ho'
    · rename_i v1 i1 hc hi
      cases hb : Nat.beq v1 v with
      | false => rw [hb] at ho'; simp at ho'
      | true =>
        rw [hb] at ho'
        rw [beqN] at hb; subst hb
        simp only [cond_true, Option.some.injEq, Prod.mk.injEq] at ho'
        obtain ⟨rfl, rfl⟩ := ho'
        obtain ⟨_, h1⟩ := idxOf_nth hi
        simp only [Nat.sub_zero] at h1
        obtain ⟨o, e1, e2⟩ := (getOs_nth i1 ho).2 r h1
        rw [curV_verO e1] at hc
        refine ⟨by rw [curV_verO e1]; exact hc, ?_, gIn_nth h1⟩
        rw [curV_verO (show lkH (initH 0 objs) i1 = some _ from by rw [lk_init]; exact e2), verO_renO, hc]
        rfl
    · simp at ho'
theorem relH_in (hh : RelH X.fid K w hp g) (hd : distinctN order = true) (ho : getOs hp (rnIn hp order) order = some objs) : RelH X.fid K w (initH 0 objs) (gIn order g) := by
  have key : ∀ i o, lkH (initH 0 objs) i = some o → ∃ r o1, nthN order i = some r ∧ lkH hp r = some o1 ∧ o = renO (rnIn hp order) 0 o1 := by
    intro i o h
    rw [lk_init] at h
    have hlt := nthO_some h
    rw [(getOs_nth i ho).1] at hlt
    obtain ⟨r, hr⟩ := nthN_lt hlt
    obtain ⟨o1, e1, e2⟩ := (getOs_nth i ho).2 r hr
    rw [h] at e2
    simp only [Option.some.injEq] at e2
    exact ⟨r, o1, hr, e1, e2⟩
  refine ⟨fun i o h => ?_, fun i j o o' b hne h h' hb => ?_⟩
  · obtain ⟨r, o1, e1, e2, rfl⟩ := key i o h
    exact RelO_ren (rn_in ho) (hh.obj r o1 e2) (gIn_nth e1)
  · obtain ⟨r, o1, e1, e2, rfl⟩ := key i o h
    obtain ⟨r', o1', e1', e2', rfl⟩ := key j o' h'
    rw [gIn_nth e1] at hb
    rw [gIn_nth e1']
    refine hh.sep r r' o1 o1' b ?_ e2 e2' hb
    rintro rfl
    exact hne (distinct_nth hd e1 e1')
theorem backAt_lt {i r : Nat} (h : nthN order i = some r) : backAt order site i = r := by simp [backAt, h]
theorem backAt_ge {i : Nat} (h : order.length ≤ i) : backAt order site i = site + (i - order.length) := by simp [backAt, nthN_ge h]
theorem newAts_mem : ∀ {os : List Obj} {k i : Nat}, k ≤ i → i < k + os.length → order.length ≤ i → (site + (i - order.length)) ∈ newAts order site k os
  | [], k, i, h1, h2, _ => by simp at h2; omega
  | o :: os, k, i, h1, h2, h3 => by
    simp only [newAts]
    by_cases e : k = i
    · subst e
      rw [nthN_ge h3]
      simp
    · have := newAts_mem (os := os) (k := k + 1) (i := i) (by omega) (by simp at h2; omega) h3
      split
      · exact this
      · exact List.mem_cons_of_mem _ this
theorem fresh_mem : ∀ {l : List Nat} {r : Nat}, freshAt hp l = true → r ∈ l → lkH hp r = none ∧ 64 ≤ r
  | [], r, _, h => by simp at h
  | x :: l, r, h, hm => by
    obtain ⟨h1, h2, h3⟩ := fresh_cons h
    rcases List.mem_cons.1 hm with rfl | hm
    · exact ⟨h1, h2⟩
    · exact fresh_mem h3 hm
structure BackOk (hp : Heap) (order : List Nat) (site : Nat) (objs' : List Obj) : Prop where
  old : ∀ i r, nthN order i = some r → (lkH hp r).isSome = true
  dist : distinctN order = true
  new : ∀ i, order.length ≤ i → i < objs'.length → lkH hp (site + (i - order.length)) = none ∧ 64 ≤ site + (i - order.length)
theorem BackOk.inj (h : BackOk hp order site objs') {i j : Nat} (hi : i < objs'.length) (hj : j < objs'.length) (e : backAt order site i = backAt order site j) : i = j := by
  by_cases hi' : i < order.length
  · obtain ⟨r, hr⟩ := nthN_lt hi'
    rw [backAt_lt hr] at e
    by_cases hj' : j < order.length
    · obtain ⟨r', hr'⟩ := nthN_lt hj'
      rw [backAt_lt hr'] at e
      subst e
      exact distinct_nth h.dist hr hr'
    · rw [backAt_ge (by omega)] at e
      have h1 := h.old i r hr
      rw [e, (h.new j (by omega) hj).1] at h1
      simp at h1
  · rw [backAt_ge (by omega)] at e
    by_cases hj' : j < order.length
    · obtain ⟨r', hr'⟩ := nthN_lt hj'
      rw [backAt_lt hr'] at e
      have h1 := h.old j r' hr'
      rw [← e, (h.new i (by omega) hi).1] at h1
      simp at h1
    · rw [backAt_ge (by omega)] at e
      omega
theorem lk_updBack {m : Rn} {hp0 : Heap} : ∀ {os : List Obj} {k r : Nat}, (∀ i, k ≤ i → i < k + os.length → backAt order site i ≠ r) → lkH (updBack hp order site m k os ++ hp0) r = lkH hp0 r
  | [], k, r, _ => rfl
  | o :: os, k, r, h => by
    simp only [updBack, List.cons_append]
    rw [lkH_cons_ne _ _ (h k (Nat.le_refl _) (by simp))]
    exact lk_updBack fun i h1 h2 => h i (by omega) (by simp; omega)
theorem lk_updBack_at {m : Rn} {hp0 : Heap} : ∀ {os : List Obj} {k i : Nat} {o : Obj}, (∀ i j, k ≤ i → i < k + os.length → k ≤ j → j < k + os.length → backAt order site i = backAt order site j → i = j) → k ≤ i → nthO os (i - k) = some o →
    lkH (updBack hp order site m k os ++ hp0) (backAt order site i) = some (renO m (backV hp order i) o)
  | [], k, i, o, _, _, h => by simp [nthO] at h
  | x :: os, k, i, o, hinj, hk, h => by
    simp only [updBack, List.cons_append]
    have hlt := nthO_some h
    by_cases e : k = i
    · subst e
      rw [lkH_cons_same]
      simp only [Nat.sub_self, nthO, Option.some.injEq] at h
      rw [h]
    · have hne : backAt order site k ≠ backAt order site i := by
        intro e'
        exact e (hinj k i (Nat.le_refl _) (by simp) hk (by omega) e')
      rw [lkH_cons_ne _ _ hne]
      have h2 : i - k = (i - (k + 1)) + 1 := by omega
      rw [h2] at h
      simp only [nthO] at h
      exact lk_updBack_at (fun i j a b c d => hinj i j (by omega) (by simp; omega) (by omega) (by simp; omega)) (by omega) h
open Classical in
noncomputable def gOut (order : List Nat) (site n : Nat) (g g' : Nat → Value) : Nat → Value := fun r =>
  if h : ∃ i, i < n ∧ backAt order site i = r then g' (choose h) else g r
theorem gOut_at (h : BackOk hp order site objs') {i : Nat} (hi : i < objs'.length) : gOut order site objs'.length g g' (backAt order site i) = g' i := by
  have hex : ∃ j, j < objs'.length ∧ backAt order site j = backAt order site i := ⟨i, hi, rfl⟩
  simp only [gOut, dif_pos hex]
  have := Classical.choose_spec hex
  rw [h.inj this.1 hi this.2]
theorem gOut_ne {r n : Nat} (h : ∀ i, i < n → backAt order site i ≠ r) : gOut order site n g g' r = g r := by
  have : ¬ ∃ i, i < n ∧ backAt order site i = r := fun ⟨i, h1, h2⟩ => h i h1 h2
  simp only [gOut, dif_neg this]
theorem backV_lt {i r : Nat} (h : nthN order i = some r) : backV hp order i = match curV hp r with | some v => v + 1 | none => 0 := by
  unfold backV; rw [h]; rfl
theorem call_out (hm : RelM X B hp g K w) (hd : distinctN order = true) (ho : getOs hp (rnIn hp order) order = some objs) (hf : freshAt hp (newAts order site 0 objs') = true)
    (hfr : Fr (ownedBy (initH 0 objs) (gIn order g)) K w K' w') (hrh : RelH X.fid K' w' (initH 0 objs') g')
    (hown : ∀ r o b, lkH (initH 0 objs') r = some o → blkV (g' r) = some b → ownedBy (initH 0 objs) (gIn order g) b ∨ w.heap.size ≤ b)
    (hkeep : ∀ r o, lkH (initH 0 objs) r = some o → ∃ o', lkH (initH 0 objs') r = some o' ∧ isBox o' = isBox o ∧ (isBox o ≠ 0 → g' r = gIn order g r)) :
    RelM X B (updBack hp order site (rnBack hp order site objs') 0 objs' ++ hp) (gOut order site objs'.length g g') K' w' ∧
    HGo hp g (updBack hp order site (rnBack hp order site objs') 0 objs' ++ hp) (gOut order site objs'.length g g') ∧
    RnOk (rnBack hp order site objs') (initH 0 objs') g' (updBack hp order site (rnBack hp order site objs') 0 objs' ++ hp) (gOut order site objs'.length g g') := by
  have hlen : objs.length = order.length := (getOs_nth 0 ho).1
  have hbo : BackOk hp order site objs' := by
    refine ⟨fun i r hr => ?_, hd, fun i h1 h2 => fresh_mem hf (newAts_mem (Nat.zero_le _) (by omega) h1)⟩
    obtain ⟨o, e, _⟩ := (getOs_nth i ho).2 r hr
    rw [e]; rfl
  have hinj : ∀ i j, 0 ≤ i → i < 0 + objs'.length → 0 ≤ j → j < 0 + objs'.length → backAt order site i = backAt order site j → i = j := fun i j _ h1 _ h2 e => hbo.inj (by omega) (by omega) e
  have hat : ∀ i o, nthO objs' i = some o → lkH (updBack hp order site (rnBack hp order site objs') 0 objs' ++ hp) (backAt order site i) = some (renO (rnBack hp order site objs') (backV hp order i) o) := fun i o h =>
    lk_updBack_at hinj (Nat.zero_le _) (by simpa using h)
  have hne : ∀ r, (∀ i, i < objs'.length → backAt order site i ≠ r) → lkH (updBack hp order site (rnBack hp order site objs') 0 objs' ++ hp) r = lkH hp r := fun r h => lk_updBack fun i _ h2 => h i (by omega)
  have hin : ∀ i r, nthN order i = some r → ∃ o o', lkH hp r = some o ∧ nthO objs' i = some o' ∧ isBox o' = isBox o ∧ (isBox o ≠ 0 → g' i = g r) := by
    intro i r hr
    obtain ⟨o, e1, e2⟩ := (getOs_nth i ho).2 r hr
    obtain ⟨o', f1, f2, f3⟩ := hkeep i _ (by rw [lk_init]; exact e2)
    rw [lk_init] at f1
    rw [isBox_renO] at f2 f3
    exact ⟨o, o', e1, f1, f2, fun h => by rw [f3 h, gIn_nth hr]⟩
  have hgo : HGo hp g (updBack hp order site (rnBack hp order site objs') 0 objs' ++ hp) (gOut order site objs'.length g g') := by
    intro r o hr
    by_cases hex : ∃ i, i < objs'.length ∧ backAt order site i = r
    · obtain ⟨i, hi, rfl⟩ := hex
      have hil : i < order.length := by
        by_cases h : i < order.length
        · exact h
        · rw [backAt_ge (by omega), (hbo.new i (by omega) hi).1] at hr
          simp at hr
      obtain ⟨r, hri⟩ := nthN_lt hil
      have hb := backAt_lt (site := site) hri
      obtain ⟨o1, o', q1, q2, q3, q4⟩ := hin i r hri
      have hl := hat i o' q2
      have hg := gOut_at (g := g) (g' := g') hbo hi
      rw [hb] at hl hg hr ⊢
      rw [hr] at q1
      simp only [Option.some.injEq] at q1; subst q1
      have hver : verO (renO (rnBack hp order site objs') (backV hp order i) o') = (verO o').map fun _ => backV hp order i := verO_renO _ _ _
      cases o with
      | box n v =>
        cases o' with
        | box n' v' => exact ⟨⟨_, _, hl⟩, by rw [hg]; exact q4 (by simp [isBox])⟩
        | _ => simp [isBox] at q3
      | set ks =>
        cases o' with
        | set ks' => exact ⟨⟨_, hl⟩, by rw [hg]; exact q4 (by simp [isBox])⟩
        | _ => simp [isBox] at q3
      | buf sz rows v =>
        have hv : verO o' = none ∨ ∃ u, verO o' = some u := by cases verO o' <;> simp
        rcases hv with hv | ⟨u, hv⟩
        · exact absurd (q3.trans rfl) (isBox_verO hv)
        · have hcv : curV (updBack hp order site (rnBack hp order site objs') 0 objs' ++ hp) r = some (v + 1) := by
            rw [curV_verO hl, hver, hv]
            simp [backV_lt hri, curV_buf hr]
          exact ⟨v + 1, hcv, by omega, fun e => by omega⟩
      | bufo sz rows v =>
        have hv : verO o' = none ∨ ∃ u, verO o' = some u := by cases verO o' <;> simp
        rcases hv with hv | ⟨u, hv⟩
        · exact absurd (q3.trans rfl) (isBox_verO hv)
        · have hcv : curV (updBack hp order site (rnBack hp order site objs') 0 objs' ++ hp) r = some (v + 1) := by
            rw [curV_verO hl, hver, hv]
            simp [backV_lt hri, curV_bufo hr]
          exact ⟨v + 1, hcv, by omega, fun e => by omega⟩
    · have hno : ∀ i, i < objs'.length → backAt order site i ≠ r := fun i h1 h2 => hex ⟨i, h1, h2⟩
      have := HGo.refl hp g r o hr
      have hl' := hne r hno
      have hc : curV (updBack hp order site (rnBack hp order site objs') 0 objs' ++ hp) r = curV hp r := by simp only [curV, hl']
      have hg := gOut_ne (g := g) (g' := g') hno
      cases o <;> simp only [hl', hc, hg] at this ⊢ <;> exact this
  have hrn : RnOk (rnBack hp order site objs') (initH 0 objs') g' (updBack hp order site (rnBack hp order site objs') 0 objs' ++ hp) (gOut order site objs'.length g g') := by
    refine ⟨fun i r' n v hp' hl => ?_, fun i r' ks hp' hl => ?_, fun i v r' v' ho' => ?_⟩
    · simp only [rnBack, Option.some.injEq] at hp'; subst hp'
      rw [lk_init] at hl
      exact ⟨⟨n, _, hat i _ hl⟩, gOut_at hbo (nthO_some hl)⟩
    · simp only [rnBack, Option.some.injEq] at hp'; subst hp'
      rw [lk_init] at hl
      exact ⟨⟨_, hat i _ hl⟩, gOut_at hbo (nthO_some hl)⟩
    · simp only [rnBack] at ho'
      split at ho'
      · rename_i o hn
        split at ho'
        · rename_i v1 hv1
          cases hb : Nat.beq v1 v with
          | false => rw [hb] at ho'; simp at ho'
          | true =>
            rw [hb] at ho'
            rw [beqN] at hb; subst hb
            simp only [cond_true, Option.some.injEq, Prod.mk.injEq] at ho'
            obtain ⟨rfl, rfl⟩ := ho'
            refine ⟨by rw [curV_verO (show lkH (initH 0 objs') i = some o from by rw [lk_init]; exact hn)]; exact hv1, ?_, gOut_at hbo (nthO_some hn)⟩
            rw [curV_verO (hat i o hn), verO_renO, hv1]
            rfl
        · simp at ho'
      · simp at ho'
  refine ⟨?_, hgo, hrn⟩
  have hblk : ∀ b, ownedBy (initH 0 objs) (gIn order g) b → ∃ i r o, nthN order i = some r ∧ lkH hp r = some o ∧ blkV (g r) = some b := by
    rintro b ⟨i, o, h1, h2⟩
    rw [lk_init] at h1
    have hlt := nthO_some h1
    rw [hlen] at hlt
    obtain ⟨r, hr⟩ := nthN_lt hlt
    obtain ⟨o1, e1, _⟩ := (getOs_nth i ho).2 r hr
    rw [gIn_nth hr] at h2
    exact ⟨i, r, o1, hr, e1, h2⟩
  refine hm.change hfr.keep hgo ?_ (fun r => ∃ i, i < objs'.length ∧ backAt order site i = r) (fun r o hC hl => ?_) (fun r o hC hl => ?_)
  · refine hm.fr.step hfr.keep hfr.os hfr.tape hfr.output hfr.size fun b hb hn => ?_
    have hs := hm.fr.size
    refine hfr.blk b (by omega) fun hob => ?_
    obtain ⟨i, r, o, e1, e2, e3⟩ := hblk b hob
    rcases hm.own r o b e2 e3 with q | q
    · exact hn q
    · omega
  · have hno : ∀ i, i < objs'.length → backAt order site i ≠ r := fun i h1 h2 => hC ⟨i, h1, h2⟩
    rw [hne r hno] at hl
    refine ⟨hl, gOut_ne hno, fun b hb => hfr.blk b (hm.lt hl hb) fun hob => ?_⟩
    obtain ⟨i, r', o', e1, e2, e3⟩ := hblk b hob
    have hrr : r' ≠ r := by
      rintro rfl
      obtain ⟨o1, o1', _, q2, _⟩ := hin i r' e1
      exact hno i (nthO_some q2) (backAt_lt e1)
    exact hm.rh.sep r' r o' o b hrr e2 hl e3 hb
  · obtain ⟨i, hi, rfl⟩ := hC
    obtain ⟨oi, hoi⟩ := nthO_lt hi
    rw [hat i oi hoi] at hl
    simp only [Option.some.injEq] at hl; subst hl
    have hg := gOut_at (g := g) (g' := g') hbo hi
    refine ⟨RelO_ren hrn (hrh.obj i oi (by rw [lk_init]; exact hoi)) hg, fun b hb => ?_, fun h64 => ?_⟩
    · rw [hg] at hb
      have hown' := hown i oi b (by rw [lk_init]; exact hoi) hb
      refine ⟨?_, fun r' o' hne' hr' => ?_⟩
      · rcases hown' with q | q
        · obtain ⟨j, r, o, e1, e2, e3⟩ := hblk b q
          exact hm.own r o b e2 e3
        · exact .inr (by have := hm.fr.size; omega)
      · by_cases hC' : ∃ j, j < objs'.length ∧ backAt order site j = r'
        · obtain ⟨j, hj, rfl⟩ := hC'
          obtain ⟨oj, hoj⟩ := nthO_lt hj
          rw [gOut_at hbo hj]
          refine hrh.sep i j oi oj b ?_ (by rw [lk_init]; exact hoi) (by rw [lk_init]; exact hoj) hb
          rintro rfl
          exact hne' rfl
        · have hno : ∀ j, j < objs'.length → backAt order site j ≠ r' := fun j h1 h2 => hC' ⟨j, h1, h2⟩
          rw [hne r' hno] at hr'
          rw [gOut_ne hno]
          intro hb'
          rcases hown' with q | q
          · obtain ⟨j, r, o, e1, e2, e3⟩ := hblk b q
            have hrr : r ≠ r' := by
              rintro rfl
              obtain ⟨o1, o1', _, q2, _⟩ := hin j r e1
              exact hno j (nthO_some q2) (backAt_lt e1)
            exact hm.rh.sep r r' o o' b hrr e2 hr' e3 hb'
          · have := hm.lt hr' hb'; omega
    · have hil : i < order.length := by
        by_cases h : i < order.length
        · exact h
        · rw [backAt_ge (by omega)] at h64
          have := (hbo.new i (by omega) hi).2
          omega
      obtain ⟨r, hri⟩ := nthN_lt hil
      obtain ⟨o1, o', q1, q2, q3, q4⟩ := hin i r hri
      rw [hoi] at q2
      simp only [Option.some.injEq] at q2; subst q2
      rw [backAt_lt hri] at hg ⊢
      exact ⟨o1, q1, by rw [isBox_renO]; exact q3, fun h => by rw [hg]; exact q4 (by rw [← q3]; rw [isBox_renO] at h; exact h)⟩
end
end Eng

namespace Eng
open Go
def Enters (X : Ctx) (f : Nat) : Prop := ∃ fn, X.P.funcs[X.fid f]? = some fn ∧ (fn.name == "runtime.NumGoroutine") = false ∧ fn.body.isNone = false
def SpOk (X : Ctx) (S : Sp) : Prop := ∀ f args h res h', S.call f args h = some (res, h') → Enters X f ∧ CallOk X f args h res h'
section
variable {X : Ctx} {B : Base} {s : St} {g : Nat → Value} {K : Kom} {w : World} {a : Act}
def OpGood (X : Ctx) (B : Base) (hp : Heap) (g : Nat → Value) (K : Kom) (w : World) (a : Act) (o : Oper) (v : AV) (upd : Heap) : Prop :=
  ∀ (next : Act → World → Prop) (Q : Exit → Act → World → Prop),
    (∀ c w' K' g', RelM X B (upd ++ hp) g' K' w' → Keep K w K' w' → HGo hp g (upd ++ hp) g' → RelA X.fid K' w' (upd ++ hp) g' v c → next (a.put o.dst c) w') → o.wp X.P a w next Q
theorem OpRun.good {hp : Heap} {o : Oper} {v : AV} {upd : Heap} (h : OpRun X B hp g K w a o v upd) : OpGood X B hp g K w a o v upd := by
  intro next Q hn
  obtain ⟨c, w', K', g', hr, h1, h2, h3, h4⟩ := h
  unfold Oper.wp
  rcases hr with hr | ⟨hr, rfl⟩
  · rw [hr]
    exact hn c w' K' g' h1 h2 h3 h4
  · rw [hr]
    exact hn undef w' K' g' h1 h2 h3 h4
theorem exec_value {o : Oper} {c : Call} {f : Operand} {k : FuncId} {caps : Array Value} {fn : Func} (ho : o.op = .call c) (hc : c.callee = .value f) (hf : a.eval f = .func (.func k) #[] caps) (h1 : X.P.funcs[k]? = some fn)
    (h2 : (fn.name == "runtime.NumGoroutine") = false) (h3 : fn.body.isNone = false) : (execOp a.eval o).run X.P w = .ok (.enter k (c.args.map a.eval ++ caps)) w := by
  simp only [execOp, ho, resolve, hc, hf, Deferred.ofValue, Sem.run_bind, Sem.run_pure, Result.andThen_ok, invoke, callFunc, run_program, h1, h2, h3, Bool.false_eq_true, if_false, Array.empty_append]
theorem call_good {S : Sp} (hS : SpOk X S) (hs : RelS X B s g K w a) {o : Oper} {site f : Nat} {args : List AV} {k : FuncId} {cargs : Array Value} {res : Res} (hk : X.fid f = k)
    (hrun : ∀ fn, X.P.funcs[k]? = some fn → (fn.name == "runtime.NumGoroutine") = false → fn.body.isNone = false → (execOp a.eval o).run X.P w = .ok (.enter k cargs) w)
    (ha : RelAs X.fid K w s.hp g args cargs.toList) (h : callOp S s.hp site f args = some res) : OpGood X B s.hp g K w a o res.v res.upd := by
  unfold callOp at h
  dsimp only at h
  split at h
  · simp at h
  · rename_i order hor
    cases hb : (distinctN order && Nat.ble order.length 64) with
    | false => rw [hb] at h; simp at h
    | true =>
      rw [hb] at h
      simp only [Bool.and_eq_true, bleN] at hb
      obtain ⟨hd, h64⟩ := hb
      simp only [cond_true] at h
      split at h
      · simp at h
      · rename_i objs ho
        split at h
        · simp at h
        · rename_i r objs' hcall
          cases hf : freshAt s.hp (newAts order site 0 objs') with
          | false => rw [hf] at h; simp at h
          | true =>
            rw [hf] at h
            simp only [cond_true, Option.some.injEq] at h; subst h
            obtain ⟨⟨fn, e1, e2, e3⟩, hok⟩ := hS _ _ _ _ _ hcall
            rw [hk] at e1
            have hx := hrun fn e1 e2 e3
            have hlen := (getOs_nth 0 ho).1
            have hcalls := hok w K (gIn order g) cargs (relH_in hs.mem.rh hd ho) hs.mem.gl (renL_rel (rn_in ho) _ _ (frzT_rel hs.mem.rh ha)) (by omega)
            intro next Q hn
            unfold Oper.wp
            rw [hx, Oper.upon_enter]
            rw [hk] at hcalls
            refine hcalls.mono ?_
            rintro e w' ⟨c, K', g', rfl, hfr, hgl, hrh, hra, hown, hkeep⟩
            obtain ⟨q1, q2, q3⟩ := call_out (site := site) hs.mem hd ho hf hfr hrh hown hkeep
            exact hn c w' K' _ q1 hfr.keep q2 (ren_rel q3 _ _ hra)
theorem op_good {S : Sp} (hS : SpOk X S) (hs : RelS X B s g K w a) {r : ROp} {o : Oper} {res : Res} (hc : chkOp X r o.op = true) (hstep : stepOp S X.G s.env s.hp r = some res) : OpGood X B s.hp g K w a o res.v res.upd := by
  by_cases hn : callsR r = false
  · exact (op_run hs hc hn hstep).good
  · cases r with
    | call site f args =>
      simp only [stepOp] at hstep
      cases hop : o.op with
      | call c =>
        rw [hop] at hc
        simp only [chkOp, Bool.and_eq_true] at hc
        obtain ⟨h1, h2⟩ := hc
        split at h1
        · rename_i k hcal
          simp only [decide_eq_true_eq] at h1
          have ha := opds_rel hs h2
          refine call_good hS hs (cargs := c.args.map a.eval ++ #[]) h1 (fun fn e1 e2 e3 => exec_value hop hcal rfl e1 e2 e3) ?_ hstep
          simpa using ha
        · simp at h1
      | _ => rw [hop] at hc; simp [chkOp] at hc
    | callv site f args =>
      simp only [stepOp] at hstep
      cases hop : o.op with
      | call c =>
        rw [hop] at hc
        simp only [chkOp, Bool.and_eq_true] at hc
        obtain ⟨h1, h2⟩ := hc
        split at h1
        · rename_i y hcal
          split at hstep
          · rename_i k caps hv
            have ha := opds_rel hs h2
            have hfv := opd_rel hs h1
            rw [hv] at hfv
            simp only [RelA] at hfv
            obtain ⟨arr, e, hcaps⟩ := hfv
            refine call_good hS hs (cargs := c.args.map a.eval ++ arr) rfl (fun fn e1 e2 e3 => exec_value hop hcal e e1 e2 e3) ?_ hstep
            have := RelAs_append ha hcaps
            simpa using this
          · simp at hstep
        · simp at h1
      | _ => rw [hop] at hc; simp [chkOp] at hc
    | _ => simp [callsR] at hn
end
end Eng

namespace Eng
open Go
def slotO : Opd → List Nat
  | .t i => [i]
  | _ => []
def slotOs : List Opd → List Nat
  | [] => []
  | x :: xs => slotO x ++ slotOs xs
def slotOpt : Option Opd → List Nat
  | none => []
  | some x => slotO x
def slotPs : List (Nat × Nat × Opd) → List Nat
  | [] => []
  | (_, _, x) :: ps => slotO x ++ slotPs ps
def slotR : ROp → List Nat
  | .mov x => slotO x
  | .nilb _ _ => []
  | .pick x y z => slotO x ++ slotO y ++ slotO z
  | .box _ _ x => slotO x
  | .alloc .. => []
  | .load _ _ x => slotO x
  | .store _ x y => slotO x ++ slotO y
  | .fadd x _ => slotO x
  | .iadd _ x y => slotO x ++ slotO y
  | .iarr _ _ x y => slotO x ++ slotO y
  | .fld x _ _ _ => slotO x
  | .build _ _ ps => slotPs ps
  | .bsl _ xs => slotOs xs
  | .bslo _ _ xs => slotOs xs
  | .bin _ x y => slotO x ++ slotO y
  | .binb _ x y => slotO x ++ slotO y
  | .un _ x => slotO x
  | .conv _ x => slotO x
  | .len x => slotO x
  | .lens x => slotO x
  | .slc _ x lo hi mx => slotO x ++ slotOpt lo ++ slotOpt hi ++ slotOpt mx
  | .app _ x y => slotO x ++ slotO y
  | .appo _ x y => slotO x ++ slotO y
  | .appn _ _ y => slotO y
  | .ext x _ => slotO x
  | .mkf _ xs => slotOs xs
  | .call _ _ xs => slotOs xs
  | .callv _ f xs => slotO f ++ slotOs xs
  | .chk x => slotO x
  | .min2 x y => slotO x ++ slotO y
  | .max2 x y => slotO x ++ slotO y
  | .mset _ => []
  | .mput x y => slotO x ++ slotO y
  | .srt x => slotO x
section
variable {G : Nat → AV} {env env' : List (Nat × AV)} {hp hp' : Heap}
theorem opd_local {x : Opd} (h : ∀ t ∈ slotO x, lkE env' t = lkE env t) : opd G env' x = opd G env x := by
  cases x <;> simp [opd, slotO] at h ⊢
  exact h
theorem opds_local : ∀ {xs : List Opd}, (∀ t ∈ slotOs xs, lkE env' t = lkE env t) → opds G env' xs = opds G env xs
  | [], _ => rfl
  | x :: xs, h => by
    simp only [opds, slotOs, List.mem_append] at h ⊢
    rw [opd_local fun t ht => h t (.inl ht), opds_local fun t ht => h t (.inr ht)]
theorem fillAV_local : ∀ {ps : List (Nat × Nat × Opd)} {z : List AV}, (∀ t ∈ slotPs ps, lkE env' t = lkE env t) → fillAV G env' z ps = fillAV G env z ps
  | [], _, _ => rfl
  | (off, n, x) :: ps, z, h => by
    simp only [slotPs, List.mem_append] at h
    simp only [fillAV]
    rw [opd_local fun t ht => h t (.inl ht)]
    cases (Nat.beq (sizeAV (opd G env x)) n && Nat.ble (off + n) z.length && Nat.blt 0 n) with
    | false => rfl
    | true => exact fillAV_local fun t ht => h t (.inr ht)
theorem optI_local {d : Int} {x : Option Opd} (h : ∀ t ∈ slotOpt x, lkE env' t = lkE env t) : optI G env' d x = optI G env d x := by
  cases x with
  | none => rfl
  | some x => simp only [optI]; rw [opd_local h]
theorem curV_local {r : Nat} (h : lkH hp' r = lkH hp r) : curV hp' r = curV hp r := by simp [curV, h]
theorem rowsOf_local {v : AV} (h : ∀ r ∈ rdF v, lkH hp' r = lkH hp r) : rowsOf hp' v = rowsOf hp v := by
  cases v with
  | own r v => simp only [rowsOf, rdF, List.mem_singleton] at h ⊢; rw [h r rfl]
  | pl p => cases p <;> rfl
  | _ => rfl
theorem frz1_local {v : AV} (h : ∀ r ∈ ptrs v, lkH hp' r = lkH hp r) : frz1 hp' v = frz1 hp v := by
  cases v with
  | own r v =>
    simp only [frz1]
    rw [rowsOf_local (v := .own r v) fun x hx => h x (by simpa [rdF, ptrs] using hx)]
  | _ => rfl
theorem frzL_local : ∀ {vs : List AV}, (∀ r ∈ ptrsL vs, lkH hp' r = lkH hp r) → frzL hp' vs = frzL hp vs
  | [], _ => rfl
  | v :: vs, h => by
    simp only [ptrsL, List.mem_append] at h
    simp only [frzL]
    rw [frz1_local fun r hr => h r (.inl hr), frzL_local fun r hr => h r (.inr hr)]
theorem frz_local {v : AV} (h : ∀ r ∈ rdF v, lkH hp' r = lkH hp r) : frz hp' v = frz hp v := by
  cases v with
  | agg cs => simp only [frz]; rw [frzL_local fun r hr => h r (by simpa [rdF] using hr)]
  | own r v => simp only [frz]; exact frz1_local fun x hx => h x (by simpa [rdF, ptrs] using hx)
  | _ => rfl
theorem frzT_local : ∀ {vs : List AV}, (∀ r ∈ rdFs vs, lkH hp' r = lkH hp r) → frzT hp' vs = frzT hp vs
  | [], _ => rfl
  | v :: vs, h => by
    simp only [rdFs, List.mem_append] at h
    simp only [frzT]
    rw [frz_local fun r hr => h r (.inl hr), frzT_local fun r hr => h r (.inr hr)]
theorem rowsIn_local {sz : Nat} : ∀ {vs : List AV}, (∀ r ∈ rdFs vs, lkH hp' r = lkH hp r) → rowsIn hp' sz vs = rowsIn hp sz vs
  | [], _ => rfl
  | v :: vs, h => by
    simp only [rdFs, List.mem_append] at h
    simp only [rowsIn]
    rw [frz_local fun r hr => h r (.inl hr), rowsIn_local fun r hr => h r (.inr hr)]
theorem freshAt_local : ∀ {l : List Nat}, (∀ r ∈ l, lkH hp' r = lkH hp r) → freshAt hp' l = freshAt hp l
  | [], _ => rfl
  | x :: l, h => by
    simp only [freshAt]
    rw [h x (by simp), freshAt_local fun r hr => h r (by simp [hr])]
theorem reach_seen : ∀ (n : Nat) {todo seen order : List Nat}, reach hp n todo seen = some order → ∀ r ∈ seen, r ∈ order
  | 0, _, _, _, h => by simp [reach] at h
  | n + 1, [], seen, order, h => by
    simp only [reach, Option.some.injEq] at h; subst h
    exact fun r hr => hr
  | n + 1, r :: todo, seen, order, h => by
    simp only [reach] at h
    cases hm : memN seen r with
    | true => rw [hm] at h; exact reach_seen n (by simpa using h)
    | false =>
      rw [hm] at h
      simp only [cond_false] at h
      split at h
      · intro x hx
        exact reach_seen n h x (by simp [hx])
      · simp at h
theorem reach_local : ∀ (n : Nat) {todo seen order : List Nat}, reach hp n todo seen = some order → (∀ r ∈ order, lkH hp' r = lkH hp r) → reach hp' n todo seen = some order
  | 0, _, _, _, h, _ => by simp [reach] at h
  | n + 1, [], seen, order, h, _ => by simpa [reach] using h
  | n + 1, r :: todo, seen, order, h, hl => by
    simp only [reach] at h ⊢
    cases hm : memN seen r with
    | true =>
      rw [hm] at h
      simp only [cond_true] at h ⊢
      exact reach_local n h hl
    | false =>
      rw [hm] at h
      simp only [cond_false] at h ⊢
      split at h
      · rename_i o ho
        have hr : r ∈ order := reach_seen n h r (by simp)
        rw [hl r hr, ho]
        exact reach_local n h hl
      · simp at h
theorem idxOf_mem : ∀ {l : List Nat} {r k i : Nat}, idxOf l r k = some i → r ∈ l := fun h => (nthN_some (idxOf_nth h).2).2
theorem rnIn_local {order : List Nat} (h : ∀ r ∈ order, lkH hp' r = lkH hp r) : rnIn hp' order = rnIn hp order := by
  unfold rnIn
  congr 1
  funext r v
  cases hi : idxOf order r 0 with
  | none =>
    cases curV hp' r <;> cases curV hp r <;> rfl
  | some i => rw [curV_local (h r (idxOf_mem hi))]
theorem getOs_local {m : Rn} : ∀ {l : List Nat}, (∀ r ∈ l, lkH hp' r = lkH hp r) → getOs hp' m l = getOs hp m l
  | [], _ => rfl
  | x :: l, h => by
    simp only [getOs]
    rw [h x (by simp), getOs_local fun r hr => h r (by simp [hr])]
theorem backV_local {order : List Nat} (h : ∀ r ∈ order, lkH hp' r = lkH hp r) (i : Nat) : backV hp' order i = backV hp order i := by
  unfold backV
  cases hn : nthN order i with
  | none => rfl
  | some r => simp only [curV_local (h r (nthN_some hn).2)]
theorem rnBack_local {order : List Nat} {site : Nat} {objs : List Obj} (h : ∀ r ∈ order, lkH hp' r = lkH hp r) : rnBack hp' order site objs = rnBack hp order site objs := by
  unfold rnBack
  congr 1
  funext i v
  simp only [backV_local h]
theorem updBack_local {order : List Nat} {site : Nat} {m : Rn} (h : ∀ r ∈ order, lkH hp' r = lkH hp r) : ∀ {os : List Obj} {k : Nat}, updBack hp' order site m k os = updBack hp order site m k os
  | [], _ => rfl
  | o :: os, k => by simp only [updBack, backV_local h, updBack_local h]
theorem callOp_local {S : Sp} {site f : Nat} {args : List AV} {res : Res} (h : callOp S hp site f args = some res) (hl : ∀ r ∈ res.rd, lkH hp' r = lkH hp r) : callOp S hp' site f args = some res := by
  unfold callOp at h ⊢
  dsimp only at h ⊢
  split at h
  · simp at h
  · rename_i order hor
    cases hb : (distinctN order && Nat.ble order.length 64) with
    | false => rw [hb] at h; simp at h
    | true =>
      rw [hb] at h
      simp only [cond_true] at h
      split at h
      · simp at h
      · rename_i objs ho
        split at h
        · simp at h
        · rename_i r objs' hcall
          cases hf : freshAt hp (newAts order site 0 objs') with
          | false => rw [hf] at h; simp at h
          | true =>
            rw [hf] at h
            simp only [cond_true, Option.some.injEq] at h; subst h
            simp only [List.mem_append] at hl
            have h1 : ∀ r ∈ rdFs args, lkH hp' r = lkH hp r := fun r hr => hl r (.inl (.inl hr))
            have h2 : ∀ r ∈ order, lkH hp' r = lkH hp r := fun r hr => hl r (.inl (.inr hr))
            have h3 : ∀ r ∈ newAts order site 0 objs', lkH hp' r = lkH hp r := fun r hr => hl r (.inr hr)
            rw [frzT_local h1, reach_local _ hor h2]
            simp only [hb, cond_true, rnIn_local h2, getOs_local h2, ho, hcall, freshAt_local h3, hf, rnBack_local h2, updBack_local h2]
set_option maxHeartbeats 1000000 in
theorem stepOp_local {S : Sp} {r : ROp} {res : Res} (h : stepOp S G env hp r = some res) (he : ∀ t ∈ slotR r, lkE env' t = lkE env t) (hl : ∀ x ∈ res.rd, lkH hp' x = lkH hp x) : stepOp S G env' hp' r = some res := by
  cases r with
  | mov x => simp only [stepOp, slotR] at h he ⊢; rw [opd_local he]; exact h
  | nilb r sz =>
    simp only [stepOp] at h ⊢
    cases hf : freshAt hp [r] with
    | false => rw [hf] at h; simp at h
    | true =>
      rw [hf] at h
      simp only [cond_true, Option.some.injEq] at h; subst h
      rw [freshAt_local hl, hf]; rfl
  | mset r =>
    simp only [stepOp] at h ⊢
    cases hf : freshAt hp [r] with
    | false => rw [hf] at h; simp at h
    | true =>
      rw [hf] at h
      simp only [cond_true, Option.some.injEq] at h; subst h
      rw [freshAt_local hl, hf]; rfl
  | mput x y =>
    simp only [slotR, List.mem_append] at he
    simp only [stepOp] at h ⊢
    rw [opd_local (x := x) fun t ht => he t (.inl ht), opd_local (x := y) fun t ht => he t (.inr ht)]
    split at h
    · rename_i r n hv hi
      split at h
      · rename_i ks hlk
        simp only [Option.some.injEq] at h; subst h
        simp only [hl r (by simp), hlk, hi]
      · simp at h
    · simp at h
  | srt x =>
    simp only [slotR] at he
    simp only [stepOp] at h ⊢
    rw [opd_local he]
    split at h
    · rename_i r hv
      split at h
      · rename_i ks hlk
        cases hb : decide (ks.length < 2 ^ 32) with
        | false => rw [hb] at h; simp at h
        | true =>
          rw [hb] at h
          simp only [cond_true, Option.some.injEq] at h; subst h
          simp only [hl r (by simp), hlk, hb, cond_true]
      · simp at h
    · simp at h
  | pick x y z =>
    simp only [slotR, List.mem_append] at he
    simp only [stepOp] at h ⊢
    rw [opd_local (x := x) fun t ht => he t (.inl (.inl ht)), opd_local (x := y) fun t ht => he t (.inl (.inr ht)), opd_local (x := z) fun t ht => he t (.inr ht)]
    exact h
  | box r n x =>
    simp only [slotR] at he
    simp only [stepOp] at h ⊢
    rw [opd_local he]
    cases hf : (freshAt hp [r] && Nat.beq (sizeAV (opd G env x)) n && Nat.blt 0 n) with
    | false => rw [hf] at h; simp at h
    | true =>
      rw [hf] at h
      simp only [cond_true, Option.some.injEq] at h; subst h
      rw [freshAt_local hl, hf]; rfl
  | alloc r n z bs =>
    simp only [stepOp] at h ⊢
    cases hf : (freshAt hp (r :: bufAts bs) && distinctN (r :: bufAts bs) && Nat.beq (sizeAV z) n && Nat.blt 0 n) with
    | false => rw [hf] at h; simp at h
    | true =>
      rw [hf] at h
      simp only [cond_true, Option.some.injEq] at h; subst h
      rw [freshAt_local hl, hf]; rfl
  | load n ag x =>
    simp only [slotR] at he
    simp only [stepOp] at h ⊢
    rw [opd_local he]
    split at h
    · rename_i r off hv
      split at h
      · rename_i m v hlk
        split at h
        · rename_i u hp1
          simp only [Option.some.injEq] at h; subst h
          simp only [hl r (by simp), hlk, hp1]
        · simp at h
      · simp at h
    · exact h
    · simp at h
  | store n x y =>
    simp only [slotR, List.mem_append] at he
    simp only [stepOp] at h ⊢
    rw [opd_local (x := x) fun t ht => he t (.inl ht), opd_local (x := y) fun t ht => he t (.inr ht)]
    split at h
    · rename_i r off hv
      split at h
      · rename_i m v hlk
        split at h
        · rename_i u hp1
          simp only [Option.some.injEq] at h; subst h
          simp only [hl r (by simp), hlk, hp1]
        · simp at h
      · simp at h
    · rename_i r v hv
      split at h
      · rename_i sz rows v' hlk
        cases hb : (Nat.beq v' v && Nat.beq n sz && Nat.beq (sizeAV (frz hp (opd G env y))) n) with
        | false => rw [hb] at h; simp at h
        | true =>
          rw [hb] at h
          simp only [cond_true] at h
          split at h
          · rename_i row hr
            simp only [Option.some.injEq] at h; subst h
            simp only [hl r (by simp), hlk, frz_local (v := opd G env y) fun x hx => hl x (by simp [hx]), hb, cond_true, hr]
          · simp at h
      · simp at h
    · simp at h
  | fadd x d => simp only [stepOp, slotR] at h he ⊢; rw [opd_local he]; exact h
  | iadd sz x y =>
    simp only [slotR, List.mem_append] at he
    simp only [stepOp] at h ⊢
    rw [opd_local (x := x) fun t ht => he t (.inl ht), opd_local (x := y) fun t ht => he t (.inr ht)]
    split at h
    · rename_i r v hv
      split at h
      · rename_i sz' rows v' k n hlk hi
        cases hb : (Nat.beq v' v && Nat.beq sz' sz && decide (0 ≤ n) && decide (n < rows.length)) with
        | false => rw [hb] at h; simp at h
        | true =>
          rw [hb] at h
          simp only [cond_true, Option.some.injEq] at h; subst h
          simp only [hl r (by simp), hlk, hi, hb, cond_true]
      · rename_i sz' rows v' k n hlk hi
        cases hb : (Nat.beq v' v && Nat.beq sz' sz && decide (n = rows.length)) with
        | false => rw [hb] at h; simp at h
        | true =>
          rw [hb] at h
          simp only [cond_true, Option.some.injEq] at h; subst h
          simp only [hl r (by simp), hlk, hi, hb, cond_true]
      · simp at h
    · split at h
      · rename_i sz' rows k n hr hi
        cases hb : (Nat.beq sz' sz && decide (0 ≤ n) && decide (n < rows.length)) with
        | false => rw [hb] at h; simp at h
        | true =>
          rw [hb] at h
          simp only [cond_true, Option.some.injEq] at h; subst h
          simp only [rowsOf_local hl, hr, hi, hb, cond_true]
      · simp at h
  | iarr len sz x y =>
    simp only [slotR, List.mem_append] at he
    simp only [stepOp] at h ⊢
    rw [opd_local (x := x) fun t ht => he t (.inl ht), opd_local (x := y) fun t ht => he t (.inr ht)]
    exact h
  | fld x off n ag => simp only [stepOp, slotR] at h he ⊢; rw [opd_local he]; exact h
  | build z bs ps =>
    simp only [slotR] at he
    simp only [stepOp] at h ⊢
    cases hf : (freshAt hp (bufAts bs) && distinctN (bufAts bs)) with
    | false => rw [hf] at h; simp at h
    | true =>
      rw [hf] at h
      simp only [cond_true] at h
      split at h
      · rename_i cs hcs
        simp only [Option.some.injEq] at h; subst h
        rw [freshAt_local hl, hf, fillAV_local he, hcs]; rfl
      · simp at h
  | bsl sz xs =>
    simp only [slotR] at he
    simp only [stepOp] at h ⊢
    rw [opds_local he]
    split at h
    · rename_i rows hr
      simp only [Option.some.injEq] at h; subst h
      rw [rowsIn_local hl, hr]
    · simp at h
  | bslo r sz xs =>
    simp only [slotR] at he
    simp only [stepOp] at h ⊢
    rw [opds_local he]
    cases hb : (freshAt hp [r] && Nat.blt 0 xs.length) with
    | false => rw [hb] at h; simp at h
    | true =>
      rw [hb] at h
      simp only [cond_true] at h
      split at h
      · rename_i rows hr
        simp only [Option.some.injEq] at h; subst h
        have hfr : freshAt hp' [r] = freshAt hp [r] := freshAt_local fun x hx => hl x (by simp at hx; simp [hx])
        rw [hfr, hb, cond_true, rowsIn_local fun x hx => hl x (by simp [hx]), hr]
      · simp at h
  | bin op x y =>
    simp only [slotR, List.mem_append] at he
    simp only [stepOp] at h ⊢
    rw [opd_local (x := x) fun t ht => he t (.inl ht), opd_local (x := y) fun t ht => he t (.inr ht)]
    exact h
  | binb op x y =>
    simp only [slotR, List.mem_append] at he
    simp only [stepOp] at h ⊢
    rw [opd_local (x := x) fun t ht => he t (.inl ht), opd_local (x := y) fun t ht => he t (.inr ht)]
    exact h
  | un op x => simp only [stepOp, slotR] at h he ⊢; rw [opd_local he]; exact h
  | conv k x => simp only [stepOp, slotR] at h he ⊢; rw [opd_local he]; exact h
  | len x =>
    simp only [slotR] at he
    simp only [stepOp] at h ⊢
    rw [opd_local he]
    split at h
    · rename_i sz rows hr
      simp only [Option.some.injEq] at h; subst h
      rw [rowsOf_local hl, hr]
    · simp at h
  | lens x => simp only [stepOp, slotR] at h he ⊢; rw [opd_local he]; exact h
  | slc sz x lo hi mx =>
    simp only [slotR, List.mem_append] at he
    simp only [stepOp] at h ⊢
    have e1 := opd_local (G := G) (x := x) fun t ht => he t (.inl (.inl (.inl ht)))
    have e2 : ∀ d, optI G env' d lo = optI G env d lo := fun d => optI_local fun t ht => he t (.inl (.inl (.inr ht)))
    have e3 : ∀ d, optI G env' d hi = optI G env d hi := fun d => optI_local fun t ht => he t (.inl (.inr ht))
    rw [e1]
    split at h
    · rename_i sz' rows hr
      cases hb : Nat.beq sz' sz with
      | false => rw [hb] at h; simp at h
      | true =>
        rw [hb] at h
        simp only [cond_true] at h
        split at h
        · rename_i l hh m q1 q2 q3
          split at h
          · rename_i v hv
            simp only [Option.some.injEq] at h; subst h
            cases mx with
            | none =>
              simp only [Option.some.injEq] at q3; subst q3
              simp only [rowsOf_local hl, hr, hb, cond_true, e2, e3, q1, q2, hv]
            | some y =>
              have e4 := opd_local (G := G) (x := y) fun t ht => he t (.inr ht)
              simp only at q3
              simp only [rowsOf_local hl, hr, hb, cond_true, e2, e3, e4, q1, q2, q3, hv]
          · simp at h
        · simp at h
    · simp at h
  | app sz x y =>
    simp only [slotR, List.mem_append] at he
    simp only [stepOp] at h ⊢
    rw [opd_local (x := x) fun t ht => he t (.inl ht), opd_local (x := y) fun t ht => he t (.inr ht)]
    split at h
    · rename_i sy ys hr
      split at h
      · rename_i r v hv
        split at h
        · rename_i s rows v' hlk
          cases hb : (Nat.beq v' v && Nat.beq s sz && Nat.beq sy sz && decide (rows.length + ys.length < 2 ^ 32)) with
          | false => rw [hb] at h; simp at h
          | true =>
            rw [hb] at h
            simp only [cond_true, Option.some.injEq] at h; subst h
            simp only [rowsOf_local (v := opd G env y) fun x hx => hl x (by simp [hx]), hr, hl r (by simp), hlk, hb, cond_true]
        · simp at h
      · rename_i s rows hv
        cases hb : (Nat.beq s sz && Nat.beq sy sz && decide (rows.length + ys.length < 2 ^ 32)) with
        | false => rw [hb] at h; simp at h
        | true =>
          rw [hb] at h
          simp only [cond_true, Option.some.injEq] at h; subst h
          simp only [rowsOf_local (v := opd G env y) hl, hr, hb, cond_true]
      · simp at h
    · simp at h
  | appo sz x y =>
    simp only [slotR, List.mem_append] at he
    simp only [stepOp] at h ⊢
    rw [opd_local (x := x) fun t ht => he t (.inl ht), opd_local (x := y) fun t ht => he t (.inr ht)]
    split at h
    · rename_i sy y0 hr
      split at h
      · rename_i r v hv
        split at h
        · rename_i s rows v' hlk
          cases hb : (Nat.beq v' v && Nat.beq s sz && Nat.beq sy sz && decide (rows.length + 1 < 2 ^ 32)) with
          | false => rw [hb] at h; simp at h
          | true =>
            rw [hb] at h
            simp only [cond_true, Option.some.injEq] at h; subst h
            simp only [rowsOf_local (v := opd G env y) fun x hx => hl x (by simp [hx]), hr, hl r (by simp), hlk, hb, cond_true]
        · simp at h
      · simp at h
    · simp at h
  | appn r sz y =>
    simp only [slotR] at he
    simp only [stepOp] at h ⊢
    rw [opd_local he]
    split at h
    · rename_i sy ys hr
      cases hb : (freshAt hp [r] && Nat.beq sy sz && decide (ys.length < 2 ^ 32)) with
      | false => rw [hb] at h; simp at h
      | true =>
        rw [hb] at h
        simp only [cond_true, Option.some.injEq] at h; subst h
        have hfr : freshAt hp' [r] = freshAt hp [r] := freshAt_local fun x hx => hl x (by simp at hx; simp [hx])
        simp only [rowsOf_local (v := opd G env y) fun x hx => hl x (by simp [hx]), hr, hfr, hb, cond_true]
    · simp at h
  | ext x i => simp only [stepOp, slotR] at h he ⊢; rw [opd_local he]; exact h
  | mkf f xs =>
    simp only [slotR] at he
    simp only [stepOp, Option.some.injEq] at h ⊢; subst h
    rw [opds_local he, frzT_local hl]
  | call site f xs =>
    simp only [slotR] at he
    simp only [stepOp] at h ⊢
    rw [opds_local he]
    exact callOp_local h hl
  | callv site f xs =>
    simp only [slotR, List.mem_append] at he
    simp only [stepOp] at h ⊢
    rw [opd_local (x := f) fun t ht => he t (.inl ht), opds_local (xs := xs) fun t ht => he t (.inr ht)]
    split at h
    · exact callOp_local h hl
    · simp at h
  | chk x => simp only [stepOp, slotR] at h he ⊢; rw [opd_local he]; exact h
  | min2 x y =>
    simp only [slotR, List.mem_append] at he
    simp only [stepOp] at h ⊢
    rw [opd_local (x := x) fun t ht => he t (.inl ht), opd_local (x := y) fun t ht => he t (.inr ht)]
    exact h
  | max2 x y =>
    simp only [slotR, List.mem_append] at he
    simp only [stepOp] at h ⊢
    rw [opd_local (x := x) fun t ht => he t (.inl ht), opd_local (x := y) fun t ht => he t (.inr ht)]
    exact h
end
end Eng

namespace Eng
open Go
def StEq (s s' : St) : Prop := (∀ t, lkE s'.env t = lkE s.env t) ∧ ∀ r, lkH s'.hp r = lkH s.hp r
theorem StEq.refl (s : St) : StEq s s := ⟨fun _ => rfl, fun _ => rfl⟩
theorem StEq.symm {s s' : St} (h : StEq s s') : StEq s' s := ⟨fun t => (h.1 t).symm, fun r => (h.2 r).symm⟩
theorem StEq.trans {s s' s'' : St} (h : StEq s s') (h' : StEq s' s'') : StEq s s'' := ⟨fun t => (h'.1 t).trans (h.1 t), fun r => (h'.2 r).trans (h.2 r)⟩
theorem lkH_append : ∀ (u hp : Heap) (r : Nat), lkH (u ++ hp) r = match lkH u r with | some o => some o | none => lkH hp r
  | [], hp, r => rfl
  | (k, o) :: u, hp, r => by
    simp only [List.cons_append, lkH]
    cases Nat.beq k r with
    | true => rfl
    | false => exact lkH_append u hp r
theorem lkH_keys : ∀ {u : Heap} {r : Nat}, r ∉ keysH u → lkH u r = none
  | [], _, _ => rfl
  | (k, o) :: u, r, h => by
    simp only [keysH, List.mem_cons, not_or] at h
    rw [lkH_cons_ne _ _ (Ne.symm h.1)]
    exact lkH_keys h.2
theorem lkH_upd {u hp : Heap} {r : Nat} (h : r ∉ keysH u) : lkH (u ++ hp) r = lkH hp r := by rw [lkH_append, lkH_keys h]
theorem lkE_setE_ne {env : List (Nat × AV)} {d : Option Nat} {v : AV} {t : Nat} (h : d ≠ some t) : lkE (setE env d v) t = lkE env t := by
  cases d with
  | none => rfl
  | some d => exact lkE_cons_ne v env (fun e => h (by rw [e]))
theorem lkE_setE_same {env : List (Nat × AV)} {d : Nat} {v : AV} : lkE (setE env (some d) v) d = v := lkE_cons_same d v env
def slotRO (r : RO) : List Nat := slotR r.op ++ (match r.gd with
  | some (t, _) => [t]
  | none => [])
theorem wantedR_local {env env' : List (Nat × AV)} {gd : Option (Nat × Bool)} (h : ∀ t b, gd = some (t, b) → lkE env' t = lkE env t) : wantedR env' gd = wantedR env gd := by
  cases gd with
  | none => rfl
  | some p => obtain ⟨t, b⟩ := p; simp only [wantedR]; rw [h t b rfl]
theorem mem_gd {r : RO} {t : Nat} {b : Bool} (h : r.gd = some (t, b)) : t ∈ slotRO r := by simp [slotRO, h]
theorem stepRO_local {S : Sp} {G : Nat → AV} {r : RO} {s s1 s' : St} {f : Foot} (h : stepRO S G r s = some (s1, f)) (he : ∀ t ∈ slotRO r, lkE s'.env t = lkE s.env t) (hl : ∀ x ∈ f.1, lkH s'.hp x = lkH s.hp x) :
    ∃ v u, s1 = ⟨setE s.env r.d v, u ++ s.hp⟩ ∧ f.2 = keysH u ∧ stepRO S G r s' = some (⟨setE s'.env r.d v, u ++ s'.hp⟩, f) := by
  unfold stepRO at h ⊢
  have hw : wantedR s'.env r.gd = wantedR s.env r.gd := wantedR_local fun t b hq => he t (mem_gd hq)
  rw [hw]
  split at h
  · split at h
    · rename_i res hres
      simp only [Option.some.injEq, Prod.mk.injEq] at h
      obtain ⟨rfl, rfl⟩ := h
      have := stepOp_local (env' := s'.env) (hp' := s'.hp) hres (fun t ht => he t (by simp [slotRO, ht])) hl
      simp only [this]
      exact ⟨res.v, res.upd, rfl, rfl, rfl⟩
    · simp at h
  · simp only [Option.some.injEq, Prod.mk.injEq] at h
    obtain ⟨rfl, rfl⟩ := h
    exact ⟨(.tup []), [], rfl, rfl, rfl⟩
  · simp at h
theorem setE_congr {env env' : List (Nat × AV)} (h : ∀ t, lkE env' t = lkE env t) (d : Option Nat) (v : AV) (t : Nat) : lkE (setE env' d v) t = lkE (setE env d v) t := by
  cases d with
  | none => exact h t
  | some d =>
    by_cases e : d = t
    · subst e; rw [lkE_setE_same, lkE_setE_same]
    · rw [lkE_setE_ne (by simpa using e), lkE_setE_ne (by simpa using e)]; exact h t
theorem stepRO_congr {S : Sp} {G : Nat → AV} {r : RO} {s s1 s' : St} {f : Foot} (h : stepRO S G r s = some (s1, f)) (he : StEq s s') : ∃ s1', stepRO S G r s' = some (s1', f) ∧ StEq s1 s1' := by
  obtain ⟨v, u, rfl, _, h2⟩ := stepRO_local h (fun t _ => he.1 t) (fun x _ => he.2 x)
  refine ⟨_, h2, fun t => setE_congr he.1 _ _ t, fun r => ?_⟩
  simp only [lkH_append, he.2]
def apartRO (x y : RO) : Bool :=
  (match x.d with
   | some d => !memN (slotRO y) d && (match y.d with | some e => !Nat.beq e d | none => true)
   | none => true) &&
  (match y.d with
   | some e => !memN (slotRO x) e
   | none => true)
theorem apartRO_spec {x y : RO} (h : apartRO x y = true) : (∀ d, x.d = some d → d ∉ slotRO y) ∧ (∀ d, x.d = some d → y.d ≠ some d) ∧ ∀ d, y.d = some d → d ∉ slotRO x := by
  simp only [apartRO, Bool.and_eq_true] at h
  obtain ⟨h1, h2⟩ := h
  refine ⟨fun d hd => ?_, fun d hd => ?_, fun d hd => ?_⟩
  · rw [hd] at h1
    simp only [Bool.and_eq_true, Bool.not_eq_true'] at h1
    intro hm
    rw [memN_mem.2 hm] at h1; simp at h1
  · rw [hd] at h1
    simp only [Bool.and_eq_true] at h1
    intro hy
    rw [hy] at h1
    simp at h1
  · rw [hd] at h2
    simp only [Bool.not_eq_true'] at h2
    intro hm
    rw [memN_mem.2 hm] at h2; simp at h2
theorem apartL_spec : ∀ {a b : List Nat}, apartL a b = true → ∀ r ∈ a, r ∉ b
  | [], _, _, r, h => by simp at h
  | x :: a, b, h, r, hr => by
    simp only [apartL, Bool.and_eq_true, Bool.not_eq_true'] at h
    rcases List.mem_cons.1 hr with rfl | hr
    · intro hm
      rw [memN_mem.2 hm] at h; simp at h
    · exact apartL_spec h.2 r hr
theorem swap_step {S : Sp} {G : Nat → AV} {x y : RO} {s s1 s2 : St} {f f' : Foot} (h1 : stepRO S G x s = some (s1, f)) (h2 : stepRO S G y s1 = some (s2, f')) (ha : apartRO x y = true) (hf : apartF f f' = true) :
    ∃ s1' s2', stepRO S G y s = some (s1', f') ∧ stepRO S G x s1' = some (s2', f) ∧ StEq s2 s2' := by
  obtain ⟨a1, a2, a3⟩ := apartRO_spec ha
  simp only [apartF, Bool.and_eq_true] at hf
  obtain ⟨⟨f1, f2⟩, f3⟩ := hf
  have f1 := apartL_spec f1
  have f2 := apartL_spec f2
  have f3 := apartL_spec f3
  obtain ⟨v, u, rfl, k1, _⟩ := stepRO_local h1 (s' := s) (fun _ _ => rfl) (fun _ _ => rfl)
  rw [k1] at f1 f2
  -- y at s
  obtain ⟨v', u', rfl, k2, q1⟩ := stepRO_local h2 (s' := s) (fun t ht => by
    simp only
    by_cases e : x.d = some t
    · exact absurd ht (a1 t e)
    · rw [lkE_setE_ne e]) (fun r hr => by
    simp only
    rw [lkH_upd fun hm => f1 r hm hr])
  rw [k2] at f2 f3
  -- x behind y
  obtain ⟨v'', u'', e1, _, q2⟩ := stepRO_local h1 (s' := ⟨setE s.env y.d v', u' ++ s.hp⟩) (fun t ht => by
    simp only
    by_cases e : y.d = some t
    · exact absurd ht (a3 t e)
    · rw [lkE_setE_ne e]) (fun r hr => by
    simp only
    rw [lkH_upd (f3 r hr)])
  simp only [St.mk.injEq] at e1
  refine ⟨_, _, q1, q2, fun t => ?_, fun r => ?_⟩
  · have e2 : lkE (setE s.env x.d v'') t = lkE (setE s.env x.d v) t := by rw [e1.1]
    simp only
    by_cases hy : y.d = some t
    · have hx : x.d ≠ some t := fun hx => a2 t hx hy
      rw [lkE_setE_ne hx, hy, lkE_setE_same, lkE_setE_same]
    · by_cases hx : x.d = some t
      · rw [hx, lkE_setE_same, lkE_setE_ne hy, lkE_setE_same]
        rw [hx, lkE_setE_same, lkE_setE_same] at e2
        exact e2
      · rw [lkE_setE_ne hx, lkE_setE_ne hy, lkE_setE_ne hy, lkE_setE_ne hx]
  · have hu : u'' = u := by
      have := e1.2
      exact (List.append_cancel_right this).symm
    subst hu
    simp only [lkH_append]
    cases hq : lkH u'' r with
    | none => cases lkH u' r <;> rfl
    | some o =>
      have hm : r ∈ keysH u'' := by
        by_cases hm : r ∈ keysH u''
        · exact hm
        · rw [lkH_keys hm] at hq; simp at hq
      rw [lkH_keys (f2 r hm)]
def execL (S : Sp) (G : Nat → AV) (ops : List RO) (fs : List Foot) : List Nat → St → Option St
  | [], s => some s
  | i :: l, s => match ops[i]?, fs[i]? with
    | some r, some f => match stepRO S G r s with
      | some (s1, f1) => if f1 = f then execL S G ops fs l s1 else none
      | none => none
    | _, _ => none
section
variable {S : Sp} {G : Nat → AV} {ops : List RO} {fs : List Foot}
theorem execL_cons {i : Nat} {l : List Nat} {s t : St} (h : execL S G ops fs (i :: l) s = some t) : ∃ r f s1, ops[i]? = some r ∧ fs[i]? = some f ∧ stepRO S G r s = some (s1, f) ∧ execL S G ops fs l s1 = some t := by
  simp only [execL] at h
  split at h
  · rename_i r f hr hf
    split at h
    · rename_i s1 f1 hs
      split at h
      · rename_i e; subst e
        exact ⟨r, f1, s1, hr, hf, hs, h⟩
      · simp at h
    · simp at h
  · simp at h
theorem execL_mk {i : Nat} {l : List Nat} {s s1 t : St} {r : RO} {f : Foot} (hr : ops[i]? = some r) (hf : fs[i]? = some f) (hs : stepRO S G r s = some (s1, f)) (h : execL S G ops fs l s1 = some t) : execL S G ops fs (i :: l) s = some t := by
  simp only [execL, hr, hf, hs, if_true]; exact h
theorem execL_congr : ∀ {l : List Nat} {s s' t : St}, execL S G ops fs l s = some t → StEq s s' → ∃ t', execL S G ops fs l s' = some t' ∧ StEq t t'
  | [], s, s', t, h, he => by
    simp only [execL, Option.some.injEq] at h; subst h
    exact ⟨s', rfl, he⟩
  | i :: l, s, s', t, h, he => by
    obtain ⟨r, f, s1, hr, hf, hs, h2⟩ := execL_cons h
    obtain ⟨s1', q1, q2⟩ := stepRO_congr hs he
    obtain ⟨t', q3, q4⟩ := execL_congr h2 q2
    exact ⟨t', execL_mk hr hf q1 q3, q4⟩
def Indep (ops : List RO) (fs : List Foot) (i j : Nat) : Prop := ∀ r r' f f', ops[i]? = some r → ops[j]? = some r' → fs[i]? = some f → fs[j]? = some f' → apartRO r r' = true ∧ apartF f f' = true
theorem execL_front : ∀ {A : List Nat} {x : Nat} {B : List Nat} {s t : St}, (∀ a ∈ A, Indep ops fs a x) → execL S G ops fs (A ++ x :: B) s = some t → ∃ t', execL S G ops fs (x :: (A ++ B)) s = some t' ∧ StEq t t'
  | [], x, B, s, t, _, h => ⟨t, h, StEq.refl t⟩
  | a :: A, x, B, s, t, hi, h => by
    obtain ⟨r, f, s1, hr, hf, hs, h2⟩ := execL_cons h
    obtain ⟨t1, h3, e1⟩ := execL_front (fun b hb => hi b (by simp [hb])) h2
    obtain ⟨r', f', s2, hr', hf', hs', h4⟩ := execL_cons h3
    obtain ⟨ha, hff⟩ := hi a (by simp) r r' f f' hr hr' hf hf'
    obtain ⟨s1', s2', q1, q2, q3⟩ := swap_step hs hs' ha hff
    obtain ⟨t2, q4, q5⟩ := execL_congr h4 q3
    refine ⟨t2, execL_mk hr' hf' q1 (execL_mk hr hf q2 q4), e1.trans q5⟩
theorem execL_any (pre : Nat → Nat → Prop) (hind : ∀ i j, i < j → ¬ pre i j → Indep ops fs i j) : ∀ (l L : List Nat), L.Perm l → L.Pairwise (· < ·) → l.Pairwise (fun y z => ¬ pre z y) → ∀ {s t : St}, execL S G ops fs L s = some t →
    ∃ t', execL S G ops fs l s = some t' ∧ StEq t t'
  | [], L, hp, _, _, s, t, h => by
    have : L = [] := List.Perm.eq_nil hp
    subst this
    exact ⟨t, h, StEq.refl t⟩
  | x :: l, L, hp, hs, hv, s, t, h => by
    have hx : x ∈ L := hp.symm.subset (by simp)
    obtain ⟨A, B, rfl⟩ := List.append_of_mem hx
    have hp' : (A ++ B).Perm l := by
      have h1 : (x :: (A ++ B)).Perm (x :: l) := (List.perm_middle.symm).trans hp
      exact List.Perm.cons_inv h1
    have hsA : ∀ a ∈ A, a < x := by
      intro a ha
      have := (List.pairwise_append.1 hs).2.2 a ha x (by simp)
      exact this
    obtain ⟨t1, h1, e1⟩ := execL_front (fun a ha => hind a x (hsA a ha) (by
      have hal : a ∈ l := hp'.subset (by simp [ha])
      exact (List.pairwise_cons.1 hv).1 a hal)) h
    obtain ⟨r, f, s1, hr, hf, hstep, h2⟩ := execL_cons h1
    have hs' : (A ++ B).Pairwise (· < ·) := by
      obtain ⟨p1, p2, p3⟩ := List.pairwise_append.1 hs
      rw [List.pairwise_append]
      exact ⟨p1, (List.pairwise_cons.1 p2).2, fun a ha b hb => p3 a ha b (by simp [hb])⟩
    obtain ⟨t2, h3, e2⟩ := execL_any pre hind l (A ++ B) hp' hs' (List.pairwise_cons.1 hv).2 h2
    exact ⟨t2, execL_mk hr hf hstep h3, e1.trans e2⟩
theorem execL_append {l l' : List Nat} : ∀ {s t : St}, execL S G ops fs (l ++ l') s = some t → ∃ s1, execL S G ops fs l s = some s1 ∧ execL S G ops fs l' s1 = some t := by
  induction l with
  | nil => intro s t h; exact ⟨s, rfl, h⟩
  | cons i l ih =>
    intro s t h
    obtain ⟨r, f, s1, hr, hf, hs, h2⟩ := execL_cons h
    obtain ⟨s2, q1, q2⟩ := ih h2
    exact ⟨s2, execL_mk hr hf hs q1, q2⟩
theorem execL_snoc {l : List Nat} : ∀ {i : Nat} {s s1 s2 : St} {r : RO} {f : Foot}, execL S G ops fs l s = some s1 → ops[i]? = some r → fs[i]? = some f → stepRO S G r s1 = some (s2, f) → execL S G ops fs (l ++ [i]) s = some s2 := by
  induction l with
  | nil =>
    intro i s s1 s2 r f h hr hf hs
    simp only [execL, Option.some.injEq] at h; subst h
    exact execL_mk hr hf hs rfl
  | cons j l ih =>
    intro i s s1 s2 r f h hr hf hs
    obtain ⟨r', f', s3, hr', hf', hs', h2⟩ := execL_cons h
    exact execL_mk hr' hf' hs' (ih h2 hr hf hs)
end
theorem execL_of_run {S : Sp} {G : Nat → AV} : ∀ {rest : List RO} {fs' : List Foot} {s t : St} {ops : List RO} {fs : List Foot} (k : Nat), runDrw S G rest s = some (t, fs') → (∀ i, rest[i]? = ops[k + i]?) → (∀ i, fs'[i]? = fs[k + i]?) →
    execL S G ops fs (List.range' k rest.length) s = some t ∧ fs'.length = rest.length
  | [], fs', s, t, ops, fs, k, h, _, _ => by
    simp only [runDrw, Option.some.injEq, Prod.mk.injEq] at h
    obtain ⟨rfl, rfl⟩ := h
    exact ⟨rfl, rfl⟩
  | r :: rest, fs', s, t, ops, fs, k, h, ho, hf => by
    simp only [runDrw] at h
    split at h
    · rename_i s1 f hs
      split at h
      · rename_i s2 fs2 h2
        simp only [Option.some.injEq, Prod.mk.injEq] at h
        obtain ⟨rfl, rfl⟩ := h
        obtain ⟨q1, q2⟩ := execL_of_run (ops := ops) (fs := fs) (k + 1) h2 (fun i => by
          have := ho (i + 1)
          simp only [List.getElem?_cons_succ] at this
          rw [this]; congr 1; omega) (fun i => by
          have := hf (i + 1)
          simp only [List.getElem?_cons_succ] at this
          rw [this]; congr 1; omega)
        have h0 := ho 0
        have f0 := hf 0
        simp only [List.getElem?_cons_zero, Nat.add_zero] at h0 f0
        refine ⟨?_, by simp [q2]⟩
        simp only [List.length_cons, List.range'_succ]
        exact execL_mk h0.symm f0.symm hs q1
      · simp at h
    · simp at h
end Eng

namespace Eng
open Go
section
variable (X : Ctx)
def chkGd (ops : Array Oper) : Option (Nat × Bool) → Option (Nat × Bool) → Bool
  | none, none => true
  | some (t, b), some (j, b') => decide (b = b') && (match ops[j]? with
    | some o => decide (o.dst = some t)
    | none => false)
  | _, _ => false
def chkRO (nt : Nat) (ops : Array Oper) (r : RO) (o : Oper) : Bool :=
  decide (r.d = o.dst) && (match r.d with
    | some d => Nat.blt d nt
    | none => true) && chkOp X r.op o.op && chkGd ops r.gd o.guard
def chkROs (nt : Nat) (ops : Array Oper) : List RO → List Oper → Bool
  | [], [] => true
  | r :: rs, o :: os => chkRO X nt ops r o && chkROs nt ops rs os
  | _, _ => false
theorem chkROs_spec {nt : Nat} {ops : Array Oper} : ∀ {rs : List RO} {os : List Oper}, chkROs X nt ops rs os = true → rs.length = os.length ∧ ∀ (i : Nat) (r : RO) (o : Oper), rs[i]? = some r → os[i]? = some o → chkRO X nt ops r o = true
  | [], [], _ => by simp
  | r :: rs, o :: os, h => by
    simp only [chkROs, Bool.and_eq_true] at h
    obtain ⟨h1, h2⟩ := h
    obtain ⟨i1, i2⟩ := chkROs_spec h2
    refine ⟨by simp [i1], fun i r' o' hr ho => ?_⟩
    cases i with
    | zero =>
      simp only [List.getElem?_cons_zero, Option.some.injEq] at hr ho
      subst hr; subst ho; exact h1
    | succ i =>
      simp only [List.getElem?_cons_succ] at hr ho
      exact i2 i r' o' hr ho
  | [], _ :: _, h => by simp [chkROs] at h
  | _ :: _, [], h => by simp [chkROs] at h
end
section
variable {X : Ctx} {B : Base} {s s' : St} {g g' : Nat → Value} {K K' : Kom} {w w' : World} {a : Act}
theorem HGo.of_eq {hp hp' : Heap} (h : ∀ r, lkH hp' r = lkH hp r) (g : Nat → Value) : HGo hp g hp' g := by
  intro r o hr
  have := HGo.refl hp g r o hr
  have hl := h r
  have hc : curV hp' r = curV hp r := curV_local hl
  cases o <;> simp only [hl, hc] at this ⊢ <;> exact this
theorem RelS.eq (h : RelS X B s g K w a) (he : StEq s s') : RelS X B s' g K w a := by
  have hg := HGo.of_eq he.2 g
  refine ⟨fun t => by rw [he.1 t]; exact RelA_mono (Keep.refl K w) hg _ _ (h.env t), ?_, h.df, h.sz⟩
  exact h.mem.change (Keep.refl K w) hg h.mem.fr (fun _ => False) (fun r o _ hr => ⟨by rw [← he.2 r]; exact hr, rfl, fun _ _ => ⟨rfl, rfl⟩⟩) (fun _ _ h => h.elim)
theorem RelS.drew (h : RelS X B s g K w a) : RelS X B s g K w.drew a :=
  ⟨fun t => RelA_mono (Keep.drew K w) (HGo.refl _ _) _ _ (h.env t), h.mem.drew, h.df, h.sz⟩
theorem put_defers (a : Act) (d : Option Tmp) (v : Value) : (a.put d v).defers = a.defers := by cases d <;> rfl
theorem put_size (a : Act) (d : Option Tmp) (v : Value) : (a.put d v).tmps.size = a.tmps.size := by cases d <;> simp [Act.put]
theorem put_get {a : Act} {d : Option Tmp} {v : Value} {t : Nat} (h : d ≠ some t) : (a.put d v).tmps.getD t undef = a.tmps.getD t undef := by
  cases d with
  | none => rfl
  | some d =>
    have hne : d ≠ t := fun e => h (by rw [e])
    simp [Act.put, Array.getElem?_setIfInBounds_ne hne]
theorem put_get_same {a : Act} {d : Nat} {v : Value} (h : d < a.tmps.size) : (a.put (some d) v).tmps.getD d undef = v := by
  simp [Act.put, h]
theorem RelS.put (h : RelS X B s g K w a) {u : Heap} {d : Option Nat} {v : AV} {c : Value} (hd : ∀ t, d = some t → t < B.nt) (hm : RelM X B (u ++ s.hp) g' K' w') (hk : Keep K w K' w') (hg : HGo s.hp g (u ++ s.hp) g')
    (hv : RelA X.fid K' w' (u ++ s.hp) g' v c) : RelS X B ⟨setE s.env d v, u ++ s.hp⟩ g' K' w' (a.put d c) := by
  refine ⟨fun t => ?_, hm, by rw [put_defers]; exact h.df, by rw [put_size]; exact h.sz⟩
  by_cases e : d = some t
  · subst e
    rw [lkE_setE_same, put_get_same (Nat.lt_of_lt_of_le (hd t rfl) h.sz)]
    exact hv
  · rw [lkE_setE_ne e, put_get e]
    exact RelA_mono hk hg _ _ (h.env t)
theorem chkRO_spec {nt : Nat} {ops : Array Oper} {r : RO} {o : Oper} (h : chkRO X nt ops r o = true) : r.d = o.dst ∧ (∀ t, r.d = some t → t < nt) ∧ chkOp X r.op o.op = true ∧ chkGd ops r.gd o.guard = true := by
  simp only [chkRO, Bool.and_eq_true, decide_eq_true_eq] at h
  obtain ⟨⟨⟨h1, h2⟩, h3⟩, h4⟩ := h
  refine ⟨h1, fun t ht => ?_, h3, h4⟩
  rw [ht] at h2
  exact bltN.1 h2
theorem ro_wp {S : Sp} (hS : SpOk X S) (hs : RelS X B s g K w a) {ops : Array Oper} {r : RO} {o : Oper} {s1 : St} {f : Foot} {i : Nat} (ho : ops[i]? = some o) (hc : chkRO X B.nt ops r o = true) (hstep : stepRO S X.G r s = some (s1, f))
    {next : Act → World → Prop} {Q : Exit → Act → World → Prop} (hn : ∀ g' K' w' a', RelS X B s1 g' K' w' a' → next a' w') : wpOp X.P ops Q i next a w := by
  obtain ⟨h1, h2, h3, h4⟩ := chkRO_spec hc
  have hw : ∀ b, wantedR s.env r.gd = some b → Region.wanted o (yielded ops a.tmps) = b := by
    intro b hb
    unfold chkGd at h4
    split at h4
    · rename_i e1 e2
      rw [e1] at hb
      simp only [wantedR, Option.some.injEq] at hb; subst hb
      simp [Region.wanted, e2]
    · rename_i t b1 j b2 e1 e2
      simp only [Bool.and_eq_true, decide_eq_true_eq] at h4
      obtain ⟨rfl, h5⟩ := h4
      split at h5
      · rename_i oj hoj
        simp only [decide_eq_true_eq] at h5
        rw [e1] at hb
        simp only [wantedR] at hb
        split at hb
        · rename_i x hx
          simp only [Option.some.injEq] at hb; subst hb
          have he := hs.env t
          rw [hx] at he
          simp only [RelA, RelP] at he
          have hget : a.tmps[t]? = some (.bool x) := by
            rw [Array.getD_eq_getD_getElem?] at he
            cases hq : a.tmps[t]? with
            | none => rw [hq] at he; simp [undef] at he
            | some v => rw [hq] at he; simp at he; rw [he]
          have hy : yielded ops a.tmps j = some x := by
            simp [yielded, hoj, h5, hget]
          simp only [Region.wanted, e2, hy]
          cases x <;> cases b1 <;> rfl
        · rename_i hx
          simp only [Option.some.injEq] at hb; subst hb
          have he := hs.env t
          rw [hx] at he
          obtain ⟨arr, harr, _⟩ := he
          have hy : yielded ops a.tmps j = none := by
            rw [Array.getD_eq_getD_getElem?] at harr
            cases hq : a.tmps[t]? with
            | none => simp [yielded, hoj, h5, hq]
            | some v => rw [hq] at harr; simp at harr; simp [yielded, hoj, h5, hq, harr]
          simp only [Region.wanted, e2, hy]
          cases b1 <;> rfl
        · simp at hb
      · simp at h5
    · simp at h4
  unfold wpOp
  simp only [ho]
  unfold stepRO at hstep
  split at hstep
  · rename_i hwt
    split at hstep
    · rename_i res hres
      simp only [Option.some.injEq, Prod.mk.injEq] at hstep
      obtain ⟨rfl, _⟩ := hstep
      rw [hw true hwt]
      simp only [if_true]
      left
      refine op_good hS hs h3 hres _ _ fun c w' K' g' k1 k2 k3 k4 => ?_
      rw [← h1]
      exact hn g' K' w' _ (hs.put h2 k1 k2 k3 k4)
    · simp at hstep
  · rename_i hwt
    simp only [Option.some.injEq, Prod.mk.injEq] at hstep
    obtain ⟨rfl, _⟩ := hstep
    rw [hw false hwt]
    simp only [Bool.false_eq_true, if_false]
    rw [← h1]
    exact hn g K w _ (hs.put (u := []) h2 hs.mem (Keep.refl K w) (HGo.refl _ _) ⟨#[], rfl, by simp [RelAs]⟩)
  · simp at hstep
theorem region_seq {S : Sp} (hS : SpOk X S) {ops : Array Oper} {Q : Exit → Act → World → Prop} {s' : St} (hn : ∀ g' K' w' a', RelS X B s' g' K' w' a' → Q .normal a' w') :
    ∀ {rs : List RO} {os : List Oper} (k : Nat) {s : St} {g : Nat → Value} {K : Kom} {w : World} {a : Act}, chkROs X B.nt ops rs os = true → (∀ i, os[i]? = ops[k + i]?) → runOps S X.G rs s = some s' → RelS X B s g K w a →
      wpOps X.P ops Q (List.range' k rs.length) a w
  | [], _, k, s, g, K, w, a, _, _, h, hs => by
    simp only [runOps, Option.some.injEq] at h; subst h
    simp only [List.length_nil, List.range'_zero, wpOps]
    exact hn _ _ _ _ hs
  | r :: rs, [], k, s, g, K, w, a, hc, _, _, _ => by simp [chkROs] at hc
  | r :: rs, o :: os, k, s, g, K, w, a, hc, ho, h, hs => by
    simp only [chkROs, Bool.and_eq_true] at hc
    obtain ⟨h1, h2⟩ := hc
    simp only [runOps] at h
    split at h
    · rename_i s1 f hs1
      simp only [List.length_cons, List.range'_succ]
      rw [wpOps_cons]
      have h0 := ho 0
      simp only [List.getElem?_cons_zero, Nat.add_zero] at h0
      refine ro_wp hS hs h0.symm h1 hs1 fun g' K' w' a' hs' => ?_
      exact region_seq hS hn (k + 1) h2 (fun i => by
        have := ho (i + 1)
        simp only [List.getElem?_cons_succ] at this
        rw [this]; congr 1; omega) h hs'
    · simp at h
theorem wp_reg {S : Sp} (hS : SpOk X S) {id : Nat} {ops : Array Oper} {Q : Exit → Act → World → Prop} {rs : List RO} {s' : St} (hc : chkROs X B.nt ops rs ops.toList = true) (h : runOps S X.G rs s = some s') (hs : RelS X B s g K w a)
    (hn : ∀ g' K' w' a', RelS X B s' g' K' w' a' → Q .normal a' w') : (Code.region id ops false).wp X.P Q a w := by
  refine wp_region ?_
  have := region_seq hS hn 0 hc (fun i => by simp) h hs
  have hl := (chkROs_spec X hc).1
  rw [List.range_eq_range']
  rw [hl] at this
  simpa using this
end
end Eng

namespace Eng
open Go
def maskOf (masks : List Nat) (o : Oper) : Nat :=
  o.after.toList.foldl (fun s e => if Region.binds .any e then s ||| (2 ^ e.on ||| masks.getD e.on 0) else s) 0
def edgesOk (i : Nat) (o : Oper) : Bool := o.after.toList.all fun e => !Region.binds .any e || Nat.blt e.on i
def chkMasks (masks : List Nat) : Nat → List Nat → List Oper → Bool
  | _, [], [] => true
  | i, m :: ms, o :: os => Nat.beq m (maskOf masks o) && edgesOk i o && chkMasks masks (i + 1) ms os
  | _, _, _ => false
def chkApart1 (y : RO) (m : Nat) : Nat → List RO → Bool
  | _, [] => true
  | i, x :: xs => (Nat.testBit m i || apartRO x y) && chkApart1 y m (i + 1) xs
def chkApart : List RO → List RO → List Nat → Bool
  | _, [], [] => true
  | done, y :: ys, m :: ms => chkApart1 y m 0 done && chkApart (done ++ [y]) ys ms
  | _, _, _ => false
def pre (masks : List Nat) (i j : Nat) : Prop := Nat.testBit (masks.getD j 0) i = true
theorem chkMasks_spec {masks : List Nat} : ∀ {ms : List Nat} {os : List Oper} {k : Nat}, chkMasks masks k ms os = true → ms.length = os.length ∧ ∀ (i m : Nat) (o : Oper), ms[i]? = some m → os[i]? = some o → m = maskOf masks o ∧ edgesOk (k + i) o = true
  | [], [], _, _ => by simp
  | m :: ms, o :: os, k, h => by
    simp only [chkMasks, Bool.and_eq_true, beqN] at h
    obtain ⟨⟨h1, h2⟩, h3⟩ := h
    obtain ⟨i1, i2⟩ := chkMasks_spec h3
    refine ⟨by simp [i1], fun i m' o' hm ho => ?_⟩
    cases i with
    | zero =>
      simp only [List.getElem?_cons_zero, Option.some.injEq] at hm ho
      subst hm; subst ho; exact ⟨h1, h2⟩
    | succ i =>
      simp only [List.getElem?_cons_succ] at hm ho
      have := i2 i m' o' hm ho
      rw [show k + (i + 1) = k + 1 + i from by omega]
      exact this
  | [], _ :: _, _, h => by simp [chkMasks] at h
  | _ :: _, [], _, h => by simp [chkMasks] at h
theorem testBit_foldl {masks : List Nat} {j : Nat} : ∀ {l : List Edge} {s : Nat}, Nat.testBit (l.foldl (fun s e => if Region.binds .any e then s ||| (2 ^ e.on ||| masks.getD e.on 0) else s) s) j = true →
    Nat.testBit s j = true ∨ ∃ e ∈ l, Region.binds .any e = true ∧ (e.on = j ∨ Nat.testBit (masks.getD e.on 0) j = true)
  | [], s, h => .inl h
  | e :: l, s, h => by
    simp only [List.foldl_cons] at h
    rcases testBit_foldl h with h1 | ⟨e', h1, h2, h3⟩
    · split at h1
      · rename_i hb
        rw [Nat.testBit_or, Nat.testBit_or, Bool.or_eq_true, Bool.or_eq_true] at h1
        rcases h1 with h1 | h1 | h1
        · exact .inl h1
        · refine .inr ⟨e, by simp, hb, .inl ?_⟩
          rw [Nat.testBit_two_pow] at h1
          simpa using h1
        · exact .inr ⟨e, by simp, hb, .inr h1⟩
      · exact .inl h1
    · exact .inr ⟨e', by simp [h1], h2, h3⟩
theorem chkApart1_spec {y : RO} {m : Nat} : ∀ {xs : List RO} {k : Nat}, chkApart1 y m k xs = true → ∀ (i : Nat) (x : RO), xs[i]? = some x → Nat.testBit m (k + i) = true ∨ apartRO x y = true
  | [], _, _, i, x, h => by simp at h
  | x :: xs, k, h, i, x', hx => by
    simp only [chkApart1, Bool.and_eq_true, Bool.or_eq_true] at h
    cases i with
    | zero =>
      simp only [List.getElem?_cons_zero, Option.some.injEq] at hx; subst hx
      exact h.1
    | succ i =>
      simp only [List.getElem?_cons_succ] at hx
      have := chkApart1_spec h.2 i x' hx
      rw [show k + (i + 1) = k + 1 + i from by omega]
      exact this
theorem chkApart_spec : ∀ {ys done : List RO} {ms : List Nat}, chkApart done ys ms = true → ∀ (i j : Nat) (x y : RO), i < done.length + j → (done ++ ys)[i]? = some x → ys[j]? = some y → Nat.testBit (ms.getD j 0) i = true ∨ apartRO x y = true
  | [], done, [], _, i, j, x, y, _, _, hy => by simp at hy
  | y :: ys, done, m :: ms, h, i, j, x, y', hij, hx, hy => by
    simp only [chkApart, Bool.and_eq_true] at h
    cases j with
    | zero =>
      simp only [List.getElem?_cons_zero, Option.some.injEq] at hy; subst hy
      rw [List.getElem?_append_left (by omega)] at hx
      have := chkApart1_spec h.1 i x hx
      simpa using this
    | succ j =>
      simp only [List.getElem?_cons_succ] at hy
      have := chkApart_spec h.2 i j x y' (by simp; omega) (by simpa using hx) hy
      simpa using this
  | [], _, _ :: _, h, _, _, _, _, _, _, _ => by simp [chkApart] at h
  | _ :: _, _, [], h, _, _, _, _, _, _, _ => by simp [chkApart] at h
theorem apartAll_spec {m : Nat} {g : Foot} : ∀ {fs : List Foot} {k : Nat}, apartAll m g k fs = true → ∀ (i : Nat) (f : Foot), fs[i]? = some f → Nat.testBit m (k + i) = true ∨ apartF f g = true
  | [], _, _, i, x, h => by simp at h
  | f :: fs, k, h, i, f', hf => by
    simp only [apartAll, Bool.and_eq_true, Bool.or_eq_true] at h
    cases i with
    | zero =>
      simp only [List.getElem?_cons_zero, Option.some.injEq] at hf; subst hf
      exact h.1
    | succ i =>
      simp only [List.getElem?_cons_succ] at hf
      have := apartAll_spec h.2 i f' hf
      rw [show k + (i + 1) = k + 1 + i from by omega]
      exact this
theorem drwOk_spec : ∀ {fs done : List Foot} {ms : List Nat}, drwOk done ms fs = true → ∀ (i j : Nat) (f f' : Foot), i < done.length + j → (done ++ fs)[i]? = some f → fs[j]? = some f' → Nat.testBit (ms.getD j 0) i = true ∨ apartF f f' = true
  | [], done, [], _, i, j, x, y, _, _, hy => by simp at hy
  | y :: ys, done, m :: ms, h, i, j, x, y', hij, hx, hy => by
    simp only [drwOk, Bool.and_eq_true] at h
    cases j with
    | zero =>
      simp only [List.getElem?_cons_zero, Option.some.injEq] at hy; subst hy
      rw [List.getElem?_append_left (by omega)] at hx
      have := apartAll_spec h.1 i x hx
      simpa using this
    | succ j =>
      simp only [List.getElem?_cons_succ] at hy
      have := drwOk_spec h.2 i j x y' (by simp; omega) (by simpa using hx) hy
      simpa using this
  | [], _, _ :: _, h, _, _, _, _, _, _, _ => by simp [drwOk] at h
  | _ :: _, _, [], h, _, _, _, _, _, _, _ => by simp [drwOk] at h
section
variable {X : Ctx} {B : Base} {s s' : St} {g : Nat → Value} {K : Kom} {w : World} {a : Act}
theorem mask_closed {ops : Array Oper} {masks : List Nat} (hm : chkMasks masks 0 masks ops.toList = true) (M : List Nat) (hcl : ∀ y ∈ M, ∀ j, pre masks j y → j ∈ M) {i : Nat} (hi : i < ops.size) (hr : ∀ o, ops[i]? = some o → ∀ e ∈ o.after.toList, Region.binds .any e = true → e.on ∈ M) :
    ∀ j, pre masks j i → j ∈ M := by
  intro j hj
  obtain ⟨hl, hs⟩ := chkMasks_spec hm
  have ho : ops.toList[i]? = some ops[i] := by simp [hi]
  have him : i < masks.length := by rw [hl]; simpa using hi
  have hmi : masks[i]? = some masks[i] := by simp [him]
  obtain ⟨h1, _⟩ := hs i _ _ hmi ho
  unfold pre at hj
  have hg : masks.getD i 0 = masks[i] := by simp [him]
  rw [hg, h1] at hj
  rcases testBit_foldl hj with h2 | ⟨e, he, hb, h2⟩
  · simp at h2
  · have hM := hr _ (by simp [hi]) e he hb
    rcases h2 with rfl | h2
    · exact hM
    · exact hcl _ hM _ h2
theorem mask_lt {ops : Array Oper} {masks : List Nat} (hm : chkMasks masks 0 masks ops.toList = true) : ∀ (i j : Nat), pre masks j i → j < i := by
  obtain ⟨hl, hs⟩ := chkMasks_spec hm
  intro i
  induction i using Nat.strongRecOn with
  | _ i ih =>
    intro j hj
    by_cases hi : i < ops.size
    · have ho : ops.toList[i]? = some ops[i] := by simp [hi]
      have him : i < masks.length := by rw [hl]; simpa using hi
      have hmi : masks[i]? = some masks[i] := by simp [him]
      obtain ⟨h1, h2⟩ := hs i _ _ hmi ho
      unfold pre at hj
      have hg : masks.getD i 0 = masks[i] := by simp [him]
      rw [hg, h1] at hj
      rcases testBit_foldl hj with h3 | ⟨e, he, hb, h3⟩
      · simp at h3
      · have hlt : e.on < i := by
          have := (List.all_eq_true.1 h2) e he
          simp only [hb, Bool.not_true, Bool.false_or, bltN] at this
          omega
        rcases h3 with rfl | h3
        · exact hlt
        · have := ih e.on hlt j h3; omega
    · unfold pre at hj
      have : masks.getD i 0 = 0 := by
        have h4 : ¬ i < masks.length := by rw [hl]; simpa using hi
        simp [h4]
      rw [this] at hj
      simp at hj
structure DrwInv (X : Ctx) (B : Base) (S : Sp) (rs : List RO) (fs : List Foot) (masks : List Nat) (n : Nat) (s0 : St) (p : List Nat) (listed : Array Bool) (a : Act) (w : World) : Prop where
  size : listed.size = n
  mem : ∀ i, i < n → (listed.getD i true = true ↔ i ∈ p)
  nodup : p.Nodup
  lt : ∀ i ∈ p, i < n
  closed : ∀ y ∈ p, ∀ j, pre masks j y → j ∈ p
  pw : p.Pairwise (fun y z => ¬ pre masks z y)
  run : ∃ s g K, execL S X.G rs fs p s0 = some s ∧ RelS X B s g K w a
theorem count_one {l : List Nat} {x : Nat} (h : l.Nodup) (hm : x ∈ l) : List.count x l = 1 := by
  rw [h.count, if_pos hm]
theorem perm_rest {n : Nat} {p : List Nat} (hn : p.Nodup) (hl : ∀ i ∈ p, i < n) : (List.range' 0 n).Perm (p ++ (List.range' 0 n).filter fun i => !memN p i) := by
  rw [List.perm_iff_count]
  intro x
  rw [List.count_append]
  have hr : (List.range' 0 n).Nodup := List.nodup_range'
  by_cases hx : x < n
  · have h1 : List.count x (List.range' 0 n) = 1 := count_one hr (by simp; omega)
    by_cases hp : x ∈ p
    · have h2 : List.count x p = 1 := count_one hn hp
      have h3 : List.count x ((List.range' 0 n).filter fun i => !memN p i) = 0 := by
        apply List.count_eq_zero_of_not_mem
        intro hm
        have := (List.mem_filter.1 hm).2
        rw [memN_mem.2 hp] at this; simp at this
      omega
    · have h2 : List.count x p = 0 := List.count_eq_zero_of_not_mem hp
      have h3 : List.count x ((List.range' 0 n).filter fun i => !memN p i) = 1 := by
        apply count_one (hr.filter _)
        refine List.mem_filter.2 ⟨by simp; omega, ?_⟩
        cases hq : memN p x with
        | false => rfl
        | true => exact absurd (memN_mem.1 hq) hp
      omega
  · have h1 : List.count x (List.range' 0 n) = 0 := List.count_eq_zero_of_not_mem (by simp; omega)
    have h2 : List.count x p = 0 := List.count_eq_zero_of_not_mem fun hm => hx (hl x hm)
    have h3 : List.count x ((List.range' 0 n).filter fun i => !memN p i) = 0 := by
      apply List.count_eq_zero_of_not_mem
      intro hm
      have := (List.mem_filter.1 hm).1
      simp at this; omega
    omega
theorem wp_drw {S : Sp} (hS : SpOk X S) {id : Nat} {ops : Array Oper} {Q : Exit → Act → World → Prop} {rs : List RO} {masks : List Nat} {fs : List Foot} (hmix : X.P.follows .mixedOrders = true) (hc : chkROs X B.nt ops rs ops.toList = true)
    (hm : chkMasks masks 0 masks ops.toList = true) (hap : chkApart [] rs masks = true) (h : runDrw S X.G rs s = some (s', fs)) (hok : drwOk [] masks fs = true) (hs : RelS X B s g K w a)
    (hn : ∀ g' K' w' a', RelS X B s' g' K' w' a' → Q .normal a' w') : (Code.region id ops true).wp X.P Q a w := by
  obtain ⟨hlen, hcs⟩ := chkROs_spec X hc
  have hsz : rs.length = ops.size := by simpa using hlen
  obtain ⟨htext, hfl⟩ := execL_of_run (ops := rs) (fs := fs) 0 h (fun i => by simp) (fun i => by simp)
  rw [hsz] at htext
  have hind : ∀ i j, i < j → ¬ pre masks i j → Indep rs fs i j := by
    intro i j hij hp r r' f f' hr hr' hf hf'
    refine ⟨?_, ?_⟩
    · rcases chkApart_spec hap i j r r' (by simpa using hij) (by simpa using hr) hr' with q | q
      · exact absurd q hp
      · exact q
    · rcases drwOk_spec hok i j f f' (by simpa using hij) (by simpa using hf) hf' with q | q
      · exact absurd q hp
      · exact q
  have hmlt := mask_lt hm
  have hrest : ∀ (p : List Nat), ((List.range' 0 ops.size).filter fun i => !memN p i).Pairwise (fun y z => ¬ pre masks z y) := by
    intro p
    have hlt : (List.range' 0 ops.size).Pairwise (· < ·) := List.pairwise_lt_range'
    refine (hlt.filter _).imp fun {y z} hyz hp => ?_
    have := hmlt y z hp
    omega
  have hlt0 : (List.range' 0 ops.size).Pairwise (· < ·) := List.pairwise_lt_range'
  refine wp_region_any hmix ?_
  suffices key : ∀ (fuel : Nat) (p : List Nat) (listed : Array Bool) (a : Act) (w : World), fuel + p.length = ops.size → DrwInv X B S rs fs masks ops.size s p listed a w → wpAny X.P .any ops Q fuel listed a w by
    refine key ops.size [] _ a _ (by simp) ⟨by simp, fun i hi => by simp [hi], List.nodup_nil, by simp, by simp, List.Pairwise.nil, s, g, K, rfl, hs.drew⟩
  -- when nothing is ready, all is done
  have hdone : ∀ (p : List Nat) (listed : Array Bool) (a : Act) (w : World), DrwInv X B S rs fs masks ops.size s p listed a w → Region.ready .any ops listed = [] → Q .normal a w := by
    intro p listed a w hi hre
    have hall : ∀ i, i < ops.size → i ∈ p := by
      intro i
      induction i using Nat.strongRecOn with
      | _ i ih =>
        intro hlt
        by_cases hp : i ∈ p
        · exact hp
        · exfalso
          have hnl : listed.getD i true = false := by
            cases hq : listed.getD i true with
            | false => rfl
            | true => exact absurd ((hi.mem i hlt).1 hq) hp
          have : i ∈ Region.ready .any ops listed := by
            refine List.mem_filter.2 ⟨by simpa using hlt, ?_⟩
            have ho : ops[i]? = some ops[i] := by simp [hlt]
            simp only [hnl, Bool.not_false, Bool.true_and, ho, Option.map_some, Option.getD_some]
            rw [Array.all_eq_true']
            intro e he
            cases hb : Region.binds .any e with
            | false => simp
            | true =>
              simp only [Bool.not_true, Bool.false_or]
              obtain ⟨hl2, hs2⟩ := chkMasks_spec hm
              have him : i < masks.length := by rw [hl2]; simpa using hlt
              obtain ⟨_, h2⟩ := hs2 i _ _ (show masks[i]? = some masks[i] by simp [him]) (show ops.toList[i]? = some ops[i] by simp [hlt])
              have hel := (List.all_eq_true.1 h2) e (by simpa using he)
              simp only [hb, Bool.not_true, Bool.false_or, bltN] at hel
              have hmem := ih e.on (by omega) (by omega)
              have := (hi.mem e.on (by omega)).2 hmem
              have hlt2 : e.on < listed.size := by rw [hi.size]; omega
              simpa [hlt2] using this
          rw [hre] at this
          simp at this
    obtain ⟨sp, gp, Kp, hrun, hrel⟩ := hi.run
    have hfil : ((List.range' 0 ops.size).filter fun i => !memN p i) = [] := by
      rw [List.filter_eq_nil_iff]
      intro x hx
      have : x ∈ p := hall x (by simp at hx; omega)
      rw [memN_mem.2 this]; simp
    have hperm := perm_rest hi.nodup hi.lt
    rw [hfil, List.append_nil] at hperm
    obtain ⟨t', q1, q2⟩ := execL_any (pre masks) hind p _ hperm hlt0 hi.pw htext
    rw [hrun] at q1
    simp only [Option.some.injEq] at q1; subst q1
    exact hn _ _ _ _ (hrel.eq q2.symm)
  intro fuel
  induction fuel with
  | zero =>
    intro p listed a w hf hi
    have hre : Region.ready .any ops listed = [] := by
      have hall : ∀ i, i < ops.size → i ∈ p := by
        intro i hlt
        by_cases hp : i ∈ p
        · exact hp
        · exfalso
          have hperm := perm_rest hi.nodup hi.lt
          have hl := hperm.length_eq
          simp only [List.length_range', List.length_append] at hl
          have : i ∈ ((List.range' 0 ops.size).filter fun i => !memN p i) := by
            refine List.mem_filter.2 ⟨by simp; omega, ?_⟩
            cases hq : memN p i with
            | false => rfl
            | true => exact absurd (memN_mem.1 hq) hp
          have h0 := List.length_pos_of_mem this
          omega
      rw [Region.ready, List.filter_eq_nil_iff]
      intro x hx
      have hx' : x < ops.size := by simpa using hx
      have := (hi.mem x hx').2 (hall x hx')
      simp [this]
    exact ⟨hre, hdone p listed a w hi hre⟩
  | succ fuel ih =>
    intro p listed a w hf hi
    refine ⟨hdone p listed a w hi, fun i hir => ?_⟩
    have hir' := List.mem_filter.1 hir
    have hlt : i < ops.size := by simpa using hir'.1
    have hcond := hir'.2
    have ho : ops[i]? = some ops[i] := by simp [hlt]
    simp only [ho, Option.map_some, Option.getD_some, Bool.and_eq_true, Bool.not_eq_true'] at hcond
    obtain ⟨hc1, hc2⟩ := hcond
    have hnp : i ∉ p := fun hp => by
      have := (hi.mem i hlt).2 hp
      rw [this] at hc1; simp at hc1
    have hpreds : ∀ j, pre masks j i → j ∈ p := by
      refine mask_closed hm p hi.closed hlt fun o ho' e he hb => ?_
      rw [ho] at ho'
      simp only [Option.some.injEq] at ho'; subst ho'
      rw [Array.all_eq_true'] at hc2
      have := hc2 e (by simpa using he)
      simp only [hb, Bool.not_true, Bool.false_or] at this
      have hlt2 : e.on < listed.size := by
        by_cases h2 : e.on < listed.size
        · exact h2
        · simp [h2] at this
      rw [hi.size] at hlt2
      refine (hi.mem e.on hlt2).1 ?_
      have h3 : e.on < listed.size := by rw [hi.size]; exact hlt2
      simpa [h3] using this
    obtain ⟨sp, gp, Kp, hrun, hrel⟩ := hi.run
    -- the step is one of a whole order
    have hnd' : (p ++ [i]).Nodup := by
      rw [List.nodup_append]
      exact ⟨hi.nodup, by simp, fun x hx y hy => by simp at hy; subst hy; rintro rfl; exact hnp hx⟩
    have hlt' : ∀ x ∈ p ++ [i], x < ops.size := by
      intro x hx
      rcases List.mem_append.1 hx with hx | hx
      · exact hi.lt x hx
      · simp at hx; subst hx; exact hlt
    have hcl' : ∀ y ∈ p ++ [i], ∀ j, pre masks j y → j ∈ p ++ [i] := by
      intro y hy j hj
      rcases List.mem_append.1 hy with hy | hy
      · exact List.mem_append_left _ (hi.closed y hy j hj)
      · simp at hy; subst hy; exact List.mem_append_left _ (hpreds j hj)
    have hpw' : (p ++ [i]).Pairwise (fun y z => ¬ pre masks z y) := by
      rw [List.pairwise_append]
      refine ⟨hi.pw, by simp, fun y hy z hz hp => ?_⟩
      simp at hz; subst hz
      exact hnp (hi.closed y hy z hp)
    have hfull : ((p ++ [i]) ++ (List.range' 0 ops.size).filter fun x => !memN (p ++ [i]) x).Pairwise (fun y z => ¬ pre masks z y) := by
      rw [List.pairwise_append]
      refine ⟨hpw', hrest _, fun y hy z hz hp => ?_⟩
      have h1 := hcl' y hy z hp
      have h2 := (List.mem_filter.1 hz).2
      rw [memN_mem.2 h1] at h2; simp at h2
    obtain ⟨t', q1, q2⟩ := execL_any (pre masks) hind _ _ (perm_rest hnd' hlt') hlt0 hfull htext
    rw [List.append_assoc] at q1
    obtain ⟨s1, q3, q4⟩ := execL_append q1
    rw [hrun] at q3
    simp only [Option.some.injEq] at q3; subst q3
    obtain ⟨r, f, s2, hr, hf', hstep, _⟩ := execL_cons (show execL S X.G rs fs (i :: ((List.range' 0 ops.size).filter fun x => !memN (p ++ [i]) x)) sp = some t' from by simpa using q4)
    refine ro_wp hS hrel ho (hcs i r _ hr (by simp [hlt])) hstep fun g' K' w' a' hs' => ?_
    refine ih (p ++ [i]) _ a' w' (by simp; omega) ⟨by simp [hi.size], fun x hx => ?_, hnd', hlt', hcl', hpw', s2, g', K', execL_snoc hrun hr hf' hstep, hs'⟩
    by_cases hxi : x = i
    · subst hxi
      have : x < listed.size := by rw [hi.size]; exact hlt
      simp [this]
    · have hne : i ≠ x := Ne.symm hxi
      have h1 := hi.mem x hx
      have h3 : x < listed.size := by rw [hi.size]; exact hx
      have h4 : (listed.setIfInBounds i true).getD x true = listed.getD x true := by
        simp [Array.getElem?_setIfInBounds_ne hne]
      rw [h4, h1]
      simp [hxi]
end
end Eng

namespace Eng
open Go
def toExit : Ex → Exit
  | .normal => .normal
  | .exit id => .exit id
  | .ret => .ret
section
variable (X : Ctx)
def chkC (nt : Nat) : RC → Code → Bool
  | .skip, .skip => true
  | .skip, .label _ => true
  | .reg rs, .region _ ops false => chkROs X nt ops rs ops.toList
  | .drw rs masks, .region _ ops true => chkROs X nt ops rs ops.toList && chkMasks masks 0 masks ops.toList && chkApart [] rs masks
  | .seq a b, .seq a' b' => chkC nt a a' && chkC nt b b'
  | .cond c a b, .cond c' a' b' => chkOpd X c c' && chkC nt a a' && chkC nt b b'
  | .block id b, .block id' b' => decide (id = id') && chkC nt b b'
  | .loop _ _ b, .loop b' => chkC nt b b'
  | .exit id, .exit id' => decide (id = id')
  | .ret, .ret => true
  | _, _ => false
def chkRes : List RRes → List ResultVar → Bool
  | [], [] => true
  | .tmp t :: rs, .tmp t' :: l => decide (t = t') && chkRes rs l
  | .cell t n ag :: rs, .cell t' ty :: l => decide (t = t') && szIs X ty n && aggIs X ty ag && chkRes rs l
  | _, _ => false
def chkF (f : Nat) (rf : RFunc) : Bool := match X.P.funcs[X.fid f]? with
  | some fn => !(fn.name == "runtime.NumGoroutine") && (match fn.body with
    | some c => chkC X fn.ntmps rf.body c
    | none => false) && chkRes X rf.res fn.results.toList
  | none => false
end
section
variable {X : Ctx} {B : Base} {s s' : St} {g g' : Nat → Value} {K K' : Kom} {w w' : World} {a : Act}
theorem rn_keep (hp : Heap) (keep : List Nat) (g : Nat → Value) (hp' : Heap) (h : ∀ r o, memN keep r = true → lkH hp r = some o → lkH hp' r = some (renO (rnKeep hp keep) 0 o)) : RnOk (rnKeep hp keep) hp g hp' g := by
  refine ⟨fun r r' n v hq hl => ?_, fun r r' ks hq hl => ?_, fun r v r' v' hq => ?_⟩
  · simp only [rnKeep] at hq
    cases hm : memN keep r with
    | false => rw [hm] at hq; simp at hq
    | true =>
      rw [hm] at hq
      simp only [cond_true, hl, Option.some.injEq] at hq; subst hq
      exact ⟨⟨n, _, h r _ hm hl⟩, rfl⟩
  · simp only [rnKeep] at hq
    cases hm : memN keep r with
    | false => rw [hm] at hq; simp at hq
    | true =>
      rw [hm] at hq
      simp only [cond_true, hl, Option.some.injEq] at hq; subst hq
      exact ⟨⟨_, h r _ hm hl⟩, rfl⟩
  · simp only [rnKeep] at hq
    split at hq
    · rename_i v1 hc
      cases hb : (Nat.beq v1 v && memN keep r) with
      | false => rw [hb] at hq; simp at hq
      | true =>
        rw [hb] at hq
        simp only [Bool.and_eq_true, beqN] at hb
        obtain ⟨rfl, hm⟩ := hb
        simp only [cond_true, Option.some.injEq, Prod.mk.injEq] at hq
        obtain ⟨rfl, rfl⟩ := hq
        refine ⟨hc, ?_, rfl⟩
        rcases curV_some hc with ⟨sz, rows, e⟩ | ⟨sz, rows, e⟩
        · rw [curV_verO (h r _ hm e)]; rfl
        · rw [curV_verO (h r _ hm e)]; rfl
    · simp at hq
theorem lk_canonE (m : Rn) (env : List (Nat × AV)) : ∀ (l : List Nat) (t : Nat), lkE (canonE m env l) t = if memN l t = true then ren m (lkE env t) else .undef
  | [], t => by simp [canonE, lkE, memN]
  | x :: l, t => by
    simp only [canonE]
    by_cases e : x = t
    · subst e
      rw [lkE_cons_same]
      simp [memN, Nat.beq_refl]
    · rw [lkE_cons_ne _ _ e, lk_canonE m env l t]
      have : Nat.beq x t = false := by
        cases hb : Nat.beq x t with
        | false => rfl
        | true => exact absurd (beqN.1 hb) e
      simp [memN, this]
theorem lk_canonH (m : Rn) (hp : Heap) : ∀ (l : List Nat) (r : Nat), lkH (canonH m hp l) r = if memN l r = true then (lkH hp r).map (renO m 0) else none
  | [], r => by simp [canonH, lkH, memN]
  | x :: l, r => by
    simp only [canonH]
    have hb : x ≠ r → Nat.beq x r = false := fun e => by
      cases hb : Nat.beq x r with
      | false => rfl
      | true => exact absurd (beqN.1 hb) e
    split
    · rename_i o ho
      by_cases e : x = r
      · subst e
        rw [lkH_cons_same]
        simp [memN, Nat.beq_refl, ho]
      · rw [lkH_cons_ne _ _ e, lk_canonH m hp l r]
        simp [memN, hb e]
    · rename_i ho
      rw [lk_canonH m hp l r]
      by_cases e : x = r
      · subst e
        simp [memN, Nat.beq_refl, ho]
      · simp [memN, hb e]
theorem RelS.canon (hs : RelS X B s g K w a) (live keep : List Nat) : RelS X B (canon live keep s) g K w a := by
  have hrn : RnOk (rnKeep s.hp keep) s.hp g (canonH (rnKeep s.hp keep) s.hp keep) g := rn_keep _ _ _ _ fun r o hm hl => by rw [lk_canonH, if_pos hm, hl]; rfl
  have hback : ∀ r o, lkH (canonH (rnKeep s.hp keep) s.hp keep) r = some o → ∃ o1, lkH s.hp r = some o1 ∧ o = renO (rnKeep s.hp keep) 0 o1 := by
    intro r o h
    rw [lk_canonH] at h
    split at h
    · cases hq : lkH s.hp r with
      | none => rw [hq] at h; simp at h
      | some o1 => rw [hq] at h; simp only [Option.map_some, Option.some.injEq] at h; exact ⟨o1, rfl, h.symm⟩
    · simp at h
  refine ⟨fun t => ?_, ⟨⟨fun r o hr => ?_, fun r r' o o' b hne hr hr' hb => ?_⟩, hs.mem.gl, hs.mem.fr, fun r o b hr hb => ?_, fun r o h64 hr => ?_⟩, hs.df, hs.sz⟩
  · simp only [Eng.canon]
    rw [lk_canonE]
    split
    · exact ren_rel hrn _ _ (hs.env t)
    · simp [RelA]
  · obtain ⟨o1, e1, rfl⟩ := hback r o hr
    exact RelO_ren hrn (hs.mem.rh.obj r o1 e1) rfl
  · obtain ⟨o1, e1, rfl⟩ := hback r o hr
    obtain ⟨o2, e2, rfl⟩ := hback r' o' hr'
    exact hs.mem.rh.sep r r' o1 o2 b hne e1 e2 hb
  · obtain ⟨o1, e1, rfl⟩ := hback r o hr
    exact hs.mem.own r o1 b e1 hb
  · obtain ⟨o1, e1, rfl⟩ := hback r o hr
    rw [isBox_renO]
    exact hs.mem.arg r o1 h64 e1
def LoopOk (X : Ctx) (S : Sp) (n : Nat) : Prop :=
  ∀ (B : Base) (live keep : List Nat) (b : RC) (b' : Code) (s s' : St) (e : Ex) (g : Nat → Value) (K : Kom) (w : World) (a : Act) (Q : Exit → Act → World → Prop),
    chkC X B.nt b b' = true → S.loop (.loop live keep b) s = some (e, s') → RelS X B s g K w a → (∀ g' K' w' a', RelS X B s' g' K' w' a' → Q (toExit e) a' w') → Code.rounds X.P b' Q n a w
theorem ev_sound {S : Sp} {n : Nat} (hmix : X.P.follows .mixedOrders = true) (hS : SpOk X S) (hL : LoopOk X S n) : ∀ (c : RC) (code : Code) {s s' : St} {e : Ex} {g : Nat → Value} {K : Kom} {w : World} {a : Act} {Q : Exit → Act → World → Prop},
    chkC X B.nt c code = true → ev S X.G c s = some (e, s') → RelS X B s g K w a → (∀ g' K' w' a', RelS X B s' g' K' w' a' → Q (toExit e) a' w') → code.wp X.P Q a w := by
  intro c
  induction c with
  | skip =>
    intro code s s' e g K w a Q hc he hs hq
    simp only [ev, Option.some.injEq, Prod.mk.injEq] at he
    obtain ⟨rfl, rfl⟩ := he
    cases code <;> simp [chkC] at hc
    · exact wp_skip (hq _ _ _ _ hs)
    · exact wp_label (hq _ _ _ _ hs)
  | reg rs =>
    intro code s s' e g K w a Q hc he hs hq
    simp only [ev] at he
    split at he
    · rename_i s1 h1
      simp only [Option.some.injEq, Prod.mk.injEq] at he
      obtain ⟨rfl, rfl⟩ := he
      cases code with
      | region id ops d =>
        cases d with
        | false => simp only [chkC] at hc; exact wp_reg hS hc h1 hs hq
        | true => simp [chkC] at hc
      | _ => simp [chkC] at hc
    · simp at he
  | drw rs masks =>
    intro code s s' e g K w a Q hc he hs hq
    simp only [ev] at he
    split at he
    · rename_i s1 fs h1
      cases hok : drwOk [] masks fs with
      | false => rw [hok] at he; simp at he
      | true =>
        rw [hok] at he
        simp only [cond_true, Option.some.injEq, Prod.mk.injEq] at he
        obtain ⟨rfl, rfl⟩ := he
        cases code with
        | region id ops d =>
          cases d with
          | false => simp [chkC] at hc
          | true =>
            simp only [chkC, Bool.and_eq_true] at hc
            exact wp_drw hS hmix hc.1.1 hc.1.2 hc.2 h1 hok hs hq
        | _ => simp [chkC] at hc
    · simp at he
  | seq x y ihx ihy =>
    intro code s s' e g K w a Q hc he hs hq
    cases code with
    | seq x' y' =>
      simp only [chkC, Bool.and_eq_true] at hc
      refine wp_seq ?_
      simp only [ev] at he
      split at he
      · rename_i s1 h1
        exact ihx x' hc.1 h1 hs fun g' K' w' a' hs' => ihy y' hc.2 he hs' hq
      · rename_i hne
        refine ihx x' hc.1 he hs fun g' K' w' a' hs' => ?_
        have := hq g' K' w' a' hs'
        cases e with
        | normal => exact absurd he (hne s')
        | exit id => exact this
        | ret => exact this
    | _ => simp [chkC] at hc
  | cond c x y ihx ihy =>
    intro code s s' e g K w a Q hc he hs hq
    cases code with
    | cond c' x' y' =>
      simp only [chkC, Bool.and_eq_true] at hc
      simp only [ev] at he
      split at he
      · rename_i b hb
        have hv := opd_rel hs hc.1.1
        rw [hb] at hv
        simp only [RelA, RelP] at hv
        refine wp_cond (t := b) hv ?_
        cases b with
        | true => exact ihx x' hc.1.2 he hs hq
        | false => exact ihy y' hc.2 he hs hq
      · simp at he
    | _ => simp [chkC] at hc
  | block id b ih =>
    intro code s s' e g K w a Q hc he hs hq
    cases code with
    | block id' b' =>
      simp only [chkC, Bool.and_eq_true, decide_eq_true_eq] at hc
      obtain ⟨rfl, hc⟩ := hc
      refine wp_block ?_
      simp only [ev] at he
      split at he
      · rename_i id' s1 h1
        refine ih b' hc h1 hs fun g' K' w' a' hs' => ?_
        simp only [toExit, Exit.inBlock]
        cases hb : Nat.beq id' id with
        | true =>
          rw [hb] at he
          rw [beqN] at hb; subst hb
          simp only [cond_true, Option.some.injEq, Prod.mk.injEq] at he
          obtain ⟨rfl, rfl⟩ := he
          simp only [if_true]
          exact hq _ _ _ _ hs'
        | false =>
          rw [hb] at he
          have hne : id' ≠ id := fun e => by rw [beqN.2 e] at hb; simp at hb
          simp only [cond_false, Option.some.injEq, Prod.mk.injEq] at he
          obtain ⟨rfl, rfl⟩ := he
          simp only [hne, if_false]
          exact hq _ _ _ _ hs'
      · rename_i hne
        refine ih b' hc he hs fun g' K' w' a' hs' => ?_
        have := hq g' K' w' a' hs'
        cases e with
        | normal => exact this
        | exit id' => exact absurd he (hne id' s')
        | ret => exact this
    | _ => simp [chkC] at hc
  | loop live keep b ih =>
    intro code s s' e g K w a Q hc he hs hq
    cases code with
    | loop b' =>
      simp only [chkC] at hc
      simp only [ev] at he
      exact wp_loop_rounds n (hL B live keep b b' s s' e g K w a Q hc he hs hq)
    | _ => simp [chkC] at hc
  | exit id =>
    intro code s s' e g K w a Q hc he hs hq
    simp only [ev, Option.some.injEq, Prod.mk.injEq] at he
    obtain ⟨rfl, rfl⟩ := he
    cases code <;> simp [chkC] at hc
    subst hc
    exact wp_exit (hq _ _ _ _ hs)
  | ret =>
    intro code s s' e g K w a Q hc he hs hq
    simp only [ev, Option.some.injEq, Prod.mk.injEq] at he
    obtain ⟨rfl, rfl⟩ := he
    cases code <;> simp [chkC] at hc
    exact wp_ret (hq _ _ _ _ hs)
theorem lk_initE : ∀ (l : List AV) (k t : Nat), lkE (initE k l) t = if k ≤ t then (cellA l (t - k)).getD .undef else .undef
  | [], k, t => by simp [initE, lkE, cellA]
  | v :: l, k, t => by
    simp only [initE]
    by_cases e : k = t
    · subst e
      rw [lkE_cons_same]
      simp [cellA]
    · rw [lkE_cons_ne _ _ e, lk_initE l (k + 1) t]
      by_cases h : k ≤ t
      · have h1 : k + 1 ≤ t := by omega
        have h2 : t - k = (t - (k + 1)) + 1 := by omega
        simp [h, h1, h2, cellA]
      · have h1 : ¬ k + 1 ≤ t := by omega
        simp [h, h1]
def resF (a : Act) : ResultVar → Sem Value
  | .tmp t => pure (a.tmps.getD t undef)
  | .cell p t => do loadVar t (← asAddr (a.tmps.getD p undef))
theorem results_rel (hs : RelS X B s g K w a) : ∀ {rs : List RRes} {ls : List ResultVar} {vs : List AV}, chkRes X rs ls = true → resVs s rs = some vs →
    ∃ cs : List Value, (ls.mapM (resF a)).run X.P w = .ok cs w ∧ RelAs X.fid K w s.hp g vs cs
  | [], [], vs, _, h => by
    simp only [resVs, Option.some.injEq] at h; subst h
    exact ⟨[], rfl, by simp [RelAs]⟩
  | .tmp t :: rs, .tmp t' :: ls, vs, hc, h => by
    simp only [chkRes, Bool.and_eq_true, decide_eq_true_eq] at hc
    obtain ⟨rfl, hc⟩ := hc
    simp only [resVs, resV] at h
    cases hq : resVs s rs with
    | none => rw [hq] at h; simp at h
    | some us =>
      rw [hq] at h
      simp only [Option.some.injEq] at h; subst h
      obtain ⟨cs, e1, e2⟩ := results_rel hs hc hq
      refine ⟨a.tmps.getD t undef :: cs, ?_, by simp only [RelAs]; exact ⟨_, _, rfl, frz_rel hs.mem.rh (hs.env t), e2⟩⟩
      simp only [List.mapM_cons, Sem.run_bind, resF, Sem.run_pure, Result.andThen_ok, e1]
  | .cell t n ag :: rs, .cell t' ty :: ls, vs, hc, h => by
    simp only [chkRes, Bool.and_eq_true, decide_eq_true_eq] at hc
    obtain ⟨⟨⟨rfl, h1⟩, h2⟩, hc⟩ := hc
    simp only [resVs] at h
    cases hv : resV s (.cell t n ag) with
    | none => rw [hv] at h; simp at h
    | some v =>
      rw [hv] at h
      cases hq : resVs s rs with
      | none => rw [hq] at h; simp at h
      | some us =>
        rw [hq] at h
        simp only [Option.some.injEq] at h; subst h
        obtain ⟨cs, e1, e2⟩ := results_rel hs hc hq
        simp only [resV] at hv
        split at hv
        · rename_i r off hr
          split at hv
          · rename_i m u hl
            have h3 := hs.env t
            rw [hr] at h3
            simp only [RelA] at h3
            obtain ⟨n', v', b, f1, f2, f3⟩ := h3
            obtain ⟨b', cur, T, k1, k2, k3, k4, k5, k6, k7⟩ := hs.mem.rh.obj r _ hl
            rw [f2] at k1
            simp only [Value.pointer.injEq, Option.some.injEq, Addr.mk.injEq, and_true] at k1
            subst k1
            obtain ⟨g1, g2, g3⟩ := partOf_rel hv k7 (by simpa using k3)
            have hle : off + n ≤ cur.size := by omega
            cases ag with
            | true =>
              refine ⟨.agg ((cur.toList.drop off).take n).toArray :: cs, ?_, by simp only [RelAs]; exact ⟨_, _, rfl, frz_rel hs.mem.rh (g2 rfl), e2⟩⟩
              have hx : (resF a (.cell t ty)).run X.P w = .ok (.agg ((cur.toList.drop off).take n).toArray) w := by
                simp only [resF, f3, asAddr, Sem.run_bind, Sem.run_pure, Result.andThen_ok, run_loadVar_agg h1 h2 k2 hle]
              simp only [List.mapM_cons, Sem.run_bind, hx, Result.andThen_ok, e1, Sem.run_pure]
            | false =>
              obtain ⟨rfl, c, q1, q2⟩ := g3 rfl
              refine ⟨c :: cs, ?_, by simp only [RelAs]; exact ⟨_, _, rfl, frz_rel hs.mem.rh q2, e2⟩⟩
              have hx : (resF a (.cell t ty)).run X.P w = .ok c w := by
                simp only [resF, f3, asAddr, Sem.run_bind, Sem.run_pure, Result.andThen_ok]
                exact run_loadVar_one h2 k2 (by simpa using q1)
              simp only [List.mapM_cons, Sem.run_bind, hx, Result.andThen_ok, e1, Sem.run_pure]
          · simp at hv
        · simp at hv
  | [], _ :: _, _, h, _ => by simp [chkRes] at h
  | .tmp _ :: _, [], _, h, _ => by simp [chkRes] at h
  | .cell _ _ _ :: _, [], _, h, _ => by simp [chkRes] at h
  | .tmp _ :: _, .cell _ _ :: _, _, h, _ => by simp [chkRes] at h
  | .cell _ _ _ :: _, .tmp _ :: _, _, h, _ => by simp [chkRes] at h
theorem startsAt_nth : ∀ {l : List Nat} {i n j : Nat}, startsAt i n l = true → j < n → nthN l j = some (i + j)
  | l, i, 0, j, _, h => by omega
  | [], i, n + 1, j, h, _ => by simp [startsAt] at h
  | r :: l, i, n + 1, j, h, hj => by
    simp only [startsAt, Bool.and_eq_true, beqN] at h
    obtain ⟨rfl, h⟩ := h
    cases j with
    | zero => rfl
    | succ j =>
      simp only [nthN]
      rw [startsAt_nth h (by omega)]
      congr 1; omega
end
end Eng

namespace Eng
open Go
def ExtOk (X : Ctx) (f : Nat) (rf : RFunc) : Prop := ∀ (S : Sp) (args : List AV) (h h' : List Obj) (res : AV), runBody S X.G rf args h = some (res, h') → Enters X f ∧ CallOk X f args h res h'
def FnOk (X : Ctx) (f : Nat) (rf : RFunc) : Prop := chkF X f rf = true ∨ ExtOk X f rf
structure Linked (X : Ctx) (R : RProg) : Prop where
  mix : X.P.follows .mixedOrders = true
  ok : ∀ f rf, R f = some rf → FnOk X f rf
section
variable {X : Ctx} {R : RProg}
theorem cellA_RelAs {fid : Nat → FuncId} {K : Kom} {w : World} {hp : Heap} {g : Nat → Value} : ∀ {vs : List AV} {l : List Value} (t : Nat), RelAs fid K w hp g vs l → RelA fid K w hp g ((cellA vs t).getD .undef) (l[t]?.getD undef)
  | [], l, t, _ => by simp [cellA, RelA]
  | v :: vs, l, 0, h => by
    simp only [RelAs] at h
    obtain ⟨c, t, rfl, h1, _⟩ := h
    simpa [cellA] using h1
  | v :: vs, l, t + 1, h => by
    simp only [RelAs] at h
    obtain ⟨c, u, rfl, _, h2⟩ := h
    simpa [cellA] using cellA_RelAs t h2
theorem body_ok {S : Sp} {n : Nat} (hl : Linked X R) (hS : SpOk X S) (hL : LoopOk X S n) {f : Nat} {rf : RFunc} {args : List AV} {h h' : List Obj} {res : AV} (hR : R f = some rf) (hb : runBody S X.G rf args h = some (res, h')) :
    Enters X f ∧ CallOk X f args h res h' := by
  rcases hl.ok f rf hR with hc | hx
  case inr => exact hx S args h h' res hb
  unfold chkF at hc
  split at hc
  · rename_i fn hfn
    simp only [Bool.and_eq_true, Bool.not_eq_true'] at hc
    obtain ⟨⟨h1, h2⟩, h3⟩ := hc
    split at h2
    · rename_i code hcode
      refine ⟨⟨fn, hfn, h1, by rw [hcode]; rfl⟩, ?_⟩
      intro w K g cargs hrh hgl hargs h64
      refine calls_of_wp hfn hcode ?_
      let B : Base := { nt := fn.ntmps, O := ownedBy (initH 0 h) g, K0 := K, w0 := w, h0 := initH 0 h, g0 := g }
      have hinit : RelS X B ⟨initE 0 args, initH 0 h⟩ g K w { tmps := cargs ++ Array.replicate (fn.ntmps - cargs.size) undef, defers := [] } := by
        refine ⟨fun t => ?_, ⟨hrh, hgl, ⟨rfl, rfl, rfl, Nat.le_refl _, fun _ _ _ => ⟨rfl, rfl⟩, Keep.refl K w⟩, fun r o b hr hb => .inl ⟨r, o, hr, hb⟩, fun r o _ hr => ⟨o, hr, rfl, fun _ => rfl⟩⟩, rfl, ?_⟩
        · rw [lk_initE]
          simp only [Nat.zero_le, if_true, Nat.sub_zero]
          have := cellA_RelAs t hargs
          by_cases ht : t < cargs.size
          · have e : (cargs ++ Array.replicate (fn.ntmps - cargs.size) undef).getD t undef = cargs.toList[t]?.getD undef := by
              rw [Array.getD_eq_getD_getElem?, Array.getElem?_append_left ht]; simp
            rw [e]; exact this
          · have hlen := RelAs_length hargs
            have e : cellA args t = none := by
              have : ∀ (l : List AV) (t : Nat), l.length ≤ t → cellA l t = none := by
                intro l
                induction l with
                | nil => intro t _; rfl
                | cons x l ih =>
                  intro t h
                  cases t with
                  | zero => simp at h
                  | succ t => simp only [cellA]; exact ih t (by simpa using h)
              exact this args t (by simp at hlen; omega)
            rw [e]
            simp [RelA]
        · show fn.ntmps ≤ (cargs ++ Array.replicate (fn.ntmps - cargs.size) undef).size
          simp; omega
      unfold runBody at hb
      cases hp : Nat.beq args.length rf.params with
      | false => rw [hp] at hb; simp at hb
      | true =>
        rw [hp] at hb
        simp only [cond_true] at hb
        have key : ∀ (e : Ex) (s : St), (e = .normal ∨ e = .ret) → ev S X.G rf.body ⟨initE 0 args, initH 0 h⟩ = some (e, s) → finish h.length rf.res s = some (res, h') →
            code.wp X.P (bodyPost X.P fn fun e w' => ∃ c K' g', e = .returned c ∧ Fr (ownedBy (initH 0 h) g) K w K' w' ∧ GRel X K' w' ∧ RelH X.fid K' w' (initH 0 h') g' ∧
              RelA X.fid K' w' (initH 0 h') g' res c ∧ (∀ r o b, lkH (initH 0 h') r = some o → blkV (g' r) = some b → ownedBy (initH 0 h) g b ∨ w.heap.size ≤ b) ∧
              ∀ r o, lkH (initH 0 h) r = some o → ∃ o', lkH (initH 0 h') r = some o' ∧ isBox o' = isBox o ∧ (isBox o ≠ 0 → g' r = g r)) { tmps := cargs ++ Array.replicate (fn.ntmps - cargs.size) undef, defers := [] } w := by
          intro e s he hev hfin
          refine ev_sound hl.mix hS hL rf.body code (B := B) h2 hev hinit fun g1 K1 w1 a1 hs1 => ?_
          have hpost : a1.defers = [] ∧ ∃ v, (results fn a1.tmps).run X.P w1 = .ok v w1 ∧ ∃ c K' g', Ending.returned v = .returned c ∧ Fr (ownedBy (initH 0 h) g) K w K' w1 ∧ GRel X K' w1 ∧ RelH X.fid K' w1 (initH 0 h') g' ∧
              RelA X.fid K' w1 (initH 0 h') g' res c ∧ (∀ r o b, lkH (initH 0 h') r = some o → blkV (g' r) = some b → ownedBy (initH 0 h) g b ∨ w.heap.size ≤ b) ∧
              ∀ r o, lkH (initH 0 h) r = some o → ∃ o', lkH (initH 0 h') r = some o' ∧ isBox o' = isBox o ∧ (isBox o ≠ 0 → g' r = g r) := by
            unfold finish at hfin
            split at hfin
            · simp at hfin
            · rename_i vs hvs
              split at hfin
              · simp at hfin
              · rename_i order hor
                dsimp only at hfin
                cases hd : (distinctN order && startsAt 0 h.length order) with
                | false => rw [hd] at hfin; simp at hfin
                | true =>
                  rw [hd] at hfin
                  simp only [Bool.and_eq_true] at hd
                  obtain ⟨hd1, hd2⟩ := hd
                  simp only [cond_true] at hfin
                  split at hfin
                  · simp at hfin
                  · rename_i objs ho
                    simp only [Option.some.injEq, Prod.mk.injEq] at hfin
                    obtain ⟨rfl, rfl⟩ := hfin
                    obtain ⟨cs, e1, e2⟩ := results_rel hs1 h3 hvs
                    have hrn := rn_in (g := g1) ho
                    have hvals := renL_rel hrn _ _ e2
                    have hrh' := relH_in hs1.mem.rh hd1 ho
                    have hres : (results fn a1.tmps).run X.P w1 = .ok (if hh : cs.toArray.size = 1 then cs.toArray[0] else .tuple cs.toArray) w1 := by
                      have hdef : results fn a1.tmps = (fn.results.mapM (resF a1) >>= fun vs => pure (if h : vs.size = 1 then vs[0] else .tuple vs)) := by
                        unfold results
                        congr 2
                      have e3 : (fn.results.mapM (resF a1)).run X.P w1 = .ok cs.toArray w1 := by
                        rw [Array.mapM_eq_mapM_toList, Sem.run_map, e1]
                        rfl
                      rw [hdef, Sem.run_bind, e3]
                      rfl
                    refine ⟨hs1.df, _, hres, _, K1, gIn order g1, rfl, hs1.mem.fr, hs1.mem.gl, hrh', ?_, ?_, ?_⟩
                    · -- the value
                      have hlen := RelAs_length hvals
                      unfold oneOf
                      split
                      · rename_i v hv
                        rw [hv] at hvals hlen
                        simp only [RelAs] at hvals
                        obtain ⟨c, l', rfl, k1, rfl⟩ := hvals
                        simpa using k1
                      · rename_i hv
                        have hne : cs.toArray.size ≠ 1 := by
                          intro hh
                          have : (renL (rnIn s.hp order) vs).length = 1 := by rw [← hlen]; simpa using hh
                          match hq : renL (rnIn s.hp order) vs, this with
                          | [x], _ => exact hv x hq
                        rw [dif_neg hne]
                        simp only [RelA]
                        exact ⟨cs.toArray, rfl, by simpa using hvals⟩
                    · intro i o b hi hb
                      rw [lk_init] at hi
                      have hlt := nthO_some hi
                      rw [(getOs_nth 0 ho).1] at hlt
                      obtain ⟨r, hr⟩ := nthN_lt hlt
                      obtain ⟨o1, q1, q2⟩ := (getOs_nth i ho).2 r hr
                      rw [gIn_nth hr] at hb
                      exact hs1.mem.own r o1 b q1 hb
                    · intro r o hr
                      rw [lk_init] at hr
                      have hlt := nthO_some hr
                      have hn := startsAt_nth hd2 hlt
                      simp only [Nat.zero_add] at hn
                      obtain ⟨o1, q1, q2⟩ := (getOs_nth r ho).2 r hn
                      obtain ⟨o0, p1, p2, p3⟩ := hs1.mem.arg r o1 (by omega) q1
                      have p1' : nthO h r = some o0 := by rw [← lk_init]; exact p1
                      rw [hr] at p1'
                      simp only [Option.some.injEq] at p1'; subst p1'
                      refine ⟨_, by rw [lk_init]; exact q2, by rw [isBox_renO]; exact p2, fun hbx => ?_⟩
                      rw [gIn_nth hn]
                      exact p3 (by rw [p2]; exact hbx)
          rcases he with rfl | rfl
          · exact hpost
          · exact hpost
        split at hb
        · rename_i s hev
          exact key .normal s (.inl rfl) hev hb
        · rename_i s hev
          exact key .ret s (.inr rfl) hev hb
        · simp at hb
    · simp at h2
  · simp at hc
theorem sp_ok (hl : Linked X R) : ∀ n, SpOk X (SpN R X.G n) ∧ LoopOk X (SpN R X.G n) n
  | 0 => by
    refine ⟨fun f args h res h' hc => ?_, fun B live keep b b' s s' e g K w a Q _ hc => ?_⟩
    · simp [SpN] at hc
    · simp [SpN] at hc
  | n + 1 => by
    obtain ⟨hS, hL⟩ := sp_ok hl n
    refine ⟨fun f args h res h' hc => ?_, fun B live keep b b' s s' e g K w a Q hchk hc hs hq => ?_⟩
    · simp only [SpN] at hc
      split at hc
      · rename_i rf hR
        exact body_ok hl hS hL hR hc
      · simp at hc
    · simp only [SpN, loopStep] at hc
      rw [rounds_succ]
      split at hc
      · rename_i s1 h1
        refine ev_sound hl.mix hS hL b b' hchk h1 (hs.canon live keep) fun g' K' w' a' hs' => ?_
        exact hL B live keep b b' s1 s' e g' K' w' a' Q hchk hc hs' hq
      · rename_i e1 s1 hne h1
        simp only [Option.some.injEq, Prod.mk.injEq] at hc
        obtain ⟨rfl, rfl⟩ := hc
        refine ev_sound hl.mix hS hL b b' hchk h1 (hs.canon live keep) fun g' K' w' a' hs' => ?_
        have := hq g' K' w' a' (hs'.canon live keep)
        cases e1 with
        | normal => exact (hne rfl).elim
        | exit id => exact this
        | ret => exact this
      · simp at hc
end
end Eng

namespace Eng
open Go
structure SpLe (S S' : Sp) : Prop where
  call : ∀ f a h r, S.call f a h = some r → S'.call f a h = some r
  loop : ∀ c s r, S.loop c s = some r → S'.loop c s = some r
section
variable {S S' : Sp} {G : Nat → AV}
theorem callOp_mono (hl : SpLe S S') {hp : Heap} {site f : Nat} {args : List AV} {res : Res} (h : callOp S hp site f args = some res) : callOp S' hp site f args = some res := by
  unfold callOp at h ⊢
  dsimp only at h ⊢
  split at h
  · simp at h
  · cases hb : (distinctN _ && Nat.ble _ 64) with
    | false => rw [hb] at h; simp at h
    | true =>
      rw [hb] at h
      simp only [cond_true] at h ⊢
      split at h
      · simp at h
      · split at h
        · simp at h
        · rename_i hc
          rw [hl.call _ _ _ _ hc]
          exact h
theorem stepOp_mono (hl : SpLe S S') {env : List (Nat × AV)} {hp : Heap} {r : ROp} {res : Res} (h : stepOp S G env hp r = some res) : stepOp S' G env hp r = some res := by
  cases r with
  | call site f xs => simp only [stepOp] at h ⊢; exact callOp_mono hl h
  | callv site f xs =>
    simp only [stepOp] at h ⊢
    split at h
    · exact callOp_mono hl h
    · simp at h
  | _ => exact h
theorem stepRO_mono (hl : SpLe S S') {r : RO} {s : St} {x : St × Foot} (h : stepRO S G r s = some x) : stepRO S' G r s = some x := by
  unfold stepRO at h ⊢
  split at h
  · split at h
    · rename_i res hres
      simp only [stepOp_mono hl hres]; exact h
    · simp at h
  · exact h
  · simp at h
theorem runOps_mono (hl : SpLe S S') : ∀ {ops : List RO} {s s' : St}, runOps S G ops s = some s' → runOps S' G ops s = some s'
  | [], s, s', h => h
  | o :: os, s, s', h => by
    simp only [runOps] at h ⊢
    split at h
    · rename_i s1 f h1
      simp only [stepRO_mono hl h1]
      exact runOps_mono hl h
    · simp at h
theorem runDrw_mono (hl : SpLe S S') : ∀ {ops : List RO} {s : St} {x : St × List Foot}, runDrw S G ops s = some x → runDrw S' G ops s = some x
  | [], s, s', h => h
  | o :: os, s, s', h => by
    simp only [runDrw] at h ⊢
    split at h
    · rename_i s1 f h1
      split at h
      · rename_i s2 fs h2
        simp only [stepRO_mono hl h1, runDrw_mono hl h2]; exact h
      · simp at h
    · simp at h
theorem ev_mono (hl : SpLe S S') : ∀ {c : RC} {s : St} {x : Ex × St}, ev S G c s = some x → ev S' G c s = some x := by
  intro c
  induction c with
  | skip => intro s x h; exact h
  | reg ops =>
    intro s x h
    simp only [ev] at h ⊢
    split at h
    · rename_i s1 h1; rw [runOps_mono hl h1]; exact h
    · simp at h
  | drw ops masks =>
    intro s x h
    simp only [ev] at h ⊢
    split at h
    · rename_i s1 fs h1; rw [runDrw_mono hl h1]; exact h
    · simp at h
  | seq a b iha ihb =>
    intro s x h
    simp only [ev] at h ⊢
    split at h
    · rename_i s1 h1
      rw [iha h1]
      exact ihb h
    · rename_i hne
      cases hq : ev S G a s with
      | none => rw [hq] at h; simp at h
      | some y =>
        rw [iha hq]
        rw [hq] at h hne
        simp only [Option.some.injEq] at h; subst h
        obtain ⟨e, s1⟩ := y
        cases e with
        | normal => exact absurd rfl (hne s1)
        | _ => rfl
  | cond c a b iha ihb =>
    intro s x h
    simp only [ev] at h ⊢
    split at h
    · rename_i t ht
      cases t
      · exact ihb h
      · exact iha h
    · simp at h
  | block id b ih =>
    intro s x h
    simp only [ev] at h ⊢
    cases hq : ev S G b s with
    | none => rw [hq] at h; simp at h
    | some y => rw [ih hq]; rw [hq] at h; exact h
  | loop l k b ih => intro s x h; simp only [ev] at h ⊢; exact hl.loop _ _ _ h
  | exit id => intro s x h; exact h
  | ret => intro s x h; exact h
theorem runBody_mono (hl : SpLe S S') {f : RFunc} {a : List AV} {h : List Obj} {r : AV × List Obj} (hb : runBody S G f a h = some r) : runBody S' G f a h = some r := by
  unfold runBody at hb ⊢
  cases hp : Nat.beq a.length f.params with
  | false => rw [hp] at hb; simp at hb
  | true =>
    rw [hp] at hb
    simp only [cond_true] at hb ⊢
    cases hq : ev S G f.body ⟨initE 0 a, initH 0 h⟩ with
    | none => rw [hq] at hb; simp at hb
    | some y => rw [ev_mono hl hq]; rw [hq] at hb; exact hb
theorem loopStep_mono (hl : SpLe S S') {c : RC} {s : St} {x : Ex × St} (h : loopStep S G c s = some x) : loopStep S' G c s = some x := by
  cases c with
  | loop l k b =>
    simp only [loopStep] at h ⊢
    cases hq : ev S G b (canon l k s) with
    | none => rw [hq] at h; simp at h
    | some y =>
      rw [ev_mono hl hq]
      rw [hq] at h
      obtain ⟨e, s1⟩ := y
      cases e with
      | normal => exact hl.loop _ _ _ h
      | _ => exact h
  | _ => simp [loopStep] at h
end
section
variable (R : RProg) (G : Nat → AV)
theorem SpN_succ : ∀ n, SpLe (SpN R G n) (SpN R G (n + 1))
  | 0 => ⟨fun f a h r hc => by simp [SpN] at hc, fun c s r hc => by simp [SpN] at hc⟩
  | n + 1 => by
    have ih := SpN_succ n
    refine ⟨fun f a h r hc => ?_, fun c s r hc => ?_⟩
    · simp only [SpN] at hc
      rw [show (SpN R G (n + 1 + 1)).call f a h = (match R f with | some rf => runBody (SpN R G (n + 1)) G rf a h | none => none) from rfl]
      split at hc
      · rename_i rf hR
        simp only [hR]
        exact runBody_mono ih hc
      · simp at hc
    · exact loopStep_mono ih hc
theorem SpLe.refl (S : Sp) : SpLe S S := ⟨fun _ _ _ _ h => h, fun _ _ _ h => h⟩
theorem SpLe.trans {S S' S'' : Sp} (h : SpLe S S') (h' : SpLe S' S'') : SpLe S S'' := ⟨fun f a hh r hc => h'.call _ _ _ _ (h.call _ _ _ _ hc), fun c s r hc => h'.loop _ _ _ (h.loop _ _ _ hc)⟩
theorem SpN_le {n m : Nat} (h : n ≤ m) : SpLe (SpN R G n) (SpN R G m) := by
  induction h with
  | refl => exact SpLe.refl _
  | step _ ih => exact ih.trans (SpN_succ R G _)
open Classical in
noncomputable def Lim : Sp where
  call f a h := if hx : ∃ n r, (SpN R G n).call f a h = some r then some (choose (choose_spec hx)) else none
  loop c s := if hx : ∃ n r, (SpN R G n).loop c s = some r then some (choose (choose_spec hx)) else none
open Classical in
theorem lim_of {n : Nat} : SpLe (SpN R G n) (Lim R G) := by
  refine ⟨fun f a h r hc => ?_, fun c s r hc => ?_⟩
  · have hx : ∃ n r, (SpN R G n).call f a h = some r := ⟨n, r, hc⟩
    show (if hx : ∃ n r, (SpN R G n).call f a h = some r then some (Classical.choose (Classical.choose_spec hx)) else none) = some r
    rw [dif_pos hx]
    have h1 := Classical.choose_spec (Classical.choose_spec hx)
    have h2 := (SpN_le R G (Nat.le_max_left (Classical.choose hx) n)).call _ _ _ _ h1
    have h3 := (SpN_le R G (Nat.le_max_right (Classical.choose hx) n)).call _ _ _ _ hc
    rw [h2] at h3
    exact h3
  · have hx : ∃ n r, (SpN R G n).loop c s = some r := ⟨n, r, hc⟩
    show (if hx : ∃ n r, (SpN R G n).loop c s = some r then some (Classical.choose (Classical.choose_spec hx)) else none) = some r
    rw [dif_pos hx]
    have h1 := Classical.choose_spec (Classical.choose_spec hx)
    have h2 := (SpN_le R G (Nat.le_max_left (Classical.choose hx) n)).loop _ _ _ h1
    have h3 := (SpN_le R G (Nat.le_max_right (Classical.choose hx) n)).loop _ _ _ hc
    rw [h2] at h3
    exact h3
open Classical in
theorem lim_call {f : Nat} {a : List AV} {h : List Obj} {r : AV × List Obj} (hc : (Lim R G).call f a h = some r) : ∃ n, (SpN R G n).call f a h = some r := by
  have hc' : (if hx : ∃ n r, (SpN R G n).call f a h = some r then some (Classical.choose (Classical.choose_spec hx)) else none) = some r := hc
  split at hc'
  · rename_i hx
    simp only [Option.some.injEq] at hc'
    refine ⟨Classical.choose hx, ?_⟩
    rw [← hc']
    exact Classical.choose_spec (Classical.choose_spec hx)
  · simp at hc'
open Classical in
theorem lim_loop {c : RC} {s : St} {r : Ex × St} (hc : (Lim R G).loop c s = some r) : ∃ n, (SpN R G n).loop c s = some r := by
  have hc' : (if hx : ∃ n r, (SpN R G n).loop c s = some r then some (Classical.choose (Classical.choose_spec hx)) else none) = some r := hc
  split at hc'
  · rename_i hx
    simp only [Option.some.injEq] at hc'
    refine ⟨Classical.choose hx, ?_⟩
    rw [← hc']
    exact Classical.choose_spec (Classical.choose_spec hx)
  · simp at hc'
theorem stepRO_lim {r : RO} {s : St} {x : St × Foot} (h : stepRO (Lim R G) G r s = some x) : ∃ n, stepRO (SpN R G n) G r s = some x := by
  have key : ∀ {env : List (Nat × AV)} {hp : Heap} {op : ROp} {res : Res}, stepOp (Lim R G) G env hp op = some res → ∃ n, stepOp (SpN R G n) G env hp op = some res := by
    intro env hp op res h
    have hcall : ∀ {site f : Nat} {args : List AV}, callOp (Lim R G) hp site f args = some res → ∃ n, callOp (SpN R G n) hp site f args = some res := by
      intro site f args h
      unfold callOp at h
      dsimp only at h
      split at h
      · simp at h
      · rename_i order hor
        cases hb : (distinctN order && Nat.ble order.length 64) with
        | false => rw [hb] at h; simp at h
        | true =>
          rw [hb] at h
          simp only [cond_true] at h
          split at h
          · simp at h
          · rename_i objs ho
            split at h
            · simp at h
            · rename_i r' objs' hc
              obtain ⟨n, hn⟩ := lim_call R G hc
              refine ⟨n, ?_⟩
              unfold callOp
              simp only [hor, hb, cond_true, ho, hn]
              exact h
    cases op with
    | call site f xs => simp only [stepOp] at h ⊢; exact hcall h
    | callv site f xs =>
      simp only [stepOp] at h ⊢
      split at h
      · exact hcall h
      · simp at h
    | _ => exact ⟨0, h⟩
  unfold stepRO at h
  split at h
  · rename_i hw
    split at h
    · rename_i res hres
      obtain ⟨n, hn⟩ := key hres
      refine ⟨n, ?_⟩
      unfold stepRO
      simp only [hw, hn]; exact h
    · simp at h
  · rename_i hw
    exact ⟨0, by unfold stepRO; simp only [hw]; exact h⟩
  · simp at h
theorem runOps_lim : ∀ {ops : List RO} {s s' : St}, runOps (Lim R G) G ops s = some s' → ∃ n, runOps (SpN R G n) G ops s = some s'
  | [], s, s', h => ⟨0, h⟩
  | o :: os, s, s', h => by
    simp only [runOps] at h
    split at h
    · rename_i s1 f h1
      obtain ⟨n, hn⟩ := stepRO_lim R G h1
      obtain ⟨m, hm⟩ := runOps_lim h
      refine ⟨max n m, ?_⟩
      simp only [runOps, stepRO_mono (SpN_le R G (Nat.le_max_left n m)) hn]
      exact runOps_mono (SpN_le R G (Nat.le_max_right n m)) hm
    · simp at h
theorem runDrw_lim : ∀ {ops : List RO} {s : St} {x : St × List Foot}, runDrw (Lim R G) G ops s = some x → ∃ n, runDrw (SpN R G n) G ops s = some x
  | [], s, s', h => ⟨0, h⟩
  | o :: os, s, s', h => by
    simp only [runDrw] at h
    split at h
    · rename_i s1 f h1
      split at h
      · rename_i s2 fs h2
        obtain ⟨n, hn⟩ := stepRO_lim R G h1
        obtain ⟨m, hm⟩ := runDrw_lim h2
        refine ⟨max n m, ?_⟩
        simp only [runDrw, stepRO_mono (SpN_le R G (Nat.le_max_left n m)) hn, runDrw_mono (SpN_le R G (Nat.le_max_right n m)) hm]
        exact h
      · simp at h
    · simp at h
theorem ev_lim : ∀ {c : RC} {s : St} {x : Ex × St}, ev (Lim R G) G c s = some x → ∃ n, ev (SpN R G n) G c s = some x := by
  intro c
  induction c with
  | skip => intro s x h; exact ⟨0, h⟩
  | reg ops =>
    intro s x h
    simp only [ev] at h ⊢
    split at h
    · rename_i s1 h1
      obtain ⟨n, hn⟩ := runOps_lim R G h1
      exact ⟨n, by rw [hn]; exact h⟩
    · simp at h
  | drw ops masks =>
    intro s x h
    simp only [ev] at h ⊢
    split at h
    · rename_i s1 fs h1
      obtain ⟨n, hn⟩ := runDrw_lim R G h1
      exact ⟨n, by rw [hn]; exact h⟩
    · simp at h
  | seq a b iha ihb =>
    intro s x h
    simp only [ev] at h
    cases hq : ev (Lim R G) G a s with
    | none => rw [hq] at h; simp at h
    | some y =>
      obtain ⟨n, hn⟩ := iha hq
      obtain ⟨e, s1⟩ := y
      rw [hq] at h
      cases e with
      | normal =>
        obtain ⟨m, hm⟩ := ihb h
        refine ⟨max n m, ?_⟩
        simp only [ev, ev_mono (SpN_le R G (Nat.le_max_left n m)) hn]
        exact ev_mono (SpN_le R G (Nat.le_max_right n m)) hm
      | exit id => exact ⟨n, by simp only [ev, hn]; exact h⟩
      | ret => exact ⟨n, by simp only [ev, hn]; exact h⟩
  | cond c a b iha ihb =>
    intro s x h
    simp only [ev] at h
    split at h
    · rename_i t ht
      cases t
      · obtain ⟨n, hn⟩ := ihb h; exact ⟨n, by simp only [ev, ht]; exact hn⟩
      · obtain ⟨n, hn⟩ := iha h; exact ⟨n, by simp only [ev, ht]; exact hn⟩
    · simp at h
  | block id b ih =>
    intro s x h
    simp only [ev] at h
    cases hq : ev (Lim R G) G b s with
    | none => rw [hq] at h; simp at h
    | some y =>
      obtain ⟨n, hn⟩ := ih hq
      rw [hq] at h
      exact ⟨n, by simp only [ev, hn]; exact h⟩
  | loop l k b ih => intro s x h; simp only [ev] at h ⊢; exact lim_loop R G h
  | exit id => intro s x h; exact ⟨0, h⟩
  | ret => intro s x h; exact ⟨0, h⟩
variable {R G}
theorem call_eq {f : Nat} {rf : RFunc} {a : List AV} {h : List Obj} {r : AV × List Obj} (hR : R f = some rf) (hb : runBody (Lim R G) G rf a h = some r) : (Lim R G).call f a h = some r := by
  have key : ∃ n, runBody (SpN R G n) G rf a h = some r := by
    unfold runBody at hb
    cases hp : Nat.beq a.length rf.params with
    | false => rw [hp] at hb; simp at hb
    | true =>
      rw [hp] at hb
      simp only [cond_true] at hb
      cases hq : ev (Lim R G) G rf.body ⟨initE 0 a, initH 0 h⟩ with
      | none => rw [hq] at hb; simp at hb
      | some y =>
        obtain ⟨n, hn⟩ := ev_lim R G hq
        refine ⟨n, ?_⟩
        unfold runBody
        rw [hp, hn]
        rw [hq] at hb
        exact hb
  obtain ⟨n, hn⟩ := key
  refine (lim_of R G (n := n + 1)).call _ _ _ _ ?_
  simp only [SpN, hR]
  exact hn
theorem loop_eq {live keep : List Nat} {b : RC} {s : St} {r : Ex × St} (h : loopStep (Lim R G) G (.loop live keep b) s = some r) : (Lim R G).loop (.loop live keep b) s = some r := by
  have key : ∃ n, loopStep (SpN R G n) G (.loop live keep b) s = some r := by
    simp only [loopStep] at h ⊢
    cases hq : ev (Lim R G) G b (canon live keep s) with
    | none => rw [hq] at h; simp at h
    | some y =>
      obtain ⟨n, hn⟩ := ev_lim R G hq
      obtain ⟨e, s1⟩ := y
      rw [hq] at h
      cases e with
      | normal =>
        obtain ⟨m, hm⟩ := lim_loop R G h
        refine ⟨max n m, ?_⟩
        rw [ev_mono (SpN_le R G (Nat.le_max_left n m)) hn]
        exact (SpN_le R G (Nat.le_max_right n m)).loop _ _ _ hm
      | exit id => exact ⟨n, by rw [hn]; exact h⟩
      | ret => exact ⟨n, by rw [hn]; exact h⟩
  obtain ⟨n, hn⟩ := key
  exact (lim_of R G (n := n + 1)).loop _ _ _ hn
theorem lim_ok {X : Ctx} (hl : Linked X R) {f : Nat} {args : List AV} {h h' : List Obj} {res : AV} (hc : (Lim R X.G).call f args h = some (res, h')) : CallOk X f args h res h' := by
  obtain ⟨n, hn⟩ := lim_call R X.G hc
  exact ((sp_ok hl n).1 f args h res h' hn).2
end
end Eng

