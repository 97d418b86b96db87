/- The engine, part I: composites, new slices, slicing, append. -/
import Derived.Test.YtjfkhhfdfebpeaaGreatDoorEngA
import Derived.ChangeMaps4
set_option linter.all false
set_option linter.unusedVariables false
set_option linter.unusedSimpArgs false
namespace Eng
open Go
section
variable {X : Ctx} {B : Base} {s : St} {g : Nat → Value} {K : Kom} {w : World} {a : Act}
def placeS (X : Ctx) (fs : Array Field) (i : Nat) : Option (Nat × Nat) := match fs[i]? with
  | some f => match X.P.info? f.type with
    | some inf => some (f.offset, inf.size)
    | none => none
  | none => none
theorem run_places {fs : Array Field} (h : ∀ f ∈ fs.toList, (X.P.info? f.type).isSome = true) :
    ∃ ps : Array (Nat × Nat), (fs.mapM (m := Sem) fun f => do pure (f.offset, ← Go.sizeOf f.type)).run X.P w = .ok ps w ∧ ∀ i, ps[i]? = placeS X fs i := by
  have key : ∀ (l : List Field), (∀ f ∈ l, (X.P.info? f.type).isSome = true) → (l.mapM (m := Sem) fun f => do pure (f.offset, ← Go.sizeOf f.type)).run X.P w = .ok (l.map fun f => (f.offset, ((X.P.info? f.type).map (·.size)).getD 0)) w := by
    intro l
    induction l with
    | nil => intro _; rfl
    | cons f l ih =>
      intro hl
      obtain ⟨i, hi⟩ := Option.isSome_iff_exists.1 (hl f (by simp))
      have hsz : (Go.sizeOf f.type).run X.P w = Result.ok i.size w := by simp [Go.sizeOf, typeInfo, hi]
      have ih' := ih fun f' h' => hl f' (by simp [h'])
      simp only [List.mapM_cons, Sem.run_bind, hsz, Result.andThen_ok, Sem.run_pure, ih', List.map_cons, hi, Option.map_some, Option.getD_some]
  refine ⟨(fs.toList.map fun f => (f.offset, ((X.P.info? f.type).map (·.size)).getD 0)).toArray, ?_, fun i => ?_⟩
  · rw [Array.mapM_eq_mapM_toList, Sem.run_map, key _ h]
    rfl
  · simp only [placeS, List.getElem?_toArray, List.getElem?_map, Array.getElem?_toList]
    cases hq : fs[i]? with
    | none => rfl
    | some f =>
      have hm : f ∈ fs.toList := by
        have := Array.mem_of_getElem? hq
        simpa using this
      obtain ⟨inf, hi⟩ := Option.isSome_iff_exists.1 (h f hm)
      simp [hi]
theorem run_build_struct (hs : RelS X B s g K w a) {o : Oper} {z : List AV} {bs : List (Nat × Nat)} {ps : List (Nat × Nat × Opd)} {cs : List AV} {t : TypeId} {parts : Array (Nat × Operand)} {i : TypeInfo} {zv : Value} {fs : Array Field}
    (ho : o.op = .build t parts) (hi : X.P.info? t = some i) (hz : i.zero = some zv) (ht : X.P.underlying t = some (.struct fs)) (hfs : ∀ f ∈ fs.toList, (X.P.info? f.type).isSome = true)
    (hc : chkZ (X := X) bs z zv.cells.toList = true) (hf : freshAt s.hp (bufAts bs) = true) (hd : distinctN (bufAts bs) = true)
    (hp : ∀ p ∈ ps.zip parts.toList, placeS X fs p.2.1 = some (p.1.1, p.1.2.1) ∧ chkOpd X p.1.2.2 p.2.2 = true) (hl : ps.length = parts.toList.length)
    (hv : fillAV X.G s.env z ps = some cs) : OpRun X B s.hp g K w a o (pack cs) (mkBufs bs) := by
  obtain ⟨g1, hm1, hg1, hb1, hx1⟩ := hs.mem.bufs bs hf hd
  obtain ⟨pl, q1, q2⟩ := run_places (X := X) (w := w) hfs
  obtain ⟨r, e1, e2⟩ := run_fill (place := fun i => pl[i]?) hs hg1 hv (chkZ_rel hb1 hc) (fun p hp' => by rw [q2]; exact hp p hp') hl
  refine ⟨.agg r, w, K, g1, .inl ?_, hm1, Keep.refl K w, hg1, RelA_pack e2⟩
  have e3 : (parts.map fun (i, x) => (i, a.eval x)).toList = parts.toList.map fun q => (q.1, a.eval q.2) := by simp
  simp only [execOp, ho, Instr.build, zeroValue, typeInfo, Sem.run_bind, run_program, Result.andThen_ok, hi, hz, Sem.run_pure, run_underlying ht, q1, e3, e1]
theorem run_build_array (hs : RelS X B s g K w a) {o : Oper} {z : List AV} {bs : List (Nat × Nat)} {ps : List (Nat × Nat × Opd)} {cs : List AV} {t : TypeId} {parts : Array (Nat × Operand)} {i : TypeInfo} {zv : Value} {len e sz : Nat}
    (ho : o.op = .build t parts) (hi : X.P.info? t = some i) (hz : i.zero = some zv) (ht : X.P.underlying t = some (.array len e)) (hsz : szIs X e sz = true)
    (hc : chkZ (X := X) bs z zv.cells.toList = true) (hf : freshAt s.hp (bufAts bs) = true) (hd : distinctN (bufAts bs) = true)
    (hp : ∀ p ∈ ps.zip parts.toList, some (p.2.1 * sz, sz) = some (p.1.1, p.1.2.1) ∧ chkOpd X p.1.2.2 p.2.2 = true) (hl : ps.length = parts.toList.length)
    (hv : fillAV X.G s.env z ps = some cs) : OpRun X B s.hp g K w a o (pack cs) (mkBufs bs) := by
  obtain ⟨g1, hm1, hg1, hb1, hx1⟩ := hs.mem.bufs bs hf hd
  obtain ⟨r, e1, e2⟩ := run_fill (place := fun i => some (i * sz, sz)) hs hg1 hv (chkZ_rel hb1 hc) hp hl
  refine ⟨.agg r, w, K, g1, .inl ?_, hm1, Keep.refl K w, hg1, RelA_pack e2⟩
  have e3 : (parts.map fun (i, x) => (i, a.eval x)).toList = parts.toList.map fun q => (q.1, a.eval q.2) := by simp
  simp only [execOp, ho, Instr.build, zeroValue, typeInfo, Sem.run_bind, run_program, Result.andThen_ok, hi, hz, Sem.run_pure, run_underlying ht, run_size hsz, e3, e1]
theorem rowsIn_rel {fid : Nat → FuncId} {hp : Heap} (hh : RelH fid K w hp g) {sz : Nat} (h0 : 0 < sz) : ∀ {vs : List AV} {l : List Value} {rows : List (List PV)}, rowsIn hp sz vs = some rows → RelAs fid K w hp g vs l →
    rows.length = vs.length ∧ (∀ c ∈ l, c.cells.size = sz ∧ ∀ u ∈ c.cells.toList, u.oneCell' = true) ∧ RelRows K w sz rows (l.flatMap fun c => c.cells.toList)
  | [], l, rows, h, hr => by
    simp only [rowsIn, Option.some.injEq] at h; subst h
    simp only [RelAs] at hr; subst hr
    exact ⟨rfl, by simp, by simp [RelRows]⟩
  | v :: vs, l, rows, h, hr => by
    simp only [RelAs] at hr
    obtain ⟨c, t, rfl, h1, h2⟩ := hr
    simp only [rowsIn] at h
    cases hb : Nat.beq (sizeAV (frz hp v)) sz with
    | false => rw [hb] at h; simp at h
    | true =>
      rw [hb] at h
      rw [beqN] at hb
      simp only [cond_true] at h
      have hf := frz_rel hh h1
      obtain ⟨r1, r2⟩ := RelA_cellsV hf (by omega)
      cases hw : rowOf (frz hp v) with
      | none => rw [hw] at h; simp at h
      | some r =>
        rw [hw] at h
        cases hrs : rowsIn hp sz vs with
        | none => rw [hrs] at h; simp at h
        | some rs =>
          rw [hrs] at h
          simp only [Option.some.injEq] at h; subst h
          obtain ⟨i1, i2, i3⟩ := rowsIn_rel hh h0 hrs h2
          have hcell : cellsAV (frz hp v) = r.map .pl := by
            cases hq : frz hp v <;> rw [hq] at hw <;> simp [rowOf] at hw <;> subst hw <;> rfl
          rw [hcell] at r1
          have hlr := RelCells_length r1
          simp at hlr
          have hone := RelCells_oneCell r1
          refine ⟨by simp [i1], ?_, ?_⟩
          · intro c' hc'
            rcases List.mem_cons.1 hc' with rfl | hc'
            · exact ⟨by omega, hone⟩
            · exact i2 c' hc'
          · simp only [List.flatMap_cons, RelRows]
            have hcl : c.cells.toList.length = sz := by simp; omega
            refine ⟨by omega, ?_, ?_⟩
            · have := RelL_of_cells r1
              have h3 := RelL_append this (by simp; omega) (show RelL K w [] (t.flatMap fun c => c.cells.toList) from by simp [RelL])
              simpa using h3
            · rw [List.drop_append_of_le_length (by omega), List.drop_of_length_le (by omega), List.nil_append]
              exact i3
theorem fill_rows {sz : Nat} : ∀ {l : List Value} (k : Nat) {zc : Array Value}, (∀ c ∈ l, c.cells.size = sz) → (k + l.length) * sz ≤ zc.size →
    ∃ r, Instr.fill (fun i => some (i * sz, sz)) zc ((l.zipIdx k).map fun p => (p.2, p.1)) = some r ∧ r.toList = zc.toList.take (k * sz) ++ (l.flatMap fun c => c.cells.toList) ++ zc.toList.drop ((k + l.length) * sz)
  | [], k, zc, _, _ => ⟨zc, by simp [Instr.fill], by simp⟩
  | c :: l, k, zc, hc, hle => by
    have h1 := hc c (by simp)
    have hk : k * sz + sz ≤ zc.size := by
      have : (k + 1) * sz ≤ (k + (c :: l).length) * sz := Nat.mul_le_mul_right _ (by simp)
      rw [Nat.add_mul, Nat.one_mul] at this; omega
    have hfold := fold_set (k * sz) c.cells.toList 0 zc (by simp; omega)
    simp only [Nat.add_zero, Array.length_toList, h1] at hfold
    obtain ⟨r, e1, e2⟩ := fill_rows (sz := sz) (l := l) (k + 1) (zc := ((c.cells.toList.zipIdx 0).foldl (fun cs p => cs.setIfInBounds (k * sz + p.2) p.1) zc)) (fun c' h' => hc c' (by simp [h'])) (by
      rw [← Array.length_toList, hfold]
      simp only [List.length_append, List.length_take, Array.length_toList, List.length_drop, h1]
      simp only [List.length_cons] at hle
      rw [show k + 1 + l.length = k + (l.length + 1) from by omega]
      omega)
    refine ⟨r, ?_, ?_⟩
    · simp only [List.zipIdx_cons, List.map_cons, Instr.fill]
      have h2 : ((decide (c.cells.size ≠ sz)) || decide (k * sz + c.cells.size > zc.size)) = false := by
        simp only [Bool.or_eq_false_iff, decide_eq_false_iff_not]
        exact ⟨fun e => e h1, by omega⟩
      simp only [h2, Bool.false_eq_true, if_false]
      rw [← e1]
      congr 1
      rw [← Array.foldl_toList]
      congr 1
      simp
    · rw [e2, hfold]
      have e3 : (k + 1) * sz = k * sz + sz := by rw [Nat.add_mul, Nat.one_mul]
      have e4 : (zc.toList.take (k * sz) ++ c.cells.toList).length = (k + 1) * sz := by simp [h1]; omega
      rw [List.take_append_of_le_length (by omega), List.take_of_length_le (by omega)]
      rw [List.drop_append, e4, List.drop_of_length_le (by rw [e4]; exact Nat.mul_le_mul_right _ (by omega)), List.nil_append, List.drop_drop]
      simp only [List.flatMap_cons, List.append_assoc, List.length_cons]
      congr 4
      have e5 : (k + 1) * sz ≤ (k + 1 + l.length) * sz := Nat.mul_le_mul_right _ (by omega)
      have e6 : (k + 1 + l.length) * sz = (k + (l.length + 1)) * sz := by congr 1; omega
      omega
end
end Eng

namespace Eng
open Go
section
variable {X : Ctx} {B : Base} {s : St} {g : Nat → Value} {K : Kom} {w : World} {a : Act}
theorem zip_range {f : Operand → Value} : ∀ (l : List (Nat × Operand)) (k : Nat), l.map (·.1) = List.range' k l.length → (l.map fun q => (q.1, f q.2)) = ((l.map fun q => f q.2).zipIdx k).map fun p => (p.2, p.1)
  | [], _, _ => rfl
  | (i, x) :: l, k, h => by
    simp only [List.map_cons, List.length_cons, List.range'_succ, List.cons.injEq] at h
    obtain ⟨rfl, h⟩ := h
    simp only [List.map_cons, List.zipIdx_cons]
    rw [zip_range l (i + 1) h]
theorem run_bsl (hs : RelS X B s g K w a) {o : Oper} {sz : Nat} {ps : List Opd} {rows : List (List PV)} {t e : TypeId} {parts : Array (Nat × Operand)} {i : TypeInfo} (ho : o.op = .buildSlice t ps.length parts)
    (ht : X.P.underlying t = some (.slice e)) (he : szIs X e sz = true) (hi : X.P.info? e = some i) (hz : i.zero.isSome = true) (h0 : 0 < sz) (h24 : ps.length * sz ≤ 2 ^ 24)
    (hr : parts.toList.map (·.1) = List.range' 0 parts.toList.length) (hc : chkOpds X ps (parts.toList.map (·.2)) = true) (hv : rowsIn s.hp sz (opds X.G s.env ps) = some rows) :
    OpRun X B s.hp g K w a o (.pl (.sl sz rows)) [] := by
  have hvals := opds_rel hs hc
  obtain ⟨r1, r2, r3⟩ := rowsIn_rel hs.mem.rh h0 hv hvals
  have hl1 := RelAs_length hvals
  have hlen : (opds X.G s.env ps).length = ps.length := by
    clear hv r1 r2 r3 hvals hl1 hc hr h24 ho
    induction ps with
    | nil => rfl
    | cons x xs ih => simp [opds, ih]
  generalize hL : (parts.toList.map (·.2)).map a.eval = L at hvals r2 r3 hl1
  have hLl : L.length = ps.length := by omega
  obtain ⟨zv, hzv⟩ := Option.isSome_iff_exists.1 hz
  obtain ⟨cs, e1, e2⟩ := fill_rows (sz := sz) (l := L) 0 (zc := (Array.range (ps.length * sz)).map (fun k => (if ps.length * sz = 0 then #[] else zv.cells)[k % (if ps.length * sz = 0 then (#[] : Array Value) else zv.cells).size]!)) (fun c hc => (r2 c hc).1) (by simp [hLl])
  have e3 : (parts.map fun (i, x) => (i, a.eval x)).toList = (L.zipIdx 0).map fun p => (p.2, p.1) := by
    have := zip_range (f := a.eval) parts.toList 0 hr
    rw [← hL]
    simp only [Array.toList_map, List.map_map] at this ⊢
    exact this
  simp only [Nat.zero_mul, List.take_zero, List.nil_append, Nat.zero_add, hLl] at e2
  have hd : ((Array.range (ps.length * sz)).map (fun k => (if ps.length * sz = 0 then #[] else zv.cells)[k % (if ps.length * sz = 0 then (#[] : Array Value) else zv.cells).size]!)).toList.drop (ps.length * sz) = [] := by
    apply List.drop_of_length_le; simp
  rw [hd, List.append_nil] at e2
  have hcs : cs.size = ps.length * sz := by
    have h1 : (L.flatMap fun c => c.cells.toList).length = L.length * sz := by
      have : ∀ (M : List Value), (∀ c ∈ M, c.cells.size = sz) → (M.flatMap fun c => c.cells.toList).length = M.length * sz := by
        intro M
        induction M with
        | nil => simp
        | cons c M ih =>
          intro h
          simp only [List.flatMap_cons, List.length_append, Array.length_toList, h c (by simp), ih fun c' h' => h c' (by simp [h']), List.length_cons, Nat.add_mul, Nat.one_mul]
          omega
      exact this L fun c hc => (r2 c hc).1
    rw [← Array.length_toList, e2, h1, hLl]
  have hm := hs.mem.alloc (.cells cs e) (ps.length * sz)
  refine ⟨.slice (some ⟨w.heap.size, 0, none⟩) ps.length ps.length, w.alloc (.cells cs e), _, g, .inl ?_, hm, Keep.alloc K w _ _, HGo.refl _ _, ?_⟩
  · have h24' : ¬ (ps.length * sz > 2 ^ 24) := by omega
    by_cases hz0 : ps.length * sz = 0
    · simp only [hz0, if_true] at e1
      have h24'' : ¬ (0 > 2 ^ 24) := by omega
      simp only [execOp, ho, Instr.buildSlice, Sem.run_bind, run_underlying ht, Result.andThen_ok, run_size he, hz0, h24'', if_false, if_true, Sem.run_pure, e3, e1, newRow, run_newObj]
      rfl
    · simp only [hz0, if_false] at e1
      simp only [execOp, ho, Instr.buildSlice, Sem.run_bind, run_underlying ht, Result.andThen_ok, run_size he, h24', hz0, if_false, Sem.run_pure, zeroValue, typeInfo, run_program, hi, hzv, e3, e1, newRow, run_newObj]
      rfl
  · simp only [RelA, RelP]
    refine ⟨_, ps.length, by rw [r1, hlen], by omega, ?_⟩
    by_cases hn : rows = []
    · exact .inl hn
    · refine .inr ⟨w.heap.size, 0, cs, e, (0, 0), rfl, heap_alloc_new w _, ?_, ?_, ?_⟩
      · rw [updK_same, r1, hlen]; omega
      · rw [updK_same]; omega
      · rw [List.drop_zero, e2]
        exact RelRows_mono (Keep.alloc K w _ _) _ _ _ _ r3 fun _ _ => rfl
theorem run_bslo (hs : RelS X B s g K w a) {o : Oper} {sz r : Nat} {ps : List Opd} {rows : List (List PV)} {t e : TypeId} {parts : Array (Nat × Operand)} {i : TypeInfo} (ho : o.op = .buildSlice t ps.length parts)
    (ht : X.P.underlying t = some (.slice e)) (he : szIs X e sz = true) (hi : X.P.info? e = some i) (hz : i.zero.isSome = true) (h0 : 0 < sz) (h24 : ps.length * sz ≤ 2 ^ 24)
    (hr : parts.toList.map (·.1) = List.range' 0 parts.toList.length) (hc : chkOpds X ps (parts.toList.map (·.2)) = true) (hf : freshAt s.hp [r] = true) (hn0 : 0 < ps.length) (hv : rowsIn s.hp sz (opds X.G s.env ps) = some rows) :
    OpRun X B s.hp g K w a o (.own r 0) [(r, .buf sz rows 0)] := by
  have hvals := opds_rel hs hc
  obtain ⟨r1, r2, r3⟩ := rowsIn_rel hs.mem.rh h0 hv hvals
  have hl1 := RelAs_length hvals
  have hlen : (opds X.G s.env ps).length = ps.length := by
    clear hv r1 r2 r3 hvals hl1 hc hr h24 ho hn0
    induction ps with
    | nil => rfl
    | cons x xs ih => simp [opds, ih]
  generalize hL : (parts.toList.map (·.2)).map a.eval = L at hvals r2 r3 hl1
  have hLl : L.length = ps.length := by omega
  obtain ⟨zv, hzv⟩ := Option.isSome_iff_exists.1 hz
  obtain ⟨cs, e1, e2⟩ := fill_rows (sz := sz) (l := L) 0 (zc := (Array.range (ps.length * sz)).map (fun k => (if ps.length * sz = 0 then #[] else zv.cells)[k % (if ps.length * sz = 0 then (#[] : Array Value) else zv.cells).size]!)) (fun c hc => (r2 c hc).1) (by simp [hLl])
  have e3 : (parts.map fun (i, x) => (i, a.eval x)).toList = (L.zipIdx 0).map fun p => (p.2, p.1) := by
    have := zip_range (f := a.eval) parts.toList 0 hr
    rw [← hL]
    simp only [Array.toList_map, List.map_map] at this ⊢
    exact this
  simp only [Nat.zero_mul, List.take_zero, List.nil_append, Nat.zero_add, hLl] at e2
  have hd : ((Array.range (ps.length * sz)).map (fun k => (if ps.length * sz = 0 then #[] else zv.cells)[k % (if ps.length * sz = 0 then (#[] : Array Value) else zv.cells).size]!)).toList.drop (ps.length * sz) = [] := by
    apply List.drop_of_length_le; simp
  rw [hd, List.append_nil] at e2
  have hcs : cs.size = ps.length * sz := by
    have h1 : (L.flatMap fun c => c.cells.toList).length = L.length * sz := by
      have : ∀ (M : List Value), (∀ c ∈ M, c.cells.size = sz) → (M.flatMap fun c => c.cells.toList).length = M.length * sz := by
        intro M
        induction M with
        | nil => simp
        | cons c M ih =>
          intro h
          simp only [List.flatMap_cons, List.length_append, Array.length_toList, h c (by simp), ih fun c' h' => h c' (by simp [h']), List.length_cons, Nat.add_mul, Nat.one_mul]
          omega
      exact this L fun c hc => (r2 c hc).1
    rw [← Array.length_toList, e2, h1, hLl]
  obtain ⟨f1, f64, _⟩ := fresh_cons hf
  have hm0 := hs.mem.alloc (.cells cs e) (ps.length * sz)
  have hkk := Keep.alloc K w (.cells cs e) (ps.length * sz)
  have hrl : rows.length = ps.length := by rw [r1, hlen]
  have hm := hm0.add (r := r) (o := .buf sz rows 0) (v := .slice (some ⟨w.heap.size, 0, none⟩) ps.length ps.length) f1 f64
    (.inr ⟨w.heap.size, ps.length, cs, e, by rw [setG_same, hrl], heap_alloc_new w _, hcs, by omega, by rw [updK_same, hrl], by
      rw [e2]; exact RelRows_mono hkk _ _ _ _ r3 fun _ _ => rfl⟩) (fun b hb => by
      simp only [blkV, Option.some.injEq] at hb; subst hb
      exact ⟨.inr hs.mem.fr.size, fun r' o' hr' hb' => by have := hs.mem.lt hr' hb'; omega⟩)
  refine ⟨.slice (some ⟨w.heap.size, 0, none⟩) ps.length ps.length, w.alloc (.cells cs e), _, _, .inl ?_, hm, hkk, HGo.add f1, ?_⟩
  · have h24' : ¬ (ps.length * sz > 2 ^ 24) := by omega
    by_cases hz0 : ps.length * sz = 0
    · simp only [hz0, if_true] at e1
      have h24'' : ¬ (0 > 2 ^ 24) := by omega
      simp only [execOp, ho, Instr.buildSlice, Sem.run_bind, run_underlying ht, Result.andThen_ok, run_size he, hz0, h24'', if_false, if_true, Sem.run_pure, e3, e1, newRow, run_newObj]
      rfl
    · simp only [hz0, if_false] at e1
      simp only [execOp, ho, Instr.buildSlice, Sem.run_bind, run_underlying ht, Result.andThen_ok, run_size he, h24', hz0, if_false, Sem.run_pure, zeroValue, typeInfo, run_program, hi, hzv, e3, e1, newRow, run_newObj]
      rfl
  · simp only [RelA, List.cons_append, List.nil_append]
    exact ⟨⟨_, _, _, rfl⟩, 0, curV_buf (lkH_cons_same _ _ _), Nat.le_refl _, fun _ => (setG_same _ _ _).symm⟩
theorem run_bound {P : Program} {v : Value} {k : IntKind} {n : Int} {y : Nat} {code : BoundsCode} (hv : v = .int k n) (h0 : 0 ≤ n) (h1 : n ≤ y) : (Instr.sliceBound v y code).run P w = .ok n.toNat w := by
  subst hv
  simp [Instr.sliceBound, asIntOf, h0, h1]
theorem run_slice_core {P : Program} {t e : TypeId} {ad : Option Addr} {len cap sz : Nat} {lo hi mx : Option Value} {l h m : Nat} (ht : P.underlying t = some (.slice e)) (hsz : (Go.sizeOf e).run P w = Result.ok sz w)
    (hlo : (lo = none ∧ l = 0) ∨ ∃ k, lo = some (.int k l)) (hhi : (hi = none ∧ h = len ∧ mx = none) ∨ ∃ k, hi = some (.int k h)) (hmx : (mx = none ∧ m = cap) ∨ ∃ k, mx = some (.int k m))
    (h1 : l ≤ h) (h2 : h ≤ m) (h3 : m ≤ cap) : (Instr.slice t (.slice ad len cap) lo hi mx).run P w = .ok (.slice (if m = l then ad else ad.map (·.add (l * sz))) (h - l) (m - l)) w := by
  have hb : (Instr.sliceBounds true len cap lo hi mx).run P w = .ok (l, h, m) w := by
    unfold Instr.sliceBounds
    rcases hmx with ⟨rfl, rfl⟩ | ⟨km, rfl⟩
    · rcases hhi with ⟨rfl, rfl, _⟩ | ⟨kh, rfl⟩
      · rcases hlo with ⟨rfl, rfl⟩ | ⟨kl, rfl⟩
        · simp
        · simp [run_bound (P := P) (w := w) (y := h) (code := .sliceB) (rfl : Value.int kl l = _) (by omega) (by omega)]
      · have e1 := run_bound (P := P) (w := w) (y := m) (code := .sliceAcap) (rfl : Value.int kh h = _) (by omega) (by omega)
        rcases hlo with ⟨rfl, rfl⟩ | ⟨kl, rfl⟩
        · simp [e1]
        · simp [e1, run_bound (P := P) (w := w) (y := h) (code := .sliceB) (rfl : Value.int kl l = _) (by omega) (by omega)]
    · have e2 := run_bound (P := P) (w := w) (y := cap) (code := .slice3Acap) (rfl : Value.int km m = _) (by omega) (by omega)
      rcases hhi with ⟨_, _, hx⟩ | ⟨kh, rfl⟩
      · simp at hx
      · have e1 := run_bound (P := P) (w := w) (y := m) (code := .slice3B) (rfl : Value.int kh h = _) (by omega) (by omega)
        rcases hlo with ⟨rfl, rfl⟩ | ⟨kl, rfl⟩
        · simp [e1, e2]
        · simp [e1, e2, run_bound (P := P) (w := w) (y := h) (code := .slice3C) (rfl : Value.int kl l = _) (by omega) (by omega)]
  simp only [Instr.slice, Sem.run_bind, run_underlying ht, Result.andThen_ok, hb, hsz, Sem.run_pure]
theorem RelP_part {sz : Nat} {rows : List (List PV)} {ad : Option Addr} {len cap : Nat} {l h m : Nat} (hr : RelP K w (.sl sz rows) (.slice ad len cap)) (h1 : l ≤ h) (h2 : h ≤ m) (h3 : h ≤ rows.length) :
    RelP K w (.sl sz ((rows.take h).drop l)) (.slice (if m = l then ad else ad.map (·.add (l * sz))) (h - l) (m - l)) := by
  simp only [RelP, Value.slice.injEq] at hr ⊢
  obtain ⟨ad', cap', ⟨rfl, rfl, rfl⟩, e2, e3⟩ := hr
  have hlen : ((rows.take h).drop l).length = h - l := by simp; omega
  refine ⟨_, m - l, ⟨rfl, hlen.symm, rfl⟩, by omega, ?_⟩
  by_cases hlh : l = h
  · left
    apply List.eq_nil_of_length_eq_zero; omega
  · rcases e3 with e3 | ⟨b, off, cur, T, fr, rfl, f2, f3, f4, f5⟩
    · subst e3; simp at h3; omega
    · right
      have hm : m ≠ l := by omega
      refine ⟨b, off + l * sz, cur, T, fr, by simp [hm, add_off], f2, ?_, f4, ?_⟩
      · rw [hlen]
        have : l * sz + (h - l) * sz = h * sz := by rw [← Nat.add_mul]; congr 1; omega
        have h5 : h * sz ≤ rows.length * sz := Nat.mul_le_mul_right _ h3
        omega
      · have := RelRows_drop l (RelRows_take h f5)
        rw [List.drop_drop] at this
        exact this
end
end Eng

namespace Eng
open Go
section
variable {X : Ctx} {B : Base} {s : St} {g : Nat → Value} {K : Kom} {w : World} {a : Act}
def chkOpt (X : Ctx) : Option Opd → Option Operand → Bool
  | none, none => true
  | some x, some y => chkOpd X x y
  | _, _ => false
theorem optI_rel (hs : RelS X B s g K w a) {d l : Int} {x : Option Opd} {y : Option Operand} (hc : chkOpt X x y = true) (h : optI X.G s.env d x = some l) :
    (x = none ∧ y.map a.eval = none ∧ l = d) ∨ ∃ k, y.map a.eval = some (.int k l) := by
  cases x with
  | none =>
    cases y with
    | none => simp only [optI, Option.some.injEq] at h; exact .inl ⟨rfl, rfl, h.symm⟩
    | some y => simp [chkOpt] at hc
  | some x =>
    cases y with
    | none => simp [chkOpt] at hc
    | some y =>
      simp only [chkOpt] at hc
      have := opd_rel hs hc
      simp only [optI] at h
      generalize opd X.G s.env x = u at this h
      unfold asI at h
      split at h
      · rename_i k n
        simp only [Option.map_some, Option.some.injEq] at h; subst h
        simp only [RelA, RelP] at this
        exact .inr ⟨k, by simp [this]⟩
      · simp at h
theorem run_slc (hs : RelS X B s g K w a) {o : Oper} {x : Opd} {lo hi mx : Option Opd} {x' : Operand} {lo' hi' mx' : Option Operand} {t e : TypeId} {sz : Nat} {rows : List (List PV)} {l h : Int} {m : Option Int} {v : AV}
    (ho : o.op = .slice t x' lo' hi' mx') (ht : X.P.underlying t = some (.slice e)) (he : szIs X e sz = true) (hx : chkOpd X x x' = true) (h1 : chkOpt X lo lo' = true) (h2 : chkOpt X hi hi' = true) (h3 : chkOpt X mx mx' = true)
    (hmh : hi = none → mx = none) (hr : rowsOf s.hp (opd X.G s.env x) = some (sz, rows)) (hl : optI X.G s.env 0 lo = some l) (hh : optI X.G s.env rows.length hi = some h)
    (hm : (mx = none ∧ m = none) ∨ ∃ q, optI X.G s.env 0 mx = some q ∧ m = some q ∧ mx ≠ none) (hv : slcEv rows sz l h m = some v) : OpRun X B s.hp g K w a o v [] := by
  have hrel := rowsOf_rel hs.mem.rh (opd_rel hs hx) hr
  have hrel' := hrel
  simp only [RelP] at hrel'
  obtain ⟨ad, cap, f1, f2, _⟩ := hrel'
  rw [f1] at hrel
  unfold slcEv at hv
  cases hb : (decide (0 ≤ l) && decide (l ≤ h) && decide (h ≤ rows.length)) with
  | false => rw [hb] at hv; simp at hv
  | true =>
    rw [hb] at hv
    simp only [Bool.and_eq_true, decide_eq_true_eq] at hb
    obtain ⟨⟨b1, b2⟩, b3⟩ := hb
    simp only [cond_true] at hv
    have ho1 := optI_rel hs h1 hl
    have ho2 := optI_rel hs h2 hh
    have hlo : (lo'.map a.eval = none ∧ l.toNat = 0) ∨ ∃ k, lo'.map a.eval = some (.int k l.toNat) := by
      rcases ho1 with ⟨_, e1, e2⟩ | ⟨k, e⟩
      · exact .inl ⟨e1, by omega⟩
      · exact .inr ⟨k, by rw [e, Int.toNat_of_nonneg b1]⟩
    have hexec : ∀ r, (Instr.slice t (.slice ad rows.length cap) (lo'.map a.eval) (hi'.map a.eval) (mx'.map a.eval)).run X.P w = .ok r w → (execOp a.eval o).run X.P w = .ok (.value r) w := by
      intro r hr'
      simp only [execOp, ho, f1, Instr.sliceAt, Sem.run_bind, run_underlying ht, Result.andThen_ok, hr', Sem.run_pure]
    rcases hm with ⟨rfl, rfl⟩ | ⟨q, e1, rfl, e3⟩
    · simp only [Option.some.injEq] at hv; subst hv
      have hmx : mx'.map a.eval = none := by cases mx' <;> simp [chkOpt] at h3 ⊢
      have hhi : (hi'.map a.eval = none ∧ h.toNat = rows.length ∧ mx'.map a.eval = none) ∨ ∃ k, hi'.map a.eval = some (.int k h.toNat) := by
        rcases ho2 with ⟨_, e1, e2⟩ | ⟨k, e⟩
        · exact .inl ⟨e1, by omega, hmx⟩
        · exact .inr ⟨k, by rw [e, Int.toNat_of_nonneg (by omega)]⟩
      have hrun := run_slice_core (P := X.P) (w := w) (ad := ad) (len := rows.length) (cap := cap) (m := cap) ht (run_size (w := w) he) hlo hhi (.inl ⟨hmx, rfl⟩) (by omega) (by omega) (Nat.le_refl _)
      refine OpRun.still hs (hexec _ hrun) ?_
      simp only [RelA]
      exact RelP_part (K := K) (w := w) hrel (by omega) (by omega) (by omega)
    · cases hb : decide (q = h) with
      | false => simp only [hb, cond_false] at hv; simp at hv
      | true =>
        simp only [hb, cond_true, Option.some.injEq] at hv; subst hv
        have hq : q = h := by simpa using hb
        subst hq
        have hmx : ∃ k, mx'.map a.eval = some (.int k q.toNat) := by
          rcases optI_rel hs h3 e1 with ⟨e, _⟩ | ⟨k, e⟩
          · exact absurd e e3
          · exact ⟨k, by rw [e, Int.toNat_of_nonneg (by omega)]⟩
        have hhi : (hi'.map a.eval = none ∧ q.toNat = rows.length ∧ mx'.map a.eval = none) ∨ ∃ k, hi'.map a.eval = some (.int k q.toNat) := by
          rcases ho2 with ⟨e, _⟩ | ⟨k, e⟩
          · exact absurd (hmh e) e3
          · exact .inr ⟨k, by rw [e, Int.toNat_of_nonneg (by omega)]⟩
        have hrun := run_slice_core (P := X.P) (w := w) (ad := ad) (len := rows.length) (cap := cap) (m := q.toNat) (h := q.toNat) ht (run_size (w := w) he) hlo hhi (.inr hmx) (by omega) (Nat.le_refl _) (by omega)
        refine OpRun.still hs (hexec _ hrun) ?_
        simp only [RelA]
        refine ⟨RelP_part (K := K) (w := w) hrel (by omega) (Nat.le_refl _) (by omega), (if q.toNat = l.toNat then ad else ad.map (·.add (l.toNat * sz))), ?_⟩
        have : (List.drop l.toNat (List.take q.toNat rows)).length = q.toNat - l.toNat := by simp; omega
        rw [this]
theorem firstCells_rows {P : Program} {sz : Nat} {ys : List (List PV)} {c : Value} (h : RelP K w (.sl sz ys) c) :
    ∃ news : List Value, (∀ w' : World, w'.heap = w.heap → (Builtin.firstCells sz ys.length c).run P w' = .ok news.toArray w') ∧ (Builtin.lenOf c).run P w = .ok ys.length w ∧ news.length = ys.length * sz ∧ RelRows K w sz ys news ∧ (∀ u ∈ news, u.oneCell' = true) ∧
      (∃ ad cap, c = .slice ad ys.length cap ∧ ys.length ≤ cap) := by
  simp only [RelP] at h
  obtain ⟨ad, cap, rfl, e1, e2⟩ := h
  rcases e2 with rfl | ⟨b, off, cur, T, fr, rfl, f2, f3, f4, f5⟩
  · refine ⟨[], fun w' _ => ?_, by simp [Builtin.lenOf], by simp, by simp [RelRows], by simp, ad, cap, rfl, by simp⟩
    cases ad <;> simp [Builtin.firstCells, loadCells, loadCellsFrom]
  · have hlen : ((cur.toList.drop off).take (ys.length * sz)).length = ys.length * sz := by simp; omega
    refine ⟨(cur.toList.drop off).take (ys.length * sz), fun w' hw => ?_, by simp [Builtin.lenOf], hlen, RelRows_mono (Keep.refl K w) _ _ _ _ f5 fun i hi => ?_, ?_, _, cap, rfl, e1⟩
    · refine run_firstCells_some (P := P) w' sz ys.length ⟨b, off, none⟩ ys.length cap _ hlen fun j v hv => ?_
      rw [add_off, cell_of_row w' b (off + j) cur T fr (by rw [hw]; exact f2)]
      rw [List.getElem?_take] at hv
      split at hv
      · rw [List.getElem?_drop] at hv; simpa using hv
      · simp at hv
    · rw [List.getElem?_take, if_pos hi]
    · intro u hu
      have : ∀ (ys : List (List PV)) (l : List Value), RelRows K w sz ys l → ∀ u ∈ l.take (ys.length * sz), u.oneCell' = true := by
        intro ys
        induction ys with
        | nil => intro l _ u hu; simp at hu
        | cons y ys ih =>
          intro l hr u hu
          simp only [RelRows] at hr
          obtain ⟨g1, g2, g3⟩ := hr
          have e : (y :: ys).length * sz = sz + ys.length * sz := by simp [Nat.add_mul]; omega
          rw [e] at hu
          have hsplit : l.take (sz + ys.length * sz) = l.take sz ++ (l.drop sz).take (ys.length * sz) := by rw [List.take_add]
          rw [hsplit] at hu
          rcases List.mem_append.1 hu with hu | hu
          · have hl1 := RelL_length g2
            have h3 := RelL_take sz g2
            rw [List.take_of_length_le (by omega)] at h3
            exact RelL_oneCell h3 (by simp; omega) u hu
          · exact ih _ g3 u hu
      exact this ys _ f5 u hu
theorem run_app_room {P : Program} {t t2 ty e d2e : TypeId} {sz b n m cap : Nat} {cur : Array Value} {T : TypeId} {c2 : Value} {news : List Value} (ht : P.underlying t = some (.slice e)) (ht2 : P.underlying t2 = some (.slice d2e))
    (he : (Go.sizeOf e).run P w = Result.ok sz w) (hb : w.heap[b]? = some (Go.Obj.cells cur T (0, 0))) (hl : (Builtin.lenOf c2).run P w = .ok m w) (hf : (Builtin.firstCells sz m c2).run P w = .ok news.toArray w)
    (h1 : ∀ u ∈ news, u.oneCell' = true) (hroom : n + m ≤ cap) (hfit : n * sz + news.length ≤ cur.size) :
    (Builtin.append_ #[t, t2] ty #[.slice (some ⟨b, 0, none⟩) n cap, c2]).run P w =
      .ok (.slice (some ⟨b, 0, none⟩) (n + m) cap) (w.setRow b (cur.toList.take (n * sz) ++ news ++ cur.toList.drop (n * sz + news.length)).toArray) := by
  have hst := run_storeCells_at P b (n * sz) T news 0 cur w hb (by simpa using hfit) h1
  simp only [Nat.add_zero] at hst
  simp [Builtin.append_, run_underlying ht, run_underlying ht2, he, hl, hroom, hf, add_off, hst]
theorem run_app_grow {P : Program} {t t2 ty e d2e : TypeId} {sz n m cap : Nat} {ad : Option Addr} {c2 : Value} {olds news : List Value} {i : TypeInfo} {z : Value} (ht : P.underlying t = some (.slice e)) (ht2 : P.underlying t2 = some (.slice d2e))
    (hi : P.info? e = some i) (hz : i.zero = some z) (hsz : i.size = sz) (hl : (Builtin.lenOf c2).run P w = .ok m w) (hfo : (Builtin.firstCells sz n (.slice ad n cap)).run P w.drew = .ok olds.toArray w.drew) (hf : (Builtin.firstCells sz m c2).run P w.drew = .ok news.toArray w.drew)
    (hroom : ¬ n + m ≤ cap) (h32 : n + m < 2 ^ 32) (hby : i.bytes ≤ 32768) :
    (Builtin.append_ #[t, t2] ty #[.slice ad n cap, c2]).run P w =
      .ok (.slice (some ⟨w.heap.size, 0, none⟩) (n + m) (grownCap w (n + m) cap e))
        (w.drew.alloc (.cells (olds.toArray ++ news.toArray ++ Builtin.zeroCells z.cells (grownCap w (n + m) cap e - (n + m))) e)) := by
  subst hsz
  have h63 : ¬ (9223372036854775807 < ((n : Int) + (m : Int))) := by omega
  have hb : (n + m) * i.bytes ≤ 140737488355328 := by
    have := Nat.mul_le_mul (show n + m ≤ 2 ^ 32 by omega) hby
    omega
  have h48 : ¬ (281474976710656 < Builtin.nextslicecap (n + m) cap * i.bytes) := by
    have := growslice_fits (need := n + m) (old := cap) (by omega) hb; omega
  have hlt : cap < n + m := by omega
  simp [Builtin.append_, run_underlying ht, run_underlying ht2, Go.sizeOf, typeInfo, zeroValue, hi, hz, hl, hroom, h63, h48, hlt, Question.forced, hf, hfo, newRow, grownCap]
  congr 2
  apply Array.ext'
  simp [List.append_assoc]
end
end Eng

namespace Eng
open Go
section
variable {X : Ctx} {B : Base} {s : St} {g : Nat → Value} {K : Kom} {w : World} {a : Act}
theorem zeros_size (z : Array Value) (n : Nat) : (Builtin.zeroCells z n).size = n * z.size := by simp [Builtin.zeroCells]
theorem app_core {P : Program} {t t2 ty e d2e : TypeId} {sz : Nat} {rows ys : List (List PV)} {c1 c2 : Value} {i : TypeInfo} {z : Value} (ht : P.underlying t = some (.slice e)) (ht2 : P.underlying t2 = some (.slice d2e))
    (hi : P.info? e = some i) (hz : i.zero = some z) (hzs : z.cells.size = sz) (hsz : i.size = sz) (hby : i.bytes ≤ 32768) (h32 : rows.length + ys.length < 2 ^ 32)
    (h1 : (rows = [] ∧ c1 = .slice none 0 0) ∨ ∃ b cap cur T, c1 = .slice (some ⟨b, 0, none⟩) rows.length cap ∧ w.heap[b]? = some (Go.Obj.cells cur T (0, 0)) ∧ cur.size = cap * sz ∧ rows.length ≤ cap ∧ RelRows K w sz rows cur.toList)
    (h2 : RelP K w (.sl sz ys) c2) :
    ∃ c' w', (Builtin.append_ #[t, t2] ty #[c1, c2]).run P w = .ok c' w' ∧
      ((ys = [] ∧ rows = [] ∧ c1 = .slice none 0 0 ∧ c' = .slice none 0 0 ∧ w' = w) ∨
       ∃ b cap cur T, c' = .slice (some ⟨b, 0, none⟩) (rows.length + ys.length) cap ∧ w'.heap[b]? = some (Go.Obj.cells cur T (0, 0)) ∧ cur.size = cap * sz ∧ rows.length + ys.length ≤ cap ∧ RelRows K w sz (rows ++ ys) cur.toList ∧
         ((blkV c1 = some b ∧ w' = w.setRow b cur ∧ ∃ cur0, w.heap[b]? = some (Go.Obj.cells cur0 T (0, 0)) ∧ cur.size = cur0.size ∧ ∀ i, i < rows.length * sz → cur[i]? = cur0[i]?) ∨
          (b = w.heap.size ∧ w' = w.drew.alloc (.cells cur e)))) := by
  obtain ⟨news, f1, f2, f3, f4, f5, _⟩ := firstCells_rows (P := P) h2
  have hfit : ∀ (olds : List Value) (cap : Nat), olds.length = rows.length * sz → RelRows K w sz rows olds → rows.length + ys.length ≤ cap →
      (olds.toArray ++ news.toArray ++ Builtin.zeroCells z.cells (cap - (rows.length + ys.length))).size = cap * sz ∧
      RelRows K w sz (rows ++ ys) (olds.toArray ++ news.toArray ++ Builtin.zeroCells z.cells (cap - (rows.length + ys.length))).toList := by
    intro olds cap ho hr hc
    constructor
    · simp only [Array.size_append, List.size_toArray, ho, f3, zeros_size, hzs, ← Nat.add_mul]
      congr 1; omega
    · simp only [Array.toList_append, List.append_assoc]
      refine RelRows_append (RelRows_mono (Keep.refl K w) _ _ _ _ hr fun i hi => ?_) ?_
      · rw [List.getElem?_append_left (by omega)]
      · rw [← ho, List.drop_left]
        refine RelRows_mono (Keep.refl K w) _ _ _ _ f4 fun i hi => ?_
        rw [List.getElem?_append_left (by omega)]
  rcases h1 with ⟨rfl, rfl⟩ | ⟨b, cap, cur, T, rfl, e2, e3, e4, e5⟩
  · by_cases hy : ys = []
    · subst hy
      refine ⟨.slice none 0 0, w, ?_, .inl ⟨rfl, rfl, rfl, rfl, rfl⟩⟩
      have hf := f1 w rfl
      simp only [List.length_nil] at hf f2
      have he : (Go.sizeOf e).run P w = Result.ok sz w := by simp [Go.sizeOf, typeInfo, hi, hsz]
      simp [Builtin.append_, run_underlying ht, run_underlying ht2, he, f2, hf]
    · have hlen : ys.length ≠ 0 := fun h => hy (List.eq_nil_of_length_eq_zero h)
      have hrun := run_app_grow (P := P) (w := w) (ty := ty) (ad := none) (n := 0) (cap := 0) (olds := []) ht ht2 hi hz hsz f2 (by simp [Builtin.firstCells]) (f1 w.drew rfl) (by omega) (by simpa using h32) hby
      have hcap := grownCap_ge w (0 + ys.length) 0 e
      obtain ⟨q1, q2⟩ := hfit [] (grownCap w (0 + ys.length) 0 e) (by simp) (by simp [RelRows]) (by simpa using hcap)
      refine ⟨_, _, hrun, .inr ⟨w.heap.size, _, _, e, rfl, heap_alloc_new w.drew _, ?_, by simpa using hcap, ?_, .inr ⟨rfl, rfl⟩⟩⟩
      · simpa using q1
      · simpa using q2
  · by_cases hroom : rows.length + ys.length ≤ cap
    · have hmul : rows.length * sz + ys.length * sz ≤ cur.size := by rw [e3, ← Nat.add_mul]; exact Nat.mul_le_mul_right _ hroom
      have he : (Go.sizeOf e).run P w = Result.ok sz w := by simp [Go.sizeOf, typeInfo, hi, hsz]
      have hrun := run_app_room (P := P) (w := w) (ty := ty) (n := rows.length) ht ht2 he e2 f2 (f1 w rfl) f5 hroom (by omega)
      generalize hcs : (cur.toList.take (rows.length * sz) ++ news ++ cur.toList.drop (rows.length * sz + news.length)).toArray = cs at hrun
      have hcl : cs.toList = cur.toList.take (rows.length * sz) ++ news ++ cur.toList.drop (rows.length * sz + news.length) := by rw [← hcs]
      have hsize : cs.size = cur.size := by
        rw [← Array.length_toList, hcl]; simp; omega
      have hlt : (cur.toList.take (rows.length * sz)).length = rows.length * sz := by simp; omega
      refine ⟨_, _, hrun, .inr ⟨b, cap, cs, T, rfl, setRow_heap w b cur cs T (0, 0) e2, by omega, hroom, ?_, .inl ⟨rfl, rfl, cur, e2, hsize, fun i hi => ?_⟩⟩⟩
      · rw [hcl, List.append_assoc]
        refine RelRows_append (RelRows_mono (Keep.refl K w) _ _ _ _ e5 fun i hi => ?_) ?_
        · rw [List.getElem?_append_left (by omega), List.getElem?_take, if_pos hi]
        · rw [List.drop_append_of_le_length (by omega), List.drop_of_length_le (by omega), List.nil_append]
          refine RelRows_mono (Keep.refl K w) _ _ _ _ f4 fun i hi => ?_
          rw [List.getElem?_append_left (by omega)]
      · have : cs.toList[i]? = cur.toList[i]? := by
          rw [hcl, List.append_assoc, List.getElem?_append_left (by omega), List.getElem?_take, if_pos hi]
        simpa using this
    · have hmul : rows.length * sz ≤ cur.size := by rw [e3]; exact Nat.mul_le_mul_right _ e4
      have hol : (cur.toList.take (rows.length * sz)).length = rows.length * sz := by simp; omega
      have hfo : (Builtin.firstCells sz rows.length (.slice (some ⟨b, 0, none⟩) rows.length cap)).run P w.drew = .ok (cur.toList.take (rows.length * sz)).toArray w.drew :=
        run_firstCells_some (P := P) w.drew sz rows.length ⟨b, 0, none⟩ rows.length cap _ hol fun j v hv => by
          rw [add_off, Nat.zero_add, cell_of_row w.drew b j cur T (0, 0) e2]
          rw [List.getElem?_take] at hv
          split at hv
          · simpa using hv
          · simp at hv
      have hrun := run_app_grow (P := P) (w := w) (ty := ty) (n := rows.length) (cap := cap) ht ht2 hi hz hsz f2 hfo (f1 w.drew rfl) hroom h32 hby
      have hcap := grownCap_ge w (rows.length + ys.length) cap e
      obtain ⟨q1, q2⟩ := hfit (cur.toList.take (rows.length * sz)) (grownCap w (rows.length + ys.length) cap e) hol
        (RelRows_mono (Keep.refl K w) _ _ _ _ e5 fun i hi => by rw [List.getElem?_take, if_pos hi]) hcap
      exact ⟨_, _, hrun, .inr ⟨w.heap.size, _, _, e, rfl, heap_alloc_new w.drew _, q1, hcap, q2, .inr ⟨rfl, rfl⟩⟩⟩
theorem HGo.bump {hp : Heap} {r v v' : Nat} {o' : Obj} {c : Value} (h : curV hp r = some v) (h' : verO o' = some v') (hv : v < v') : HGo hp g ((r, o') :: hp) (setG g r c) := by
  intro x o hx
  by_cases e : r = x
  · subst e
    have hcur : curV ((r, o') :: hp) r = some v' := by
      cases o' <;> simp [verO] at h' <;> subst h'
      · exact curV_buf (lkH_cons_same _ _ _)
      · exact curV_bufo (lkH_cons_same _ _ _)
    cases o with
    | box n u => rw [curV_box hx] at h; simp at h
    | set ks => simp [curV, hx] at h
    | buf sz rows u =>
      rw [curV_buf hx] at h
      simp only [Option.some.injEq] at h; subst h
      exact ⟨v', hcur, by omega, fun e => by omega⟩
    | bufo sz rows u =>
      rw [curV_bufo hx] at h
      simp only [Option.some.injEq] at h; subst h
      exact ⟨v', hcur, by omega, fun e => by omega⟩
  · have := HGo.refl hp g x o hx
    have hl : lkH ((r, o') :: hp) x = lkH hp x := lkH_cons_ne _ _ e
    have hc : curV ((r, o') :: hp) x = curV hp x := by simp only [curV, hl]
    have hg : setG g r c x = g x := setG_ne g c (Ne.symm e)
    cases o <;> simp only [hl, hc, hg] at this ⊢ <;> exact this
theorem Keep.alloc_drew (K : Kom) (w : World) (o : Go.Obj) (n : Nat) : Keep K w (updK K w.heap.size n) (w.drew.alloc o) := (Keep.drew K w).trans (Keep.alloc K w.drew o n)
theorem RelM.own_step {hp : Heap} (h : RelM X B hp g K w) {r v : Nat} {o o' : Obj} (hl : lkH hp r = some o) (hv : verO o = some v) (hv' : verO o' = some (v + 1)) {c' : Value} {w' : World} {b n : Nat} {cur : Array Value} {T e : TypeId}
    (hbk : blkV c' = some b) (hcase : (blkV (g r) = some b ∧ w' = w.setRow b cur ∧ ∃ cur0, w.heap[b]? = some (Go.Obj.cells cur0 T (0, 0)) ∧ cur.size = cur0.size ∧ K b ≤ n ∧ n ≤ cur0.size ∧ ∀ i, i < K b → cur[i]? = cur0[i]?) ∨
      (b = w.heap.size ∧ w' = w.drew.alloc (.cells cur e)))
    (hro : ∀ (hk : Keep K w (updK K b n) w'), RelO X.fid (updK K b n) w' ((r, o') :: hp) (setG g r c') r o') :
    RelM X B ((r, o') :: hp) (setG g r c') (updK K b n) w' ∧ Keep K w (updK K b n) w' ∧ HGo hp g ((r, o') :: hp) (setG g r c') := by
  have hcv : curV hp r = some v := by
    cases o <;> simp [verO] at hv <;> subst hv
    · exact curV_buf hl
    · exact curV_bufo hl
  have hgo : HGo hp g ((r, o') :: hp) (setG g r c') := HGo.bump hcv hv' (by omega)
  have hk : Keep K w (updK K b n) w' := by
    rcases hcase with ⟨_, rfl, cur0, q1, q2, q3, q4, q5⟩ | ⟨rfl, rfl⟩
    · exact Keep.setRow q1 q2 q3 q4 q5
    · exact Keep.alloc_drew K w _ n
  have hbox : isBox o' = isBox o := by cases o <;> cases o' <;> simp_all [verO, isBox]
  have hnb : isBox o' = 0 := by
    cases o' with
    | box n u => simp [verO] at hv'
    | set ks => simp [verO] at hv'
    | _ => rfl
  have hOb : B.O b ∨ B.w0.heap.size ≤ b := by
    rcases hcase with ⟨q, _⟩ | ⟨rfl, _⟩
    · exact h.own r o b hl q
    · exact .inr h.fr.size
  have hoth : ∀ b', b' ≠ b → b' < w.heap.size → w'.heap[b']? = w.heap[b']? ∧ updK K b n b' = K b' := by
    intro b' hne hlt
    refine ⟨?_, updK_ne K n hne⟩
    rcases hcase with ⟨_, rfl, _⟩ | ⟨rfl, rfl⟩
    · exact setRow_ne w b b' cur hne
    · exact heap_alloc_old w.drew _ hlt
  refine ⟨h.change hk hgo ?_ (fun x => x = r) (fun x o1 hx hl1 => ?_) (fun x o1 hx hl1 => ?_), hk, hgo⟩
  · refine h.fr.step hk ?_ ?_ ?_ ?_ fun b' hlt hn => hoth b' ?_ ?_
    · rcases hcase with ⟨_, rfl, _⟩ | ⟨rfl, rfl⟩ <;> rfl
    · rcases hcase with ⟨_, rfl, _⟩ | ⟨rfl, rfl⟩ <;> rfl
    · rcases hcase with ⟨_, rfl, _⟩ | ⟨rfl, rfl⟩ <;> rfl
    · rcases hcase with ⟨_, rfl, _⟩ | ⟨rfl, rfl⟩ <;> simp
    · rintro rfl; rcases hOb with q | q
      · exact hn q
      · omega
    · have := h.fr.size; omega
  · have hne : r ≠ x := fun q => hx q.symm
    rw [lkH_cons_ne _ _ hne] at hl1
    refine ⟨hl1, setG_ne g c' hx, fun b' hb' => hoth b' ?_ (h.lt hl1 hb')⟩
    rintro rfl
    rcases hcase with ⟨q, _⟩ | ⟨q, _⟩
    · exact h.rh.sep x r o1 o b' hx hl1 hl hb' q
    · have := h.lt hl1 hb'; omega
  · subst hx
    rw [lkH_cons_same] at hl1
    simp only [Option.some.injEq] at hl1; subst hl1
    refine ⟨hro hk, fun b' hb' => ?_, fun h64 => ⟨o, hl, hbox, fun q => by rw [hnb] at q; simp at q⟩⟩
    rw [setG_same, hbk] at hb'
    simp only [Option.some.injEq] at hb'; subst hb'
    refine ⟨hOb, fun r' o2 hne hr' => ?_⟩
    rw [lkH_cons_ne _ _ (Ne.symm hne)] at hr'
    rw [setG_ne g c' hne]
    intro hb2
    rcases hcase with ⟨q, _⟩ | ⟨q, _⟩
    · exact h.rh.sep r' x o2 o b hne hr' hl hb2 q
    · have := h.lt hr' hb2; omega
end
end Eng

namespace Eng
open Go
section
variable {X : Ctx} {B : Base} {s : St} {g : Nat → Value} {K : Kom} {w : World} {a : Act}
def appElem (X : Ctx) (t t2 : TypeId) (sz : Nat) : Bool := match X.P.underlying t, X.P.underlying t2 with
  | some (.slice e), some (.slice _) => match X.P.info? e with
    | some i => decide (i.size = sz) && decide (i.bytes ≤ 32768) && (match i.zero with | some z => decide (z.cells.size = sz) | none => false)
    | none => false
  | _, _ => false
theorem appElem_spec {t t2 : TypeId} {sz : Nat} (h : appElem X t t2 sz = true) : ∃ e e2 i z, X.P.underlying t = some (.slice e) ∧ X.P.underlying t2 = some (.slice e2) ∧ X.P.info? e = some i ∧ i.zero = some z ∧ z.cells.size = sz ∧ i.size = sz ∧ i.bytes ≤ 32768 := by
  unfold appElem at h
  split at h
  · rename_i e e2 h1 h2
    split at h
    · rename_i i hi
      simp only [Bool.and_eq_true, decide_eq_true_eq] at h
      obtain ⟨⟨h3, h4⟩, h5⟩ := h
      split at h5
      · rename_i z hz
        exact ⟨e, e2, i, z, h1, h2, hi, hz, by simpa using h5, h3, h4⟩
      · simp at h5
    · simp at h
  · simp at h
theorem own_facts {hp : Heap} (hh : RelH X.fid K w hp g) {r v sz : Nat} {rows : List (List PV)} {c : Value} (hl : lkH hp r = some (.buf sz rows v)) (hc : RelA X.fid K w hp g (.own r v) c) :
    c = g r ∧ ((rows = [] ∧ c = .slice none 0 0) ∨ ∃ b cap cur T, c = .slice (some ⟨b, 0, none⟩) rows.length cap ∧ w.heap[b]? = some (Go.Obj.cells cur T (0, 0)) ∧ cur.size = cap * sz ∧ rows.length ≤ cap ∧ RelRows K w sz rows cur.toList ∧ K b = rows.length * sz) := by
  simp only [RelA] at hc
  obtain ⟨_, vc, e1, _, e3⟩ := hc
  rw [curV_buf hl] at e1
  simp only [Option.some.injEq] at e1; subst e1
  have e := e3 rfl
  refine ⟨e, ?_⟩
  rw [e]
  rcases hh.obj r _ hl with q | ⟨b, cap, cur, T, f1, f2, f3, f4, f5, f6⟩
  · exact .inl q
  · exact .inr ⟨b, cap, cur, T, f1, f2, f3, f4, f6, f5⟩
theorem run_app_own (hs : RelS X B s g K w a) {o : Oper} {sz r v : Nat} {x y : Opd} {x' y' : Operand} {t t2 : TypeId} {rows ys : List (List PV)} (ho : o.op = .call { callee := .builtin .append, args := #[x', y'], argTypes := #[t, t2] })
    (he : appElem X t t2 sz = true) (hx : chkOpd X x x' = true) (hy : chkOpd X y y' = true) (hv : opd X.G s.env x = .own r v) (hl : lkH s.hp r = some (.buf sz rows v)) (hr : rowsOf s.hp (opd X.G s.env y) = some (sz, ys))
    (h32 : rows.length + ys.length < 2 ^ 32) : OpRun X B s.hp g K w a o (.own r (v + 1)) [(r, .buf sz (rows ++ ys) (v + 1))] := by
  obtain ⟨e, e2, i, z, q1, q2, q3, q4, q5, q6, q7⟩ := appElem_spec he
  have h1 := opd_rel hs hx
  rw [hv] at h1
  obtain ⟨p1, p2⟩ := own_facts hs.mem.rh hl h1
  have h2 := rowsOf_rel hs.mem.rh (opd_rel hs hy) hr
  obtain ⟨c', w', hrun, hcase⟩ := app_core (P := X.P) (ty := o.type) q1 q2 q3 q4 q5 q6 q7 h32 (p2.imp id fun ⟨b, cap, cur, T, k1, k2, k3, k4, k5, _⟩ => ⟨b, cap, cur, T, k1, k2, k3, k4, k5⟩) h2
  have hexec : (execOp a.eval o).run X.P w = .ok (.value c') w' := by
    rw [exec_builtin ho]
    simp only [builtin, Sem.run_bind]
    have : (#[x', y'].map a.eval) = #[a.eval x', a.eval y'] := by simp
    rw [this, hrun]
    rfl
  rcases hcase with ⟨rfl, rfl, k1, rfl, rfl⟩ | ⟨b, cap, cur, T, rfl, k2, k3, k4, k5, k6⟩
  · -- nothing onto nil
    have hgr : g r = .slice none 0 0 := p1.symm.trans k1
    have hgo : HGo s.hp g ((r, .buf sz ([] ++ []) (v + 1)) :: s.hp) g := by
      have := HGo.bump (g := g) (o' := .buf sz ([] ++ []) (v + 1)) (c := g r) (curV_buf hl) rfl (by omega)
      have e : setG g r (g r) = g := by funext x; by_cases h : x = r <;> simp [setG, h]
      rwa [e] at this
    refine ⟨_, _, K, g, .inl hexec, ?_, Keep.refl K _, hgo, ?_⟩
    · refine hs.mem.change (Keep.refl K _) hgo hs.mem.fr (fun x => x = r) (fun x o1 hx1 hl1 => ?_) (fun x o1 hx1 hl1 => ?_)
      · simp only [List.cons_append, List.nil_append] at hl1
        rw [lkH_cons_ne _ _ (fun q => hx1 q.symm)] at hl1
        exact ⟨hl1, rfl, fun _ _ => ⟨rfl, rfl⟩⟩
      · subst hx1
        simp only [List.cons_append, List.nil_append] at hl1
        rw [lkH_cons_same] at hl1
        simp only [Option.some.injEq] at hl1; subst hl1
        refine ⟨.inl ⟨rfl, hgr⟩, fun b hb => by rw [hgr] at hb; simp [blkV] at hb, fun _ => ⟨_, hl, rfl, fun _ => rfl⟩⟩
    · simp only [RelA, List.cons_append, List.nil_append]
      exact ⟨⟨_, _, _, rfl⟩, v + 1, curV_buf (lkH_cons_same _ _ _), Nat.le_refl _, fun _ => hgr.symm⟩
  · have hmul : (rows.length + ys.length) * sz ≤ cap * sz := Nat.mul_le_mul_right _ k4
    have hsplit : (rows.length + ys.length) * sz = rows.length * sz + ys.length * sz := Nat.add_mul _ _ _
    have hcase' : (blkV (g r) = some b ∧ w' = w.setRow b cur ∧ ∃ cur0, w.heap[b]? = some (Go.Obj.cells cur0 T (0, 0)) ∧ cur.size = cur0.size ∧ K b ≤ (rows.length + ys.length) * sz ∧ (rows.length + ys.length) * sz ≤ cur0.size ∧ ∀ i, i < K b → cur[i]? = cur0[i]?) ∨
        (b = w.heap.size ∧ w' = w.drew.alloc (.cells cur e)) := by
      rcases k6 with ⟨m1, m2, cur0, m3, m4, m5⟩ | m
      · left
        rw [← p1]
        have hK : K b = rows.length * sz := by
          rcases p2 with ⟨_, n1⟩ | ⟨b', _, _, _, n1, _, _, _, _, n6⟩
          · rw [n1] at m1; simp [blkV] at m1
          · rw [n1] at m1; simp only [blkV, Option.some.injEq] at m1; subst m1; exact n6
        exact ⟨m1, m2, cur0, m3, m4, by omega, by omega, by rw [hK]; exact m5⟩
      · exact .inr m
    obtain ⟨r1, r2, r3⟩ := hs.mem.own_step (o' := .buf sz (rows ++ ys) (v + 1)) (c' := .slice (some ⟨b, 0, none⟩) (rows.length + ys.length) cap) (n := (rows.length + ys.length) * sz) hl rfl rfl rfl hcase' fun hk => by
      refine .inr ⟨b, cap, cur, T, ?_, k2, k3, by simpa using k4, ?_, RelRows_mono hk _ _ _ _ k5 fun _ _ => rfl⟩
      · rw [setG_same]; simp
      · rw [updK_same]; simp
    refine ⟨_, _, _, _, .inl hexec, r1, r2, r3, ?_⟩
    simp only [RelA, List.cons_append, List.nil_append]
    exact ⟨⟨_, _, _, rfl⟩, v + 1, curV_buf (lkH_cons_same _ _ _), Nat.le_refl _, fun _ => (setG_same _ _ _).symm⟩
theorem run_appo (hs : RelS X B s g K w a) {o : Oper} {sz r v : Nat} {x y : Opd} {x' y' : Operand} {t t2 : TypeId} {rows : List (List PV)} {y0 : List PV} (ho : o.op = .call { callee := .builtin .append, args := #[x', y'], argTypes := #[t, t2] })
    (he : appElem X t t2 sz = true) (hx : chkOpd X x x' = true) (hy : chkOpd X y y' = true) (hv : opd X.G s.env x = .own r v) (hl : lkH s.hp r = some (.buf sz rows v)) (hr : rowsOf s.hp (opd X.G s.env y) = some (sz, [y0]))
    (h32 : rows.length + 1 < 2 ^ 32) : OpRun X B s.hp g K w a o (.own r (v + 1)) [(r, .bufo sz rows (v + 1))] := by
  obtain ⟨e, e2, i, z, q1, q2, q3, q4, q5, q6, q7⟩ := appElem_spec he
  have h1 := opd_rel hs hx
  rw [hv] at h1
  obtain ⟨p1, p2⟩ := own_facts hs.mem.rh hl h1
  have h2 := rowsOf_rel hs.mem.rh (opd_rel hs hy) hr
  obtain ⟨c', w', hrun, hcase⟩ := app_core (P := X.P) (ty := o.type) q1 q2 q3 q4 q5 q6 q7 (by simpa using h32) (p2.imp id fun ⟨b, cap, cur, T, k1, k2, k3, k4, k5, _⟩ => ⟨b, cap, cur, T, k1, k2, k3, k4, k5⟩) h2
  have hexec : (execOp a.eval o).run X.P w = .ok (.value c') w' := by
    rw [exec_builtin ho]
    simp only [builtin, Sem.run_bind]
    have : (#[x', y'].map a.eval) = #[a.eval x', a.eval y'] := by simp
    rw [this, hrun]
    rfl
  rcases hcase with ⟨h, _⟩ | ⟨b, cap, cur, T, rfl, k2, k3, k4, k5, k6⟩
  · simp at h
  · simp only [List.length_singleton] at k4
    have hmul : (rows.length + 1) * sz ≤ cap * sz := Nat.mul_le_mul_right _ k4
    have hsplit : (rows.length + 1) * sz = rows.length * sz + sz := by rw [Nat.add_mul, Nat.one_mul]
    have hcase' : (blkV (g r) = some b ∧ w' = w.setRow b cur ∧ ∃ cur0, w.heap[b]? = some (Go.Obj.cells cur0 T (0, 0)) ∧ cur.size = cur0.size ∧ K b ≤ rows.length * sz ∧ rows.length * sz ≤ cur0.size ∧ ∀ i, i < K b → cur[i]? = cur0[i]?) ∨
        (b = w.heap.size ∧ w' = w.drew.alloc (.cells cur e)) := by
      rcases k6 with ⟨m1, m2, cur0, m3, m4, m5⟩ | m
      · left
        rw [← p1]
        have hK : K b = rows.length * sz := by
          rcases p2 with ⟨_, n1⟩ | ⟨b', _, _, _, n1, _, _, _, _, n6⟩
          · rw [n1] at m1; simp [blkV] at m1
          · rw [n1] at m1; simp only [blkV, Option.some.injEq] at m1; subst m1; exact n6
        exact ⟨m1, m2, cur0, m3, m4, by omega, by omega, by rw [hK]; exact m5⟩
      · exact .inr m
    obtain ⟨r1, r2, r3⟩ := hs.mem.own_step (o' := .bufo sz rows (v + 1)) (c' := .slice (some ⟨b, 0, none⟩) (rows.length + [y0].length) cap) (n := rows.length * sz) hl rfl rfl rfl hcase' fun hk => by
      refine ⟨b, cap, cur, T, ?_, k2, k3, k4, ?_, ?_⟩
      · rw [setG_same]; simp
      · rw [updK_same]
      · have := RelRows_take rows.length k5
        simp only [List.take_left] at this
        exact RelRows_mono hk _ _ _ _ this fun _ _ => rfl
    refine ⟨_, _, _, _, .inl hexec, r1, r2, r3, ?_⟩
    simp only [RelA, List.cons_append, List.nil_append]
    exact ⟨⟨_, _, _, rfl⟩, v + 1, curV_bufo (lkH_cons_same _ _ _), Nat.le_refl _, fun _ => (setG_same _ _ _).symm⟩
theorem run_app_ex (hs : RelS X B s g K w a) {o : Oper} {sz : Nat} {x y : Opd} {x' y' : Operand} {t t2 : TypeId} {rows ys : List (List PV)} (ho : o.op = .call { callee := .builtin .append, args := #[x', y'], argTypes := #[t, t2] })
    (he : appElem X t t2 sz = true) (hx : chkOpd X x x' = true) (hy : chkOpd X y y' = true) (hv : opd X.G s.env x = .ex sz rows) (hr : rowsOf s.hp (opd X.G s.env y) = some (sz, ys))
    (h32 : rows.length + ys.length < 2 ^ 32) : OpRun X B s.hp g K w a o (.pl (.sl sz (rows ++ ys))) [] := by
  obtain ⟨e, e2, i, z, q1, q2, q3, q4, q5, q6, q7⟩ := appElem_spec he
  have h1 := opd_rel hs hx
  rw [hv] at h1
  simp only [RelA] at h1
  obtain ⟨h1, ad, hc⟩ := h1
  have h2 := rowsOf_rel hs.mem.rh (opd_rel hs hy) hr
  obtain ⟨news, f1, f2, f3, f4, f5, ad2, cap2, f6, f7⟩ := firstCells_rows (P := X.P) h2
  obtain ⟨olds, o1, _, o3, o4, _, _⟩ := firstCells_rows (P := X.P) h1
  have hex : ∀ c' w', (Builtin.append_ #[t, t2] o.type #[a.eval x', a.eval y']).run X.P w = .ok c' w' → (execOp a.eval o).run X.P w = .ok (.value c') w' := by
    intro c' w' hrun
    rw [exec_builtin ho]
    simp only [builtin, Sem.run_bind]
    have : (#[x', y'].map a.eval) = #[a.eval x', a.eval y'] := by simp
    rw [this, hrun]
    rfl
  by_cases hy0 : ys = []
  · subst hy0
    refine OpRun.still hs (c := a.eval x') (hex _ _ ?_) (by simpa only [RelA, List.append_nil] using h1)
    have hsz : (Go.sizeOf e).run X.P w = Result.ok sz w := by simp [Go.sizeOf, typeInfo, q3, q6]
    have hn : news = [] := List.eq_nil_of_length_eq_zero (by simpa using f3)
    have hf := f1 w rfl
    subst hn
    simp only [List.length_nil] at hf f2
    rw [hc]
    cases ad <;> simp [Builtin.append_, run_underlying q1, run_underlying q2, hsz, f2, hf, storeCells]
  · have hlen : ys.length ≠ 0 := fun h => hy0 (List.eq_nil_of_length_eq_zero h)
    have hrun := run_app_grow (P := X.P) (w := w) (ty := o.type) (ad := ad) (n := rows.length) (cap := rows.length) q1 q2 q3 q4 q6 f2 (by rw [← hc]; exact o1 w.drew rfl) (f1 w.drew rfl) (by omega) h32 q7
    rw [← hc] at hrun
    have hcap := grownCap_ge w (rows.length + ys.length) rows.length e
    generalize grownCap w (rows.length + ys.length) rows.length e = cap at hrun hcap
    generalize hcs : olds.toArray ++ news.toArray ++ Builtin.zeroCells z.cells (cap - (rows.length + ys.length)) = cs at hrun
    have hm := hs.mem.drew.alloc (.cells cs e) ((rows.length + ys.length) * sz)
    have hkk := Keep.alloc_drew K w (.cells cs e) ((rows.length + ys.length) * sz)
    have hsz : w.drew.heap.size = w.heap.size := rfl
    rw [hsz] at hm
    have hol : olds.length = rows.length * sz := o3
    have hcl : cs.toList = olds ++ (news ++ (Builtin.zeroCells z.cells (cap - (rows.length + ys.length))).toList) := by rw [← hcs]; simp
    have hcz : (rows.length + ys.length) * sz ≤ cs.size := by
      rw [← Array.length_toList, hcl]
      simp only [List.length_append, hol, f3, Nat.add_mul]; omega
    refine ⟨_, _, _, g, .inl (hex _ _ hrun), hm, hkk, HGo.refl _ _, ?_⟩
    simp only [RelA, RelP]
    refine ⟨_, cap, by rw [List.length_append], by simpa using hcap, .inr ⟨w.heap.size, 0, cs, e, (0, 0), rfl, heap_alloc_new w.drew _, ?_, ?_, ?_⟩⟩
    · rw [updK_same]; simp
    · rw [updK_same]; exact hcz
    · rw [List.drop_zero, hcl]
      refine RelRows_append (RelRows_mono hkk _ _ _ _ o4 fun i hi => ?_) ?_
      · rw [List.getElem?_append_left (by omega)]
      · rw [← hol, List.drop_left]
        refine RelRows_mono hkk _ _ _ _ f4 fun i hi => ?_
        rw [List.getElem?_append_left (by omega)]
theorem run_appn (hs : RelS X B s g K w a) {o : Oper} {sz r : Nat} {y : Opd} {y' : Operand} {t t2 : TypeId} {ys : List (List PV)} (ho : o.op = .call { callee := .builtin .append, args := #[.const (.slice none 0 0), y'], argTypes := #[t, t2] })
    (he : appElem X t t2 sz = true) (hy : chkOpd X y y' = true) (hf : freshAt s.hp [r] = true) (hr : rowsOf s.hp (opd X.G s.env y) = some (sz, ys)) (h32 : ys.length < 2 ^ 32) :
    OpRun X B s.hp g K w a o (.own r 0) [(r, .buf sz ys 0)] := by
  obtain ⟨e, e2, i, z, q1, q2, q3, q4, q5, q6, q7⟩ := appElem_spec he
  obtain ⟨h1, h64, _⟩ := fresh_cons hf
  have h2 := rowsOf_rel hs.mem.rh (opd_rel hs hy) hr
  obtain ⟨c', w', hrun, hcase⟩ := app_core (P := X.P) (w := w) (ty := o.type) (rows := []) (c1 := .slice none 0 0) q1 q2 q3 q4 q5 q6 q7 (by simpa using h32) (.inl ⟨rfl, rfl⟩) h2
  have hexec : (execOp a.eval o).run X.P w = .ok (.value c') w' := by
    rw [exec_builtin ho]
    simp only [builtin, Sem.run_bind]
    have : (#[Operand.const (.slice none 0 0), y'].map a.eval) = #[.slice none 0 0, a.eval y'] := by simp [Act.eval]
    rw [this, hrun]
    rfl
  rcases hcase with ⟨rfl, _, _, rfl, rfl⟩ | ⟨b, cap, cur, T, rfl, k2, k3, k4, k5, k6⟩
  · have hm := hs.mem.add (r := r) (o := .buf sz [] 0) (v := .slice none 0 0) h1 h64 (.inl ⟨rfl, setG_same _ _ _⟩) (fun b hb => by simp [blkV] at hb)
    refine ⟨_, _, K, _, .inl hexec, hm, Keep.refl K _, HGo.add h1, ?_⟩
    simp only [RelA, List.cons_append, List.nil_append]
    exact ⟨⟨_, _, _, rfl⟩, 0, curV_buf (lkH_cons_same _ _ _), Nat.le_refl _, fun _ => (setG_same _ _ _).symm⟩
  · rcases k6 with ⟨m1, _⟩ | ⟨rfl, rfl⟩
    · simp [blkV] at m1
    · simp only [List.length_nil, Nat.zero_add, List.nil_append] at k3 k4 k5 hexec ⊢
      have hm0 := hs.mem.drew.alloc (.cells cur e) (ys.length * sz)
      have hkk := Keep.alloc_drew K w (.cells cur e) (ys.length * sz)
      have hsz : w.drew.heap.size = w.heap.size := rfl
      rw [hsz] at hm0
      have hm := hm0.add (r := r) (o := .buf sz ys 0) (v := .slice (some ⟨w.heap.size, 0, none⟩) ys.length cap) h1 h64
        (.inr ⟨w.heap.size, cap, cur, T, setG_same _ _ _, k2, k3, k4, updK_same _ _ _, RelRows_mono hkk _ _ _ _ k5 fun _ _ => rfl⟩) (fun b hb => by
          simp only [blkV, Option.some.injEq] at hb; subst hb
          exact ⟨.inr hs.mem.fr.size, fun r' o' hr' hb' => by have := hs.mem.lt hr' hb'; omega⟩)
      refine ⟨_, _, _, _, .inl hexec, hm, hkk, HGo.add h1, ?_⟩
      simp only [RelA, List.cons_append, List.nil_append]
      exact ⟨⟨_, _, _, rfl⟩, 0, curV_buf (lkH_cons_same _ _ _), Nat.le_refl _, fun _ => (setG_same _ _ _).symm⟩
end
end Eng

namespace Eng
open Go Go.ChangeMaps
section
variable {X : Ctx} {B : Base} {s : St} {g : Nat → Value} {K : Kom} {w : World} {a : Act}
theorem insK_in {n : Int} : ∀ {ks : List Int}, n ∈ ks → insK ks n = ks
  | [], h => by simp at h
  | k :: l, h => by
    simp only [insK]
    by_cases e : k = n
    · simp [e]
    · have : n ∈ l := by simpa [Ne.symm e] using h
      simp [e, insK_in this]
theorem insK_out {n : Int} : ∀ {ks : List Int}, n ∉ ks → insK ks n = ks ++ [n]
  | [], _ => rfl
  | k :: l, h => by
    have h1 : k ≠ n := fun e => h (by simp [e])
    have h2 : n ∉ l := fun e => h (by simp [e])
    simp [insK, h1, insK_out h2]
def mapIs (X : Ctx) (t : TypeId) : Bool := match X.P.underlying t with
  | some (.map k _) => match X.P.underlying k with
    | some (.int .i64) => true
    | _ => false
  | _ => false
theorem mapIs_spec {t : TypeId} (h : mapIs X t = true) : ∃ k e, X.P.underlying t = some (.map k e) ∧ X.P.underlying k = some (.int .i64) := by
  unfold mapIs at h
  split at h
  · rename_i k e h1
    split at h
    · rename_i h2; exact ⟨k, e, h1, h2⟩
    · simp at h
  · simp at h
theorem run_mset (hs : RelS X B s g K w a) {o : Oper} {r : Nat} {t : TypeId} (ho : o.op = .makeMap t none) (hf : freshAt s.hp [r] = true) : OpRun X B s.hp g K w a o (.mp r) [(r, .set [])] := by
  simp only [freshAt] at hf
  cases hl : lkH s.hp r with
  | some o => rw [hl] at hf; simp at hf
  | none =>
    rw [hl] at hf
    simp only [Bool.and_true, bleN] at hf
    have hm : RelM X B ((r, .set []) :: s.hp) (setG g r (.map (some w.heap.size))) (updK K w.heap.size 0) (w.alloc (.map #[] 0)) := by
      refine (hs.mem.alloc (.map #[] 0) 0).add hl hf ⟨w.heap.size, #[], 0, setG_same _ _ _, heap_alloc_new w _, rfl, by simp, MapKept.stamped_empty 0⟩ fun b hb => ?_
      simp only [blkV, Option.some.injEq] at hb; subst hb
      refine ⟨.inr hs.mem.fr.size, fun r' o' hr' hb' => ?_⟩
      have := hs.mem.lt hr' hb'
      omega
    refine ⟨.map (some w.heap.size), _, _, _, .inl ?_, hm, Keep.alloc K w _ 0, HGo.add hl, ?_⟩
    · simp only [execOp, ho, Instr.makeMap, Option.map_none, Sem.run_bind, Result.andThen_ok, run_newObj, Sem.run_pure]
      rfl
    · simp only [RelA, List.cons_append, List.nil_append]
      exact ⟨[], w.heap.size, lkH_cons_same _ _ _, setG_same _ _ _, rfl⟩
theorem Keep.setMap {b : Nat} {es : Array MapEntry} {clock : Nat} {o : Go.Obj} (hb : w.heap[b]? = some (.map es clock)) : Keep K w K (setBlock w b o) := by
  intro b' cur T fr h
  have hne : b' ≠ b := by rintro rfl; rw [hb] at h; simp at h
  refine ⟨cur, fr, ?_, rfl, Nat.le_refl _, id, fun _ _ => rfl⟩
  simp [setBlock, Array.getElem?_setIfInBounds, hne.symm, h]
theorem setBlock_ne {b b' : Nat} (o : Go.Obj) (h : b' ≠ b) : (setBlock w b o).heap[b']? = w.heap[b']? := by
  simp [setBlock, Array.getElem?_setIfInBounds, h.symm]
theorem run_mput (hs : RelS X B s g K w a) {o : Oper} {r : Nat} {t : TypeId} {x y : Opd} {x' y' : Operand} {n : Int} {ks : List Int} (ho : o.op = .mapUpdate t x' y' (.const (.bool true)))
    (hx : chkOpd X x x' = true) (hy : chkOpd X y y' = true) (ht : mapIs X t = true) (h1 : opd X.G s.env x = .mp r) (h2 : opd X.G s.env y = .pl (.int .i64 n)) (hl : lkH s.hp r = some (.set ks)) :
    OpRun X B s.hp g K w a o .undef [(r, .set (insK ks n))] := by
  obtain ⟨kt, et, t1, t2⟩ := mapIs_spec ht
  have e1 := opd_rel hs hx
  have e2 := opd_rel hs hy
  rw [h1] at e1
  rw [h2] at e2
  simp only [RelA, RelP] at e1 e2
  obtain ⟨ks', b0, f1, f2, f3⟩ := e1
  obtain ⟨b, es, clock, q1, q2, q3, q4, q5⟩ := hs.mem.rh.obj r _ hl
  have eb : b0 = b := by rw [f2] at q1; simpa using q1
  subst eb
  have hkey : MapKept.IsKey (.int .i64) (.int .i64 n) := rfl
  have hks : ∀ z ∈ es.toList, MapKept.IsKey (.int .i64) z.key := by
    intro z hz
    have : z.key ∈ es.toList.map (·.key) := List.mem_map.2 ⟨z, hz, rfl⟩
    rw [q3] at this
    obtain ⟨m, _, e⟩ := List.mem_map.1 this
    rw [← e]; rfl
  -- the entries behind the step
  have step : ∃ es' clock', (Instr.mapUpdate t (.map (some b0)) (.int .i64 n) (.bool true)).run X.P w = .ok () (setBlock w b0 (.map es' clock')) ∧
      es'.toList.map (·.key) = (insK ks n).map (Value.int .i64) ∧ (∀ z ∈ es'.toList, z.val = .bool true) ∧ MapKept.Stamped es' clock' := by
    rcases MapKept.findNow_spec hkey es.toList 0 hks with ⟨g1, g2⟩ | ⟨j, e0, g1, g2, g3⟩
    · refine ⟨es.push ⟨.int .i64 n, .bool true, clock⟩, clock + 1, ?_, ?_, ?_, MapKept.stamped_push q5 g2⟩
      · simp [Instr.mapUpdate, run_underlying t1, MapKept.run_getObj_map q2, MapKept.run_checkKey t2 hkey, MapKept.run_findKey t2 g1, MapKept.run_setObj_map _ q2, Result.andThen, setBlock]
      · have hn : n ∉ ks := by
          intro hmem
          have : Value.int .i64 n ∈ es.toList.map (·.key) := by rw [q3]; exact List.mem_map.2 ⟨n, hmem, rfl⟩
          obtain ⟨z, hz, e⟩ := List.mem_map.1 this
          exact g2 z hz e
        simp only [Array.toList_push, List.map_append, List.map_cons, List.map_nil, q3, insK_out hn]
      · intro z hz
        simp only [Array.toList_push, List.mem_append, List.mem_singleton] at hz
        rcases hz with hz | rfl
        · exact q4 z hz
        · rfl
    · have hj : es[j]? = some e0 := by simpa using g2
      have hkeyf : ∀ e', es[j]? = some e' → ({ e' with key := .int .i64 n, val := .bool true } : MapEntry).key = e'.key := fun e' he' => by rw [hj] at he'; cases he'; exact g3.symm
      refine ⟨es.modify j (fun e' => { e' with key := .int .i64 n, val := .bool true }), clock, ?_, ?_, ?_, MapKept.stamped_modify q5 _ _ (fun _ _ => rfl) (fun e' _ he' => hkeyf e' he')⟩
      · simp [Instr.mapUpdate, run_underlying t1, MapKept.run_getObj_map q2, MapKept.run_checkKey t2 hkey, MapKept.run_findKey t2 g1, hj, g3, MapKept.run_keyThatStays hkey, MapKept.run_setObj_map _ q2, Result.andThen, setBlock]
      · have hn : n ∈ ks := by
          have : Value.int .i64 n ∈ ks.map (Value.int .i64) := by
            rw [← q3]
            exact List.mem_map.2 ⟨e0, List.mem_of_getElem? g2, g3⟩
          obtain ⟨m, hm, e⟩ := List.mem_map.1 this
          cases e; exact hm
        rw [MapKept.modify_keys _ _ hkeyf, q3, insK_in hn]
      · intro z hz
        rcases MapFrom.mem_modify hz with hz | ⟨e', _, rfl⟩
        · exact q4 z hz
        · rfl
  obtain ⟨es', clock', s1, s2, s3, s4⟩ := step
  have hk : Keep K w K (setBlock w b0 (.map es' clock')) := Keep.setMap q2
  have hlt : b0 < w.heap.size := (Array.getElem?_eq_some_iff.1 q2).1
  have hg : HGo s.hp g ((r, .set (insK ks n)) :: s.hp) g := by
    intro z o' hz
    by_cases e : r = z
    · subst e
      rw [hl] at hz
      simp only [Option.some.injEq] at hz; subst hz
      exact ⟨⟨_, lkH_cons_same _ _ _⟩, rfl⟩
    · have := HGo.refl s.hp g z o' hz
      have hl' : lkH ((r, .set (insK ks n)) :: s.hp) z = lkH s.hp z := lkH_cons_ne _ _ e
      have hc : curV ((r, .set (insK ks n)) :: s.hp) z = curV s.hp z := by simp only [curV, hl']
      cases o' <;> simp only [hl', hc] at this ⊢ <;> exact this
  have hown := hs.mem.own r _ b0 hl (by rw [q1]; rfl)
  refine ⟨undef, setBlock w b0 (.map es' clock'), K, g, .inr ⟨?_, rfl⟩, ?_, hk, hg, by simp [RelA]⟩
  · have hev : a.eval (.const (.bool true)) = .bool true := rfl
    simp only [execOp, ho, f3, e2, hev, s1, Sem.run_bind, Sem.run_pure, Result.andThen_ok]
  · refine hs.mem.change hk hg (hs.mem.fr.step hk rfl rfl rfl (by simp [setBlock]) fun b' hb' hO => ?_) (fun z => z = r) (fun z o' hz hl' => ?_) (fun z o' hz hl' => ?_)
    · have hne : b' ≠ b0 := by
        rintro rfl
        rcases hown with h | h
        · exact hO h
        · omega
      exact ⟨setBlock_ne _ hne, rfl⟩
    · have hne : r ≠ z := fun e => hz e.symm
      simp only [List.cons_append, List.nil_append] at hl'
      rw [lkH_cons_ne _ _ hne] at hl'
      refine ⟨hl', rfl, fun b' hb' => ⟨setBlock_ne _ ?_, rfl⟩⟩
      rintro rfl
      exact hs.mem.rh.sep z r _ _ b' (Ne.symm hne) hl' hl hb' (by rw [q1]; rfl)
    · subst hz
      simp only [List.cons_append, List.nil_append] at hl'
      rw [lkH_cons_same] at hl'
      simp only [Option.some.injEq] at hl'; subst hl'
      refine ⟨⟨b0, es', clock', q1, by simp [setBlock, Array.getElem?_setIfInBounds, hlt], s2, s3, s4⟩, fun b' hb' => ⟨hs.mem.own z _ b' hl hb', fun r' o'' hne hr' => ?_⟩, fun h64 => ⟨_, hl, rfl, fun _ => rfl⟩⟩
      simp only [List.cons_append, List.nil_append] at hr'
      rw [lkH_cons_ne _ _ (Ne.symm hne)] at hr'
      exact hs.mem.rh.sep z r' _ _ b' (Ne.symm hne) hl hr' hb'
end
end Eng

namespace Eng
open Go
section
variable {X : Ctx} {B : Base} {s : St} {g : Nat → Value} {K : Kom} {w : World} {a : Act}
theorem run_store_op (hs : RelS X B s g K w a) {o : Oper} {sz r v : Nat} {x u : Opd} {y z : Operand} {t : TypeId} {rows : List (List PV)} {row : List PV} (ho : o.op = .store t y z) (hx : chkOpd X x y = true) (hu : chkOpd X u z = true)
    (hsz : szIs X t sz = true) (h0 : 0 < sz) (hv : opd X.G s.env x = .op r v) (hl : lkH s.hp r = some (.bufo sz rows v)) (hn : sizeAV (frz s.hp (opd X.G s.env u)) = sz) (hr : rowOf (frz s.hp (opd X.G s.env u)) = some row) :
    OpRun X B s.hp g K w a o .undef [(r, .buf sz (rows ++ [row]) v)] := by
  have h1 := opd_rel hs hx
  rw [hv] at h1
  simp only [RelA] at h1
  obtain ⟨_, vc, e1, e2, e3⟩ := h1
  obtain ⟨b, len, cap, e4, e5⟩ := e3 sz rows hl
  obtain ⟨b', cap', cur, T, f1, f2, f3, f4, f5, f6⟩ := hs.mem.rh.obj r _ hl
  rw [e4] at f1
  simp only [Value.slice.injEq, Option.some.injEq, Addr.mk.injEq, and_true] at f1
  obtain ⟨rfl, rfl, rfl⟩ := f1
  have hfz := frz_rel hs.mem.rh (opd_rel hs hu)
  obtain ⟨r1, r2⟩ := RelA_cellsV hfz (by omega)
  have hcell : cellsAV (frz s.hp (opd X.G s.env u)) = row.map .pl := by
    cases hq : frz s.hp (opd X.G s.env u) <;> rw [hq] at hr <;> simp [rowOf] at hr <;> subst hr <;> rfl
  rw [hcell] at r1
  have hlr := RelCells_length r1
  simp at hlr
  have hone := RelCells_oneCell r1
  have hcs : (a.eval z).cells.size = sz := by omega
  have hmul : (rows.length + 1) * sz ≤ cur.size := by rw [f3]; exact Nat.mul_le_mul_right _ f4
  have hsplit : (rows.length + 1) * sz = rows.length * sz + sz := by rw [Nat.add_mul, Nat.one_mul]
  have hle : rows.length * sz + sz ≤ cur.size := by omega
  have hrun := run_storeVar (X := X) (w := w) hsz hcs f2 hle hone
  generalize hcs' : (cur.toList.take (rows.length * sz) ++ (a.eval z).cells.toList ++ cur.toList.drop (rows.length * sz + sz)).toArray = cs at hrun
  have hcl : cs.toList = cur.toList.take (rows.length * sz) ++ (a.eval z).cells.toList ++ cur.toList.drop (rows.length * sz + sz) := by rw [← hcs']
  have hsize : cs.size = cur.size := by
    rw [← Array.length_toList, hcl]; simp; omega
  have hk : Keep K w (updK K b ((rows.length + 1) * sz)) (w.setRow b cs) := Keep.setRow f2 hsize (by omega) (by omega) (by
    intro i hi
    have : cs.toList[i]? = cur.toList[i]? := by
      rw [hcl, List.append_assoc, List.getElem?_append_left (by simp; omega), List.getElem?_take, if_pos (by omega)]
    simpa using this)
  have hg : HGo s.hp g ((r, .buf sz (rows ++ [row]) v) :: s.hp) g := by
    intro x o' hx'
    by_cases e : r = x
    · subst e
      rw [hl] at hx'
      simp only [Option.some.injEq] at hx'; subst hx'
      refine ⟨v, curV_buf (lkH_cons_same _ _ _), Nat.le_refl _, fun _ => ⟨rfl, fun sz' rows' hh => ?_⟩⟩
      rw [lkH_cons_same] at hh
      simp at hh
    · have := HGo.refl s.hp g x o' hx'
      have hl' : lkH ((r, .buf sz (rows ++ [row]) v) :: s.hp) x = lkH s.hp x := lkH_cons_ne _ _ e
      have hc : curV ((r, .buf sz (rows ++ [row]) v) :: s.hp) x = curV s.hp x := by simp only [curV, hl']
      cases o' <;> simp only [hl', hc] at this ⊢ <;> exact this
  refine ⟨undef, w.setRow b cs, _, g, .inr ⟨?_, rfl⟩, ?_, hk, hg, by simp [RelA]⟩
  · simp only [execOp, ho, Instr.storeAt, e5, Instr.sureAddr, Sem.run_bind, Sem.run_pure, Result.andThen_ok, hrun]
  · refine hs.mem.change hk hg (hs.mem.fr.setRow hk (hs.mem.own r _ b hl (by rw [e4]; rfl))) (fun x => x = r) (fun x o' hx' hl' => ?_) (fun x o' hx' hl' => ?_)
    · have hne : r ≠ x := fun e => hx' e.symm
      simp only [List.cons_append, List.nil_append] at hl'
      rw [lkH_cons_ne _ _ hne] at hl'
      refine ⟨hl', rfl, fun b' hb' => ?_⟩
      have hbne : b' ≠ b := by
        rintro rfl
        exact hs.mem.rh.sep x r _ _ b' (Ne.symm hne) hl' hl hb' (by rw [e4]; rfl)
      exact ⟨setRow_ne w b b' cs hbne, updK_ne K _ hbne⟩
    · subst hx'
      simp only [List.cons_append, List.nil_append] at hl'
      rw [lkH_cons_same] at hl'
      simp only [Option.some.injEq] at hl'; subst hl'
      refine ⟨.inr ⟨b, cap, cs, T, by rw [e4]; simp, setRow_heap w b cur cs T (0, 0) f2, by omega, by simpa using f4, by rw [updK_same]; simp, ?_⟩, fun b' hb' => ?_, fun h64 => ⟨_, hl, rfl, fun q => by simp [isBox] at q⟩⟩
      · rw [hcl, List.append_assoc]
        have hlt : (cur.toList.take (rows.length * sz)).length = rows.length * sz := by simp; omega
        refine RelRows_append (RelRows_mono hk _ _ _ _ f6 fun i hi => ?_) ?_
        · rw [List.getElem?_append_left (by omega), List.getElem?_take, if_pos hi]
        · rw [List.drop_append_of_le_length (by omega), List.drop_of_length_le (by omega), List.nil_append]
          simp only [RelRows]
          refine ⟨by omega, ?_, trivial⟩
          have h3 := RelL_mono hk _ _ _ (RelL_of_cells r1) fun _ _ => rfl
          have h4 := RelL_append (qs := []) (m := cur.toList.drop (rows.length * sz + sz)) h3 (by simp; omega) (by simp [RelL])
          simpa using h4
      · refine ⟨hs.mem.own x _ b' hl hb', fun r' o'' hne hr' => ?_⟩
        simp only [List.cons_append, List.nil_append] at hr'
        rw [lkH_cons_ne _ _ (Ne.symm hne)] at hr'
        exact hs.mem.rh.sep x r' _ _ b' (Ne.symm hne) hl hr' hb'
section chk
variable (X : Ctx)
def chkParts (pl : Nat → Option (Nat × Nat)) : List (Nat × Nat × Opd) → List (Nat × Operand) → Bool
  | [], [] => true
  | (off, n, x) :: ps, (i, y) :: qs => decide (pl i = some (off, n)) && chkOpd X x y && chkParts pl ps qs
  | _, _ => false
def fieldIs (t f off : Nat) : Option TypeId := match X.P.underlying t with
  | some (.struct fs) => match fs[f]? with
    | some fd => if fd.offset = off then some fd.type else none
    | none => none
  | _ => none
def isBuiltin (c : Call) (b : Builtin) : Bool := match c.callee with
  | .builtin b' => decide (b' = b)
  | _ => false
def chkOp : ROp → Op → Bool
  | .mov x, .move y => chkOpd X x y
  | .mov x, .assign y => chkOpd X x y
  | .nilb _ _, .move (.const (.slice none 0 0)) => true
  | .nilb _ _, .assign (.const (.slice none 0 0)) => true
  | .pick x y z, .pick x' y' z' => chkOpd X x x' && chkOpd X y y' && chkOpd X z z'
  | .box _ _ x, .box _ y => chkOpd X x y
  | .alloc _ n z bs, .alloc t => match X.P.info? t with
    | some i => match i.zero with
      | some zv => chkZ (X := X) bs (cellsAV z) zv.cells.toList && decide ((cellsAV z).length = n)
      | none => false
    | none => false
  | .load n ag x, .load t y => chkOpd X x y && szIs X t n && aggIs X t ag
  | .store n x u, .store t y z => chkOpd X x y && chkOpd X u z && szIs X t n && decide (0 < n)
  | .fadd x d, .fieldAddr t y f => chkOpd X x y && (match fieldIs X t f d with
    | some u => match X.P.info? u with
      | some i => decide (i.size ≠ 0)
      | none => false
    | none => false)
  | .iadd sz x y, .indexAddr t x' y' => chkOpd X x x' && chkOpd X y y' && elemIs X t sz
  | .iarr len sz x y, .indexAddr t x' y' => chkOpd X x x' && chkOpd X y y' && (match X.P.underlying t with
    | some (.array l e) => decide (l = len) && szIs X e sz
    | _ => false)
  | .fld x off n ag, .field t y f => chkOpd X x y && (match fieldIs X t f off with
    | some u => szIs X u n && aggIs X u ag
    | none => false)
  | .build z bs ps, .build t parts => (match X.P.info? t with
    | some i => match i.zero with
      | some zv => chkZ (X := X) bs z zv.cells.toList
      | none => false
    | none => false) && (match X.P.underlying t with
    | some (.struct fs) => (fs.toList.all fun f => (X.P.info? f.type).isSome) && chkParts X (placeS X fs) ps parts.toList
    | some (.array _ e) => match X.P.info? e with
      | some i => chkParts X (fun k => some (k * i.size, i.size)) ps parts.toList
      | none => false
    | _ => false)
  | .bsl sz ps, .buildSlice t n parts => decide (n = ps.length) && decide (0 < sz) && decide (ps.length * sz ≤ 2 ^ 24) && (match X.P.underlying t with
    | some (.slice e) => szIs X e sz && (match X.P.info? e with
      | some i => i.zero.isSome
      | none => false)
    | _ => false) && decide (parts.toList.map (·.1) = List.range' 0 parts.toList.length) && chkOpds X ps (parts.toList.map (·.2))
  | .bslo _ sz ps, .buildSlice t n parts => decide (n = ps.length) && decide (0 < sz) && decide (ps.length * sz ≤ 2 ^ 24) && (match X.P.underlying t with
    | some (.slice e) => szIs X e sz && (match X.P.info? e with
      | some i => i.zero.isSome
      | none => false)
    | _ => false) && decide (parts.toList.map (·.1) = List.range' 0 parts.toList.length) && chkOpds X ps (parts.toList.map (·.2))
  | .bin op x y, .binOp op' _ x' y' _ => decide (op = op') && chkOpd X x x' && chkOpd X y y'
  | .binb op x y, .binOp op' t x' y' _ => decide (op = op') && chkOpd X x x' && chkOpd X y y' && (match X.P.underlying t with
    | some .bool => true
    | _ => false)
  | .un op x, .unOp op' _ y => decide (op = op') && chkOpd X x y
  | .conv k x, .convert src dst y => chkOpd X x y && (match X.P.underlying src, X.P.underlying dst with
    | some (.int _), some (.int k') => decide (k = k')
    | _, _ => false)
  | .len x, .call c => isBuiltin c .len && (match c.args.toList, c.argTypes.toList with
    | [y], t :: _ => chkOpd X x y && (match X.P.underlying t with
      | some (.slice _) => true
      | _ => false)
    | _, _ => false)
  | .lens x, .call c => isBuiltin c .len && (match c.args.toList, c.argTypes.toList with
    | [y], t :: _ => chkOpd X x y && (match X.P.underlying t with
      | some .string => true
      | _ => false)
    | _, _ => false)
  | .slc sz x lo hi mx, .slice t x' lo' hi' mx' => chkOpd X x x' && chkOpt X lo lo' && chkOpt X hi hi' && chkOpt X mx mx' && (hi.isSome || mx.isNone) && elemIs X t sz
  | .app sz x y, .call c => isBuiltin c .append && (match c.args.toList, c.argTypes.toList with
    | [x', y'], [t, t2] => chkOpd X x x' && chkOpd X y y' && appElem X t t2 sz
    | _, _ => false)
  | .appo sz x y, .call c => isBuiltin c .append && (match c.args.toList, c.argTypes.toList with
    | [x', y'], [t, t2] => chkOpd X x x' && chkOpd X y y' && appElem X t t2 sz
    | _, _ => false)
  | .appn _ sz y, .call c => isBuiltin c .append && (match c.args.toList, c.argTypes.toList with
    | [.const (.slice none 0 0), y'], [t, t2] => chkOpd X y y' && appElem X t t2 sz
    | _, _ => false)
  | .ext x i, .extract y j => chkOpd X x y && decide (i = j)
  | .mkf f caps, .makeFunc (.func k) first caps' => decide (X.fid f = k) && decide (first.size = 0) && chkOpds X caps caps'.toList
  | .chk x, .nilCheck y => chkOpd X x y
  | .min2 x y, .call c => isBuiltin c .min && (match c.args.toList with
    | [x', y'] => chkOpd X x x' && chkOpd X y y'
    | _ => false)
  | .max2 x y, .call c => isBuiltin c .max && (match c.args.toList with
    | [x', y'] => chkOpd X x x' && chkOpd X y y'
    | _ => false)
  | .call _ f args, .call c => (match c.callee with
    | .value (.func k) => decide (X.fid f = k)
    | _ => false) && chkOpds X args c.args.toList
  | .callv _ f args, .call c => (match c.callee with
    | .value y => chkOpd X f y
    | _ => false) && chkOpds X args c.args.toList
  | .mset _, .makeMap _ none => true
  | .mput x y, .mapUpdate t x' y' (.const (.bool true)) => chkOpd X x x' && chkOpd X y y' && mapIs X t
  | _, _ => false
end chk
theorem chkParts_spec {pl : Nat → Option (Nat × Nat)} : ∀ {ps : List (Nat × Nat × Opd)} {qs : List (Nat × Operand)}, chkParts X pl ps qs = true →
    (∀ p ∈ ps.zip qs, pl p.2.1 = some (p.1.1, p.1.2.1) ∧ chkOpd X p.1.2.2 p.2.2 = true) ∧ ps.length = qs.length
  | [], [], _ => by simp
  | (off, n, x) :: ps, (i, y) :: qs, h => by
    simp only [chkParts, Bool.and_eq_true, decide_eq_true_eq] at h
    obtain ⟨⟨h1, h2⟩, h3⟩ := h
    obtain ⟨i1, i2⟩ := chkParts_spec h3
    refine ⟨fun p hp => ?_, by simp [i2]⟩
    rcases List.mem_cons.1 (by simpa using hp) with rfl | hp
    · exact ⟨h1, h2⟩
    · exact i1 p hp
  | [], _ :: _, h => by simp [chkParts] at h
  | _ :: _, [], h => by simp [chkParts] at h
end
end Eng

namespace Eng
open Go
section
variable {X : Ctx} {B : Base} {s : St} {g : Nat → Value} {K : Kom} {w : World} {a : Act}
theorem builtin_spec {c : Call} {b : Builtin} (h : isBuiltin c b = true) : ∃ args tys, c = { callee := .builtin b, args := args, argTypes := tys } := by
  unfold isBuiltin at h
  split at h
  · rename_i b' hb
    simp only [decide_eq_true_eq] at h; subst h
    exact ⟨c.args, c.argTypes, by cases c; simp_all⟩
  · simp at h
theorem field_spec {t f off u : Nat} (h : fieldIs X t f off = some u) : ∃ fs fd, X.P.underlying t = some (.struct fs) ∧ fs[f]? = some fd ∧ fd.offset = off ∧ fd.type = u := by
  unfold fieldIs at h
  split at h
  · rename_i fs hfs
    split at h
    · rename_i fd hfd
      split at h
      · rename_i ho
        simp only [Option.some.injEq] at h
        exact ⟨fs, fd, hfs, hfd, ho, h⟩
      · simp at h
    · simp at h
  · simp at h
theorem elem_spec {t sz : Nat} (h : elemIs X t sz = true) : ∃ e, X.P.underlying t = some (.slice e) ∧ szIs X e sz = true := by
  unfold elemIs at h
  split at h
  · rename_i e he; exact ⟨e, he, h⟩
  · simp at h
theorem asI_spec {v : AV} {k : IntKind} {n : Int} (h : asI v = some (k, n)) : v = .pl (.int k n) := by
  unfold asI at h
  split at h
  · simp only [Option.some.injEq, Prod.mk.injEq] at h; obtain ⟨rfl, rfl⟩ := h; rfl
  · simp at h
def callsR : ROp → Bool
  | .call .. => true
  | .callv .. => true
  | _ => false
theorem arr2 {α : Type} {x : Array α} {l : List α} (h : x.toList = l) : x = l.toArray := by rw [← h]
set_option maxHeartbeats 1000000 in
theorem op_run {S : Sp} (hs : RelS X B s g K w a) {r : ROp} {o : Oper} {res : Res} (hc : chkOp X r o.op = true) (hn : callsR r = false) (hstep : stepOp S X.G s.env s.hp r = some res) : OpRun X B s.hp g K w a o res.v res.upd := by
  generalize hop : o.op = p at hc
  unfold chkOp at hc
  split at hc
  · -- mov
    simp only [stepOp, Option.some.injEq] at hstep; subst hstep
    exact run_mov hs (.inl hop) hc
  · simp only [stepOp, Option.some.injEq] at hstep; subst hstep
    exact run_mov hs (.inr hop) hc
  · rename_i r sz
    simp only [stepOp] at hstep
    cases hf : freshAt s.hp [r] with
    | false => rw [hf] at hstep; simp at hstep
    | true =>
      rw [hf] at hstep
      simp only [cond_true, Option.some.injEq] at hstep; subst hstep
      exact run_nilb hs (.inl hop) hf
  · rename_i r sz
    simp only [stepOp] at hstep
    cases hf : freshAt s.hp [r] with
    | false => rw [hf] at hstep; simp at hstep
    | true =>
      rw [hf] at hstep
      simp only [cond_true, Option.some.injEq] at hstep; subst hstep
      exact run_nilb hs (.inr hop) hf
  · rename_i x y z x' y' z'
    simp only [Bool.and_eq_true] at hc
    obtain ⟨⟨h1, h2⟩, h3⟩ := hc
    simp only [stepOp] at hstep
    split at hstep
    · rename_i b hb
      simp only [Option.some.injEq] at hstep; subst hstep
      exact run_pick hs hop h1 h2 h3 hb
    · simp at hstep
  · rename_i r n x t y
    simp only [stepOp] at hstep
    cases hf : (freshAt s.hp [r] && Nat.beq (sizeAV (opd X.G s.env x)) n && Nat.blt 0 n) with
    | false => rw [hf] at hstep; simp at hstep
    | true =>
      rw [hf] at hstep
      simp only [cond_true, Option.some.injEq] at hstep; subst hstep
      simp only [Bool.and_eq_true, beqN, bltN] at hf
      exact run_box hs hop hc hf.1.1 hf.1.2 hf.2
  · rename_i r n z bs t
    split at hc
    · rename_i i hi
      split at hc
      · rename_i zv hz
        simp only [Bool.and_eq_true, decide_eq_true_eq] at hc
        simp only [stepOp] at hstep
        cases hf : (freshAt s.hp (r :: bufAts bs) && distinctN (r :: bufAts bs) && Nat.beq (sizeAV z) n && Nat.blt 0 n) with
        | false => rw [hf] at hstep; simp at hstep
        | true =>
          rw [hf] at hstep
          simp only [cond_true, Option.some.injEq] at hstep; subst hstep
          simp only [Bool.and_eq_true, beqN, bltN] at hf
          exact run_alloc hs hop hi hz hc.1 hf.1.1.1 hf.1.1.2 hf.1.2 hc.2 hf.2
      · simp at hc
    · simp at hc
  · rename_i n ag x t y
    simp only [Bool.and_eq_true] at hc
    obtain ⟨⟨h1, h2⟩, h3⟩ := hc
    simp only [stepOp] at hstep
    split at hstep
    · rename_i r off hv
      split at hstep
      · rename_i m v hl
        split at hstep
        · rename_i u hp
          simp only [Option.some.injEq] at hstep; subst hstep
          exact run_load_ptr hs hop h1 h2 h3 hv hl hp
        · simp at hstep
      · simp at hstep
    · rename_i m cs hv
      cases hb : (Nat.ble n m && (ag || Nat.beq n 1)) with
      | false => rw [hb] at hstep; simp at hstep
      | true =>
        rw [hb] at hstep
        simp only [cond_true, Option.some.injEq] at hstep; subst hstep
        simp only [Bool.and_eq_true, bleN, Bool.or_eq_true, beqN] at hb
        exact run_load_rp hs hop h1 h2 h3 hv hb.1 hb.2
    · simp at hstep
  · rename_i n x u t y z
    simp only [Bool.and_eq_true, decide_eq_true_eq] at hc
    obtain ⟨⟨⟨h1, h2⟩, h3⟩, h0⟩ := hc
    simp only [stepOp] at hstep
    split at hstep
    · rename_i r off hv
      split at hstep
      · rename_i m v hl
        split at hstep
        · rename_i v' hp
          simp only [Option.some.injEq] at hstep; subst hstep
          exact run_store_ptr hs hop h1 h2 h3 hv hl hp
        · simp at hstep
      · simp at hstep
    · rename_i r v hv
      split at hstep
      · rename_i sz rows v' hl
        cases hb : (Nat.beq v' v && Nat.beq n sz && Nat.beq (sizeAV (frz s.hp (opd X.G s.env u))) n) with
        | false => rw [hb] at hstep; simp at hstep
        | true =>
          rw [hb] at hstep
          simp only [Bool.and_eq_true, beqN] at hb
          obtain ⟨⟨rfl, rfl⟩, hb3⟩ := hb
          simp only [cond_true] at hstep
          split at hstep
          · rename_i row hr
            simp only [Option.some.injEq] at hstep; subst hstep
            exact run_store_op hs hop h1 h2 h3 h0 hv hl hb3 hr
          · simp at hstep
      · simp at hstep
    · simp at hstep
  · rename_i x d t y f
    simp only [Bool.and_eq_true] at hc
    obtain ⟨h1, h2⟩ := hc
    split at h2
    · rename_i u hu
      split at h2
      · rename_i i hi
        simp only [decide_eq_true_eq] at h2
        obtain ⟨fs, fd, q1, q2, q3, rfl⟩ := field_spec hu
        simp only [stepOp] at hstep
        split at hstep
        · rename_i r off hv
          simp only [Option.some.injEq] at hstep; subst hstep
          exact run_fadd_ptr hs hop h1 q1 q2 q3 hi h2 hv
        · rename_i m cs hv
          cases hb : Nat.ble d m with
          | false => rw [hb] at hstep; simp at hstep
          | true =>
            rw [hb] at hstep
            simp only [cond_true, Option.some.injEq] at hstep; subst hstep
            exact run_fadd_rp hs hop h1 q1 q2 q3 hi h2 hv (bleN.1 hb)
        · simp at hstep
      · simp at h2
    · simp at h2
  · rename_i sz x y t x' y'
    simp only [Bool.and_eq_true] at hc
    obtain ⟨⟨h1, h2⟩, h3⟩ := hc
    obtain ⟨e, q1, q2⟩ := elem_spec h3
    simp only [stepOp] at hstep
    have rest : ∀ sz' rows k n, rowsOf s.hp (opd X.G s.env x) = some (sz', rows) → asI (opd X.G s.env y) = some (k, n) → sz' = sz → 0 ≤ n → n < rows.length → OpRun X B s.hp g K w a o (.rp sz (rows.getD n.toNat [])) [] := by
      intro sz' rows k n hr hi hsz h0 hlt
      subst hsz
      exact run_iadd_rows hs hop h1 h2 q1 q2 hr (asI_spec hi) h0 hlt
    split at hstep
    · rename_i r v hv
      split at hstep
      · rename_i sz' rows v' kn n hl hi
        cases hb : (Nat.beq v' v && Nat.beq sz' sz && decide (0 ≤ n) && decide (n < rows.length)) with
        | false => rw [hb] at hstep; simp at hstep
        | true =>
          rw [hb] at hstep
          simp only [Bool.and_eq_true, beqN, decide_eq_true_eq] at hb
          obtain ⟨⟨⟨rfl, hb2⟩, hb3⟩, hb4⟩ := hb
          simp only [cond_true, Option.some.injEq] at hstep; subst hstep
          refine rest sz' rows _ n ?_ hi hb2 hb3 hb4
          rw [hv]
          simp [rowsOf, hl]
      · rename_i sz' rows v' kn n hl hi
        cases hb : (Nat.beq v' v && Nat.beq sz' sz && decide (n = rows.length)) with
        | false => rw [hb] at hstep; simp at hstep
        | true =>
          rw [hb] at hstep
          simp only [Bool.and_eq_true, beqN, decide_eq_true_eq] at hb
          obtain ⟨⟨rfl, rfl⟩, hb3⟩ := hb
          simp only [cond_true, Option.some.injEq] at hstep; subst hstep
          exact run_iadd_op hs hop h1 h2 q1 q2 hv hl (asI_spec hi) hb3
      · simp at hstep
    · split at hstep
      · rename_i sz' rows kn n hr hi
        cases hb : (Nat.beq sz' sz && decide (0 ≤ n) && decide (n < rows.length)) with
        | false => rw [hb] at hstep; simp at hstep
        | true =>
          rw [hb] at hstep
          simp only [Bool.and_eq_true, beqN, decide_eq_true_eq] at hb
          simp only [cond_true, Option.some.injEq] at hstep; subst hstep
          exact rest sz' rows _ n hr hi hb.1.1 hb.1.2 hb.2
      · simp at hstep
  · rename_i len sz x y t x' y'
    simp only [Bool.and_eq_true] at hc
    obtain ⟨⟨h1, h2⟩, h3⟩ := hc
    split at h3
    · rename_i l e he
      simp only [Bool.and_eq_true, decide_eq_true_eq] at h3
      obtain ⟨rfl, h3⟩ := h3
      simp only [stepOp] at hstep
      split at hstep
      · rename_i r off kn n hv hi
        cases hb : (decide (0 ≤ n) && decide (n < l)) with
        | false => rw [hb] at hstep; simp at hstep
        | true =>
          rw [hb] at hstep
          simp only [Bool.and_eq_true, decide_eq_true_eq] at hb
          simp only [cond_true, Option.some.injEq] at hstep; subst hstep
          exact run_iarr_ptr hs hop h1 h2 he h3 hv (asI_spec hi) hb.1 hb.2
      · rename_i m cs kn n hv hi
        cases hb : (decide (0 ≤ n) && decide (n < l) && Nat.ble (l * sz) m) with
        | false => rw [hb] at hstep; simp at hstep
        | true =>
          rw [hb] at hstep
          simp only [Bool.and_eq_true, decide_eq_true_eq, bleN] at hb
          simp only [cond_true, Option.some.injEq] at hstep; subst hstep
          exact run_iarr_rp hs hop h1 h2 he h3 hv (asI_spec hi) hb.1.1 hb.1.2 hb.2
      · simp at hstep
    · simp at h3
  · rename_i x off n ag t y f
    simp only [Bool.and_eq_true] at hc
    obtain ⟨h1, h2⟩ := hc
    split at h2
    · rename_i u hu
      simp only [Bool.and_eq_true] at h2
      obtain ⟨fs, fd, q1, q2, q3, rfl⟩ := field_spec hu
      simp only [stepOp] at hstep
      split at hstep
      · rename_i m cs hv
        split at hstep
        · rename_i v hp
          simp only [Option.some.injEq] at hstep; subst hstep
          exact run_fld hs hop h1 q1 q2 q3 h2.1 h2.2 (by rw [hv]; exact hp) (.inl ⟨m, cs, hv⟩)
        · simp at hstep
      · rename_i cs hv
        split at hstep
        · rename_i v hp
          simp only [Option.some.injEq] at hstep; subst hstep
          exact run_fld hs hop h1 q1 q2 q3 h2.1 h2.2 (by rw [hv]; exact hp) (.inr ⟨cs, hv⟩)
        · simp at hstep
      · simp at hstep
    · simp at h2
  · -- build
    rename_i z bs ps t parts
    simp only [Bool.and_eq_true] at hc
    obtain ⟨h1, h2⟩ := hc
    split at h1
    · rename_i i hi
      split at h1
      · rename_i zv hz
        simp only [stepOp] at hstep
        cases hf : (freshAt s.hp (bufAts bs) && distinctN (bufAts bs)) with
        | false => rw [hf] at hstep; simp at hstep
        | true =>
          rw [hf] at hstep
          simp only [cond_true] at hstep
          simp only [Bool.and_eq_true] at hf
          split at hstep
          · rename_i cs hcs
            simp only [Option.some.injEq] at hstep; subst hstep
            split at h2
            · rename_i fs hfs
              simp only [Bool.and_eq_true, List.all_eq_true] at h2
              obtain ⟨k1, k2⟩ := chkParts_spec h2.2
              exact run_build_struct hs hop hi hz hfs h2.1 h1 hf.1 hf.2 k1 k2 hcs
            · rename_i len e he
              split at h2
              · rename_i j hj
                obtain ⟨k1, k2⟩ := chkParts_spec h2
                exact run_build_array hs hop hi hz he (sz := j.size) (by simp [szIs, hj]) h1 hf.1 hf.2 k1 k2 hcs
              · simp at h2
            · simp at h2
          · simp at hstep
      · simp at h1
    · simp at h1
  · -- bsl
    rename_i sz ps t n parts
    simp only [Bool.and_eq_true, decide_eq_true_eq] at hc
    obtain ⟨⟨⟨⟨⟨rfl, h0⟩, h24⟩, h3⟩, h4⟩, h5⟩ := hc
    split at h3
    · rename_i e he
      simp only [Bool.and_eq_true] at h3
      obtain ⟨h6, h7⟩ := h3
      split at h7
      · rename_i i hi
        simp only [stepOp] at hstep
        split at hstep
        · rename_i rows hr
          simp only [Option.some.injEq] at hstep; subst hstep
          exact run_bsl hs hop he h6 hi h7 h0 h24 h4 h5 hr
        · simp at hstep
      · simp at h7
    · simp at h3
  · -- bslo
    rename_i r sz ps t n parts
    simp only [Bool.and_eq_true, decide_eq_true_eq] at hc
    obtain ⟨⟨⟨⟨⟨rfl, h0⟩, h24⟩, h3⟩, h4⟩, h5⟩ := hc
    split at h3
    · rename_i e he
      simp only [Bool.and_eq_true] at h3
      obtain ⟨h6, h7⟩ := h3
      split at h7
      · rename_i i hi
        simp only [stepOp] at hstep
        cases hb : (freshAt s.hp [r] && Nat.blt 0 ps.length) with
        | false => rw [hb] at hstep; simp at hstep
        | true =>
          rw [hb] at hstep
          simp only [Bool.and_eq_true] at hb
          simp only [cond_true] at hstep
          split at hstep
          · rename_i rows hr
            simp only [Option.some.injEq] at hstep; subst hstep
            exact run_bslo hs hop he h6 hi h7 h0 h24 h4 h5 hb.1 (by have h2 := hb.2; simp [Nat.blt] at h2; omega) hr
          · simp at hstep
      · simp at h7
    · simp at h3
  · -- bin
    rename_i op x y op' t x' y' t'
    simp only [Bool.and_eq_true, decide_eq_true_eq] at hc
    obtain ⟨⟨rfl, h1⟩, h2⟩ := hc
    simp only [stepOp] at hstep
    split at hstep
    · rename_i v hv
      simp only [Option.some.injEq] at hstep; subst hstep
      have e1 := opd_rel hs h1
      have e2 := opd_rel hs h2
      generalize opd X.G s.env x = u1 at hv e1
      generalize opd X.G s.env y = u2 at hv e2
      have hform : ∃ k n k' m, u1 = .pl (.int k n) ∧ u2 = .pl (.int k' m) := by
        unfold binEv at hv
        split at hv
        · exact ⟨_, _, _, _, rfl, rfl⟩
        · simp at hv
      obtain ⟨k, n, k', m, rfl, rfl⟩ := hform
      simp only [RelA, RelP] at e1 e2
      exact run_bin_int hs hop e1 e2 hv
    · simp at hstep
  · -- binb
    rename_i op x y op' t x' y' t'
    simp only [Bool.and_eq_true, decide_eq_true_eq] at hc
    obtain ⟨⟨⟨rfl, h1⟩, h2⟩, h3⟩ := hc
    simp only [stepOp] at hstep
    split at hstep
    · rename_i v hv
      simp only [Option.some.injEq] at hstep; subst hstep
      have e1 := opd_rel hs h1
      have e2 := opd_rel hs h2
      generalize opd X.G s.env x = u1 at hv e1
      generalize opd X.G s.env y = u2 at hv e2
      have hform : ∃ b c, u1 = .pl (.bool b) ∧ u2 = .pl (.bool c) := by
        unfold binbEv at hv
        split at hv
        · exact ⟨_, _, rfl, rfl⟩
        · simp at hv
      obtain ⟨b, c, rfl, rfl⟩ := hform
      simp only [RelA, RelP] at e1 e2
      split at h3
      · rename_i ht
        exact run_bin_bool hs hop ht e1 e2 hv
      · simp at h3
    · simp at hstep
  · -- un
    rename_i op x op' t y
    simp only [Bool.and_eq_true, decide_eq_true_eq] at hc
    obtain ⟨rfl, h1⟩ := hc
    simp only [stepOp] at hstep
    split at hstep
    · rename_i v hv
      simp only [Option.some.injEq] at hstep; subst hstep
      exact run_un hs hop h1 hv
    · simp at hstep
  · -- conv
    rename_i k x src dst y
    simp only [Bool.and_eq_true] at hc
    obtain ⟨h1, h2⟩ := hc
    split at h2
    · rename_i k0 k' e1 e2
      simp only [decide_eq_true_eq] at h2; subst h2
      simp only [stepOp] at hstep
      split at hstep
      · rename_i k1 n hv
        simp only [Option.some.injEq] at hstep; subst hstep
        exact run_conv hs hop h1 e1 e2 hv
      · simp at hstep
    · simp at h2
  · -- len
    rename_i x c
    simp only [Bool.and_eq_true] at hc
    obtain ⟨h1, h2⟩ := hc
    obtain ⟨args, tys, rfl⟩ := builtin_spec h1
    simp only at h2
    split at h2
    · rename_i y t ts ha ht
      simp only [Bool.and_eq_true] at h2
      obtain ⟨h3, h4⟩ := h2
      have ha' := arr2 ha
      subst ha'
      have ht' : tys[0]? = some t := by rw [← Array.getElem?_toList, ht]; rfl
      simp only [stepOp] at hstep
      split at hstep
      · rename_i sz rows hr
        simp only [Option.some.injEq] at hstep; subst hstep
        split at h4
        · rename_i e he; exact run_len_rows hs hop ht' he h3 hr
        · simp at h4
      · simp at hstep
    · simp at h2
  · -- lens
    rename_i x c
    simp only [Bool.and_eq_true] at hc
    obtain ⟨h1, h2⟩ := hc
    obtain ⟨args, tys, rfl⟩ := builtin_spec h1
    simp only at h2
    split at h2
    · rename_i y t ts ha ht
      simp only [Bool.and_eq_true] at h2
      obtain ⟨h3, h4⟩ := h2
      have ha' := arr2 ha
      subst ha'
      have ht' : tys[0]? = some t := by rw [← Array.getElem?_toList, ht]; rfl
      simp only [stepOp] at hstep
      split at hstep
      · rename_i st hv
        simp only [Option.some.injEq] at hstep; subst hstep
        split at h4
        · rename_i he; exact run_len_str hs hop ht' he h3 hv
        · simp at h4
      · simp at hstep
    · simp at h2
  · -- slc
    rename_i sz0 x lo hi mx t x' lo' hi' mx'
    simp only [Bool.and_eq_true, Bool.or_eq_true] at hc
    obtain ⟨⟨⟨⟨⟨h1, h2⟩, h3⟩, h4⟩, h5⟩, h6⟩ := hc
    obtain ⟨e, he, hsz⟩ := elem_spec h6
    simp only [stepOp] at hstep
    split at hstep
    · rename_i sz rows hr
      cases hb : Nat.beq sz sz0 with
      | false => rw [hb] at hstep; simp at hstep
      | true =>
        rw [hb] at hstep
        rw [beqN] at hb; subst hb
        simp only [cond_true] at hstep
        split at hstep
        · rename_i l h m hl hh hm
          split at hstep
          · rename_i v hv
            simp only [Option.some.injEq] at hstep; subst hstep
            refine run_slc hs hop he hsz h1 h2 h3 h4 ?_ hr hl hh ?_ hv
            · intro hn
              subst hn
              rcases h5 with h5 | h5
              · simp at h5
              · simpa using h5
            · cases mx with
              | none => simp only [Option.some.injEq] at hm; exact .inl ⟨rfl, hm.symm⟩
              | some y =>
                right
                simp only at hm
                cases hq : asI (opd X.G s.env y) with
                | none => rw [hq] at hm; simp at hm
                | some p =>
                  rw [hq] at hm
                  simp only [Option.map_some, Option.some.injEq] at hm
                  exact ⟨p.2, by simp [optI, hq], hm.symm, by simp⟩
          · simp at hstep
        · simp at hstep
    · simp at hstep
  · -- app
    rename_i sz x y c
    simp only [Bool.and_eq_true] at hc
    obtain ⟨h1, h2⟩ := hc
    obtain ⟨args, tys, rfl⟩ := builtin_spec h1
    simp only at h2
    split at h2
    · rename_i x' y' t t2 ha ht
      simp only [Bool.and_eq_true] at h2
      obtain ⟨⟨h3, h4⟩, h5⟩ := h2
      have ha' := arr2 ha
      have ht' := arr2 ht
      subst ha'; subst ht'
      simp only [stepOp] at hstep
      split at hstep
      · rename_i sy ys hr
        split at hstep
        · rename_i r v hv
          split at hstep
          · rename_i sz' rows v' hl
            cases hb : (Nat.beq v' v && Nat.beq sz' sz && Nat.beq sy sz && decide (rows.length + ys.length < 2 ^ 32)) with
            | false => rw [hb] at hstep; simp at hstep
            | true =>
              rw [hb] at hstep
              simp only [Bool.and_eq_true, beqN, decide_eq_true_eq] at hb
              obtain ⟨⟨⟨rfl, rfl⟩, rfl⟩, h32⟩ := hb
              simp only [cond_true, Option.some.injEq] at hstep; subst hstep
              exact run_app_own hs hop h5 h3 h4 hv hl hr h32
          · simp at hstep
        · rename_i sz' rows hv
          cases hb : (Nat.beq sz' sz && Nat.beq sy sz && decide (rows.length + ys.length < 2 ^ 32)) with
          | false => rw [hb] at hstep; simp at hstep
          | true =>
            rw [hb] at hstep
            simp only [Bool.and_eq_true, beqN, decide_eq_true_eq] at hb
            obtain ⟨⟨rfl, rfl⟩, h32⟩ := hb
            simp only [cond_true, Option.some.injEq] at hstep; subst hstep
            exact run_app_ex hs hop h5 h3 h4 hv hr h32
        · simp at hstep
      · simp at hstep
    · simp at h2
  · -- appo
    rename_i sz x y c
    simp only [Bool.and_eq_true] at hc
    obtain ⟨h1, h2⟩ := hc
    obtain ⟨args, tys, rfl⟩ := builtin_spec h1
    simp only at h2
    split at h2
    · rename_i x' y' t t2 ha ht
      simp only [Bool.and_eq_true] at h2
      obtain ⟨⟨h3, h4⟩, h5⟩ := h2
      have ha' := arr2 ha
      have ht' := arr2 ht
      subst ha'; subst ht'
      simp only [stepOp] at hstep
      split at hstep
      · rename_i sy y0 hr
        split at hstep
        · rename_i r v hv
          split at hstep
          · rename_i sz' rows v' hl
            cases hb : (Nat.beq v' v && Nat.beq sz' sz && Nat.beq sy sz && decide (rows.length + 1 < 2 ^ 32)) with
            | false => rw [hb] at hstep; simp at hstep
            | true =>
              rw [hb] at hstep
              simp only [Bool.and_eq_true, beqN, decide_eq_true_eq] at hb
              obtain ⟨⟨⟨rfl, rfl⟩, rfl⟩, h32⟩ := hb
              simp only [cond_true, Option.some.injEq] at hstep; subst hstep
              exact run_appo hs hop h5 h3 h4 hv hl hr h32
          · simp at hstep
        · simp at hstep
      · simp at hstep
    · simp at h2
  · -- appn
    rename_i r sz y c
    simp only [Bool.and_eq_true] at hc
    obtain ⟨h1, h2⟩ := hc
    obtain ⟨args, tys, rfl⟩ := builtin_spec h1
    simp only at h2
    split at h2
    · rename_i y' t t2 ha ht
      simp only [Bool.and_eq_true] at h2
      obtain ⟨h4, h5⟩ := h2
      have ha' := arr2 ha
      have ht' := arr2 ht
      subst ha'; subst ht'
      simp only [stepOp] at hstep
      split at hstep
      · rename_i sy ys hr
        cases hb : (freshAt s.hp [r] && Nat.beq sy sz && decide (ys.length < 2 ^ 32)) with
        | false => rw [hb] at hstep; simp at hstep
        | true =>
          rw [hb] at hstep
          simp only [Bool.and_eq_true, beqN, decide_eq_true_eq] at hb
          obtain ⟨⟨hf, rfl⟩, h32⟩ := hb
          simp only [cond_true, Option.some.injEq] at hstep; subst hstep
          exact run_appn hs hop h5 h4 hf hr h32
      · simp at hstep
    · simp at h2
  · -- ext
    rename_i x i y j
    simp only [Bool.and_eq_true, decide_eq_true_eq] at hc
    obtain ⟨h1, rfl⟩ := hc
    simp only [stepOp] at hstep
    split at hstep
    · rename_i vs hv
      split at hstep
      · rename_i v hvi
        simp only [Option.some.injEq] at hstep; subst hstep
        exact run_ext hs hop h1 hv hvi
      · simp at hstep
    · simp at hstep
  · -- mkf
    rename_i f caps k first caps'
    simp only [Bool.and_eq_true, decide_eq_true_eq] at hc
    obtain ⟨⟨h1, h2⟩, h3⟩ := hc
    simp only [stepOp, Option.some.injEq] at hstep; subst hstep
    exact run_mkf hs hop h1 (Array.eq_empty_of_size_eq_zero h2) h3
  · -- chk
    rename_i x y
    simp only [stepOp] at hstep
    split at hstep
    · rename_i r k hv
      simp only [Option.some.injEq] at hstep; subst hstep
      have := run_chk hs hop hc (.inl ⟨r, k, hv⟩)
      rwa [hv] at this
    · rename_i n cs hv
      simp only [Option.some.injEq] at hstep; subst hstep
      have := run_chk hs hop hc (.inr (.inl ⟨n, cs, hv⟩))
      rwa [hv] at this
    · rename_i f cs hv
      simp only [Option.some.injEq] at hstep; subst hstep
      have := run_chk hs hop hc (.inr (.inr ⟨f, cs, hv⟩))
      rwa [hv] at this
    · simp at hstep
  · -- min
    rename_i x y c
    simp only [Bool.and_eq_true] at hc
    obtain ⟨h1, h2⟩ := hc
    obtain ⟨args, tys, rfl⟩ := builtin_spec h1
    simp only at h2
    split at h2
    · rename_i x' y' ha
      simp only [Bool.and_eq_true] at h2
      have ha' := arr2 ha
      subst ha'
      simp only [stepOp] at hstep
      split at hstep
      · rename_i k n k' m e1 e2
        simp only [Option.some.injEq] at hstep; subst hstep
        exact run_min2 hs hop h2.1 h2.2 e1 e2
      · simp at hstep
    · simp at h2
  · -- max
    rename_i x y c
    simp only [Bool.and_eq_true] at hc
    obtain ⟨h1, h2⟩ := hc
    obtain ⟨args, tys, rfl⟩ := builtin_spec h1
    simp only at h2
    split at h2
    · rename_i x' y' ha
      simp only [Bool.and_eq_true] at h2
      have ha' := arr2 ha
      subst ha'
      simp only [stepOp] at hstep
      split at hstep
      · rename_i k n k' m e1 e2
        simp only [Option.some.injEq] at hstep; subst hstep
        exact run_max2 hs hop h2.1 h2.2 e1 e2
      · simp at hstep
    · simp at h2
  · simp [callsR] at hn
  · simp [callsR] at hn
  · rename_i r t
    simp only [stepOp] at hstep
    cases hf : freshAt s.hp [r] with
    | false => rw [hf] at hstep; simp at hstep
    | true =>
      rw [hf] at hstep
      simp only [cond_true, Option.some.injEq] at hstep; subst hstep
      exact run_mset hs hop hf
  · rename_i x y t x' y'
    simp only [Bool.and_eq_true] at hc
    obtain ⟨⟨h1, h2⟩, h3⟩ := hc
    simp only [stepOp] at hstep
    split at hstep
    · rename_i r n e1 e2
      split at hstep
      · rename_i ks e3
        simp only [Option.some.injEq] at hstep; subst hstep
        exact run_mput hs hop h1 h2 h3 e1 (asI_spec e2) e3
      · simp at hstep
    · simp at hstep
  · simp at hc
end
end Eng

namespace Eng
open Go
section
variable {fid : Nat → FuncId} {K : Kom} {w : World} {hp hp' : Heap} {g g' : Nat → Value}
structure RnOk (m : Rn) (hp : Heap) (g : Nat → Value) (hp' : Heap) (g' : Nat → Value) : Prop where
  p : ∀ r r' n v, m.p r = some r' → lkH hp r = some (.box n v) → (∃ n' v', lkH hp' r' = some (.box n' v')) ∧ g' r' = g r
  q : ∀ r r' ks, m.p r = some r' → lkH hp r = some (.set ks) → (∃ ks', lkH hp' r' = some (.set ks')) ∧ g' r' = g r
  o : ∀ r v r' v', m.o r v = some (r', v') → curV hp r = some v ∧ curV hp' r' = some v' ∧ g' r' = g r
mutual
theorem ren_rel {m : Rn} (hm : RnOk m hp g hp' g') : ∀ (v : AV) (c : Value), RelA fid K w hp g v c → RelA fid K w hp' g' (ren m v) c
  | .undef, _, _ => by simp [ren, RelA]
  | .pl p, c, h => by simpa only [ren, RelA] using h
  | .st n cs, c, h => by simpa only [ren, RelA] using h
  | .ex sz rows, c, h => by simpa only [ren, RelA] using h
  | .rp n cs, c, h => by simpa only [ren, RelA] using h
  | .nilp, c, h => by simpa only [ren, RelA] using h
  | .nilf, c, h => by simpa only [ren, RelA] using h
  | .op r v, c, h => by
    simp only [RelA] at h
    obtain ⟨⟨a, rfl⟩, _⟩ := h
    simp [ren, RelA, RelP, Value.oneCell']
  | .own r v, c, h => by
    simp only [RelA] at h
    obtain ⟨⟨a, n, k, rfl⟩, vc, e1, e2, e3⟩ := h
    simp only [ren]
    split
    · rename_i r' v' hq
      obtain ⟨q1, q2, q3⟩ := hm.o r v r' v' hq
      rw [q1] at e1
      simp only [Option.some.injEq] at e1; subst e1
      simp only [RelA]
      exact ⟨⟨_, _, _, rfl⟩, v', q2, Nat.le_refl _, fun _ => by rw [q3]; exact e3 rfl⟩
    · simp [RelA, RelP, Value.oneCell']
  | .ptr r off, c, h => by
    simp only [RelA] at h
    obtain ⟨n, v, b, e1, e2, rfl⟩ := h
    simp only [ren]
    split
    · rename_i r' hq
      obtain ⟨⟨n', v', q1⟩, q2⟩ := hm.p r r' n v hq e1
      simp only [RelA]
      exact ⟨n', v', b, q1, by rw [q2]; exact e2, rfl⟩
    · simp [RelA, RelP, Value.oneCell']
  | .mp r, c, h => by
    simp only [RelA] at h
    obtain ⟨ks, b, e1, e2, rfl⟩ := h
    simp only [ren]
    split
    · rename_i r' hq
      obtain ⟨⟨ks', q1⟩, q2⟩ := hm.q r r' ks hq e1
      simp only [RelA]
      exact ⟨ks', b, q1, by rw [q2]; exact e2, rfl⟩
    · simp [RelA, RelP, Value.oneCell']
  | .fn f cs, c, h => by
    simp only [RelA, ren] at h ⊢
    obtain ⟨arr, e, e1⟩ := h
    exact ⟨arr, e, renL_rel hm cs _ e1⟩
  | .agg cs, c, h => by
    simp only [RelA, ren] at h ⊢
    obtain ⟨arr, e, e1⟩ := h
    exact ⟨arr, e, renC_rel hm cs _ e1⟩
  | .tup cs, c, h => by
    simp only [RelA, ren] at h ⊢
    obtain ⟨arr, e, e1⟩ := h
    exact ⟨arr, e, renL_rel hm cs _ e1⟩
theorem renL_rel {m : Rn} (hm : RnOk m hp g hp' g') : ∀ (vs : List AV) (l : List Value), RelAs fid K w hp g vs l → RelAs fid K w hp' g' (renL m vs) l
  | [], _, h => by simpa only [renL, RelAs] using h
  | v :: vs, l, h => by
    simp only [RelAs, renL] at h ⊢
    obtain ⟨c, t, e, e1, e2⟩ := h
    exact ⟨c, t, e, ren_rel hm v c e1, renL_rel hm vs t e2⟩
theorem renC_rel {m : Rn} (hm : RnOk m hp g hp' g') : ∀ (vs : List AV) (l : List Value), RelCells fid K w hp g vs l → RelCells fid K w hp' g' (renL m vs) l
  | [], _, h => by simpa only [renL, RelCells] using h
  | v :: vs, l, h => by
    simp only [RelCells, renL] at h ⊢
    obtain ⟨c, t, e, e1, e2⟩ := h
    exact ⟨c, t, e, ⟨ren_rel hm v c e1.1, e1.2⟩, renC_rel hm vs t e2⟩
end
theorem renL_length (m : Rn) : ∀ (vs : List AV), (renL m vs).length = vs.length
  | [] => rfl
  | v :: vs => by simp [renL, renL_length m vs]
theorem renL_map_pl (m : Rn) : ∀ (cs : List PV), renL m (cs.map .pl) = cs.map .pl
  | [] => rfl
  | p :: cs => by simp [renL, ren, renL_map_pl m cs]
theorem cells_ren (m : Rn) (v : AV) : cellsAV (ren m v) = renL m (cellsAV v) := by
  cases v with
  | st n cs => simp only [ren, cellsAV, renL_map_pl]
  | agg cs => simp only [ren, cellsAV]
  | own r v =>
    have h : cellsAV (ren m (.own r v)) = [ren m (.own r v)] := by
      simp only [ren]; split <;> rfl
    rw [h]; simp only [cellsAV, renL]
  | ptr r off =>
    have h : cellsAV (ren m (.ptr r off)) = [ren m (.ptr r off)] := by
      simp only [ren]; split <;> rfl
    rw [h]; simp only [cellsAV, renL]
  | mp r =>
    have h : cellsAV (ren m (.mp r)) = [ren m (.mp r)] := by
      simp only [ren]; split <;> rfl
    rw [h]; simp only [cellsAV, renL]
  | _ => simp only [ren, cellsAV, renL]
theorem size_ren (m : Rn) (v : AV) : sizeAV (ren m v) = sizeAV v := by
  cases v with
  | own r v => simp only [ren]; split <;> rfl
  | ptr r off => simp only [ren]; split <;> rfl
  | mp r => simp only [ren]; split <;> rfl
  | agg cs => simp only [ren, sizeAV, renL_length]
  | _ => simp only [ren, sizeAV]
theorem RelO_ren {m : Rn} (hm : RnOk m hp g hp' g') {r r' nv : Nat} {o : Obj} (h : RelO fid K w hp g r o) (hr : g' r' = g r) : RelO fid K w hp' g' r' (renO m nv o) := by
  cases o with
  | box n v =>
    obtain ⟨b, cur, T, e1, e2, e3, e4, e5, e6, e7⟩ := h
    exact ⟨b, cur, T, by rw [hr]; exact e1, e2, e3, by rw [size_ren]; exact e4, e5, e6, by rw [cells_ren]; exact renC_rel hm _ _ e7⟩
  | buf sz rows v =>
    rcases h with ⟨e1, e2⟩ | ⟨b, cap, cur, T, e1, e2, e3, e4, e5, e6⟩
    · exact .inl ⟨e1, by rw [hr]; exact e2⟩
    · exact .inr ⟨b, cap, cur, T, by rw [hr]; exact e1, e2, e3, e4, e5, e6⟩
  | bufo sz rows v =>
    obtain ⟨b, cap, cur, T, e1, e2, e3, e4, e5, e6⟩ := h
    exact ⟨b, cap, cur, T, by rw [hr]; exact e1, e2, e3, e4, e5, e6⟩
  | set ks =>
    obtain ⟨b, es, clock, e1, e2⟩ := h
    exact ⟨b, es, clock, by rw [hr]; exact e1, e2⟩
theorem isBox_renO (m : Rn) (nv : Nat) (o : Obj) : isBox (renO m nv o) = isBox o := by cases o <;> rfl
theorem verO_renO (m : Rn) (nv : Nat) (o : Obj) : verO (renO m nv o) = (verO o).map fun _ => nv := by cases o <;> rfl
theorem curV_verO {hp : Heap} {r : Nat} {o : Obj} (h : lkH hp r = some o) : curV hp r = verO o := by cases o <;> simp [curV, h, verO]
theorem isBox_verO {o : Obj} (h : verO o = none) : isBox o ≠ 0 := by cases o <;> simp_all [verO, isBox]
end
def ownedBy (hp : Heap) (g : Nat → Value) (b : Nat) : Prop := ∃ r o, lkH hp r = some o ∧ blkV (g r) = some b
def CallOk (X : Ctx) (f : Nat) (args : List AV) (h : List Obj) (res : AV) (h' : List Obj) : Prop :=
  ∀ (w : World) (K : Kom) (g : Nat → Value) (cargs : Array Value), RelH X.fid K w (initH 0 h) g → GRel X K w → RelAs X.fid K w (initH 0 h) g args cargs.toList → h.length ≤ 64 →
    Calls X.P (X.fid f) cargs w fun e w' => ∃ c K' g', e = .returned c ∧ Fr (ownedBy (initH 0 h) g) K w K' w' ∧ GRel X K' w' ∧ RelH X.fid K' w' (initH 0 h') g' ∧
      RelA X.fid K' w' (initH 0 h') g' res c ∧ (∀ r o b, lkH (initH 0 h') r = some o → blkV (g' r) = some b → ownedBy (initH 0 h) g b ∨ w.heap.size ≤ b) ∧
      ∀ r o, lkH (initH 0 h) r = some o → ∃ o', lkH (initH 0 h') r = some o' ∧ isBox o' = isBox o ∧ (isBox o ≠ 0 → g' r = g r)
theorem lk_initH : ∀ (l : List Obj) (k i : Nat), lkH (initH k l) i = if k ≤ i then nthO l (i - k) else none
  | [], k, i => by simp [initH, lkH, nthO]
  | o :: l, k, i => by
    simp only [initH]
    by_cases e : k = i
    · subst e
      rw [lkH_cons_same]
      simp [nthO]
    · rw [lkH_cons_ne _ _ e, lk_initH l (k + 1) i]
      by_cases h : k ≤ i
      · have h1 : k + 1 ≤ i := by omega
        have h2 : i - k = (i - (k + 1)) + 1 := by omega
        simp [h, h1, h2, nthO]
      · have h1 : ¬ k + 1 ≤ i := by omega
        simp [h, h1]
theorem lk_init (l : List Obj) (i : Nat) : lkH (initH 0 l) i = nthO l i := by simp [lk_initH]
theorem nthO_some : ∀ {l : List Obj} {i : Nat} {o : Obj}, nthO l i = some o → i < l.length
  | [], i, o, h => by simp [nthO] at h
  | x :: l, 0, o, _ => by simp
  | x :: l, i + 1, o, h => by simp only [nthO] at h; have := nthO_some h; simp; omega
theorem nthO_lt : ∀ {l : List Obj} {i : Nat}, i < l.length → ∃ o, nthO l i = some o
  | x :: l, 0, _ => ⟨x, rfl⟩
  | x :: l, i + 1, h => by simp only [nthO]; exact nthO_lt (by simpa using h)
theorem nthN_some : ∀ {l : List Nat} {i r : Nat}, nthN l i = some r → i < l.length ∧ r ∈ l
  | [], i, r, h => by simp [nthN] at h
  | x :: l, 0, r, h => by simp only [nthN, Option.some.injEq] at h; subst h; simp
  | x :: l, i + 1, r, h => by
    simp only [nthN] at h
    have := nthN_some h
    exact ⟨by simp; omega, by simp [this.2]⟩
theorem nthN_lt : ∀ {l : List Nat} {i : Nat}, i < l.length → ∃ r, nthN l i = some r
  | x :: l, 0, _ => ⟨x, rfl⟩
  | x :: l, i + 1, h => by simp only [nthN]; exact nthN_lt (by simpa using h)
theorem nthN_ge : ∀ {l : List Nat} {i : Nat}, l.length ≤ i → nthN l i = none
  | [], _, _ => by simp [nthN]
  | x :: l, 0, h => by simp at h
  | x :: l, i + 1, h => by simp only [nthN]; exact nthN_ge (by simpa using h)
theorem memN_mem : ∀ {l : List Nat} {r : Nat}, memN l r = true ↔ r ∈ l
  | [], r => by simp [memN]
  | x :: l, r => by
    simp only [memN]
    cases hb : Nat.beq x r with
    | true => rw [beqN] at hb; subst hb; simp
    | false =>
      have : r ≠ x := fun e => by rw [beqN.2 e.symm] at hb; simp at hb
      simp [memN_mem (l := l), this]
theorem distinct_nth : ∀ {l : List Nat} {i j r : Nat}, distinctN l = true → nthN l i = some r → nthN l j = some r → i = j
  | [], i, j, r, _, h, _ => by simp [nthN] at h
  | x :: l, i, j, r, hd, hi, hj => by
    simp only [distinctN, Bool.and_eq_true, Bool.not_eq_true'] at hd
    have hx : x ∉ l := by
      intro hm
      have := memN_mem.2 hm
      rw [hd.1] at this; simp at this
    cases i with
    | zero =>
      cases j with
      | zero => rfl
      | succ j =>
        simp only [nthN, Option.some.injEq] at hi hj
        subst hi
        exact absurd (nthN_some hj).2 hx
    | succ i =>
      cases j with
      | zero =>
        simp only [nthN, Option.some.injEq] at hi hj
        subst hj
        exact absurd (nthN_some hi).2 hx
      | succ j =>
        simp only [nthN] at hi hj
        rw [distinct_nth hd.2 hi hj]
theorem idxOf_nth : ∀ {l : List Nat} {r k i : Nat}, idxOf l r k = some i → k ≤ i ∧ nthN l (i - k) = some r
  | [], r, k, i, h => by simp [idxOf] at h
  | x :: l, r, k, i, h => by
    simp only [idxOf] at h
    cases hb : Nat.beq x r with
    | true =>
      rw [hb] at h
      rw [beqN] at hb; subst hb
      simp only [cond_true, Option.some.injEq] at h; subst h
      simp [nthN]
    | false =>
      rw [hb] at h
      obtain ⟨h1, h2⟩ := idxOf_nth (by simpa using h)
      refine ⟨by omega, ?_⟩
      have : i - k = (i - (k + 1)) + 1 := by omega
      rw [this]; simp only [nthN]; exact h2
theorem getOs_nth {hp : Heap} {m : Rn} : ∀ {l : List Nat} {os : List Obj} (i : Nat), getOs hp m l = some os → os.length = l.length ∧ ∀ r, nthN l i = some r → ∃ o, lkH hp r = some o ∧ nthO os i = some (renO m 0 o)
  | [], os, i, h => by
    simp only [getOs, Option.some.injEq] at h; subst h
    simp [nthN]
  | x :: l, os, i, h => by
    simp only [getOs] at h
    split at h
    · rename_i o os' h1 h2
      simp only [Option.some.injEq] at h; subst h
      obtain ⟨i1, _⟩ := getOs_nth 0 h2
      refine ⟨by simp [i1], fun r hr => ?_⟩
      cases i with
      | zero =>
        simp only [nthN, Option.some.injEq] at hr; subst hr
        exact ⟨o, h1, rfl⟩
      | succ i =>
        simp only [nthN] at hr
        obtain ⟨_, i2⟩ := getOs_nth i h2
        simpa only [nthO] using i2 r hr
    · simp at h
end Eng

namespace Eng
open Go
def Asc : List Int → Prop
  | [] => True
  | k :: l => (∀ x ∈ l, k < x) ∧ Asc l
theorem mem_insS {n x : Int} : ∀ {l : List Int}, x ∈ insS n l ↔ x = n ∨ x ∈ l
  | [] => by simp [insS]
  | k :: l => by
    simp only [insS]
    split
    · simp
    · simp only [List.mem_cons, mem_insS (l := l)]
      constructor
      · rintro (h | h | h)
        · exact .inr (.inl h)
        · exact .inl h
        · exact .inr (.inr h)
      · rintro (h | h | h)
        · exact .inr (.inl h)
        · exact .inl h
        · exact .inr (.inr h)
theorem asc_insS {n : Int} : ∀ {l : List Int}, Asc l → n ∉ l → Asc (insS n l)
  | [], _, _ => by simp [insS, Asc]
  | k :: l, h, hn => by
    simp only [insS]
    split
    · rename_i hk
      refine ⟨fun x hx => ?_, h⟩
      rcases List.mem_cons.1 hx with rfl | hx
      · exact hk
      · have := h.1 x hx; omega
    · rename_i hk
      have hne : n ≠ k := fun e => hn (by simp [e])
      refine ⟨fun x hx => ?_, asc_insS h.2 fun e => hn (by simp [e])⟩
      rcases mem_insS.1 hx with rfl | hx
      · omega
      · exact h.1 x hx
theorem mem_sortK {x : Int} : ∀ {l : List Int}, x ∈ sortK l ↔ x ∈ l
  | [] => by simp [sortK]
  | k :: l => by simp only [sortK, mem_insS, mem_sortK (l := l), List.mem_cons]
theorem asc_sortK : ∀ {l : List Int}, l.Nodup → Asc (sortK l)
  | [], _ => trivial
  | k :: l, h => by
    have h' := List.nodup_cons.1 h
    exact asc_insS (asc_sortK h'.2) fun e => h'.1 (mem_sortK.1 e)
theorem len_insS {n : Int} : ∀ {l : List Int}, (insS n l).length = l.length + 1
  | [] => rfl
  | k :: l => by
    simp only [insS]
    split
    · simp
    · simp [len_insS (l := l)]
theorem len_sortK : ∀ {l : List Int}, (sortK l).length = l.length
  | [] => rfl
  | k :: l => by simp [sortK, len_insS, len_sortK (l := l)]
theorem asc_ext : ∀ {l m : List Int}, Asc l → Asc m → (∀ x, x ∈ l ↔ x ∈ m) → l = m
  | [], [], _, _, _ => rfl
  | [], k :: m, _, _, h => by have := (h k).2 (by simp); simp at this
  | k :: l, [], _, _, h => by have := (h k).1 (by simp); simp at this
  | k :: l, j :: m, hl, hm, h => by
    have e : k = j := by
      have h1 := (h k).1 (by simp)
      have h2 := (h j).2 (by simp)
      rcases List.mem_cons.1 h1 with h1 | h1
      · exact h1
      · rcases List.mem_cons.1 h2 with h2 | h2
        · exact h2.symm
        · have := hm.1 k h1; have := hl.1 j h2; omega
    subst e
    rw [asc_ext hl.2 hm.2 fun x => ?_]
    have := h x
    simp only [List.mem_cons] at this
    constructor
    · intro hx
      rcases this.1 (.inr hx) with e | e
      · subst e; have := hl.1 x hx; omega
      · exact e
    · intro hx
      rcases this.2 (.inr hx) with e | e
      · subst e; have := hm.1 x hx; omega
      · exact e
theorem insS_split {n : Int} : ∀ {l m : List Int}, (∀ x ∈ l, x ≤ n) → (∀ x ∈ m, n < x) → insS n (l ++ m) = l ++ n :: m
  | [], [], _, _ => rfl
  | [], k :: m, _, h => by
    have := h k (by simp)
    simp [insS, this]
  | k :: l, m, h, h' => by
    have h1 := h k (by simp)
    have h2 : ¬ k > n := by omega
    simp only [List.cons_append, insS, h2, if_false]
    rw [insS_split (fun x hx => h x (by simp [hx])) h']
theorem rowsK_len : ∀ {l : List Int}, (rowsK l).length = l.length
  | [] => rfl
  | _ :: l => by simp [rowsK, rowsK_len (l := l)]
theorem sortK_ext {l m : List Int} (hl : l.Nodup) (hm : m.Nodup) (h : ∀ x, x ∈ l ↔ x ∈ m) : sortK l = sortK m :=
  asc_ext (asc_sortK hl) (asc_sortK hm) fun x => by rw [mem_sortK, mem_sortK]; exact h x
theorem nodup_insK {n : Int} {l : List Int} (h : l.Nodup) : (insK l n).Nodup := by
  by_cases e : n ∈ l
  · rw [insK_in e]; exact h
  · rw [insK_out e]
    refine List.nodup_append.2 ⟨h, by simp, fun a ha b hb => ?_⟩
    simp only [List.mem_singleton] at hb
    subst hb
    intro e'; subst e'; exact e ha
theorem mem_insK {n x : Int} {l : List Int} : x ∈ insK l n ↔ x ∈ l ∨ x = n := by
  by_cases e : n ∈ l
  · rw [insK_in e]
    constructor
    · exact .inl
    · rintro (h | h)
      · exact h
      · subst h; exact e
  · rw [insK_out e]; simp
theorem len_insK {n : Int} {l : List Int} : (insK l n).length ≤ l.length + 1 := by
  by_cases e : n ∈ l
  · rw [insK_in e]; omega
  · rw [insK_out e]; simp
theorem asc_split {l m : List Int} : Asc (l ++ m) → Asc l ∧ Asc m ∧ ∀ x ∈ l, ∀ y ∈ m, x < y := by
  induction l with
  | nil => intro h; exact ⟨trivial, h, by simp⟩
  | cons k l ih =>
    intro h
    obtain ⟨h1, h2⟩ := h
    obtain ⟨i1, i2, i3⟩ := ih h2
    refine ⟨⟨fun x hx => h1 x (by simp [hx]), i1⟩, i2, fun x hx y hy => ?_⟩
    rcases List.mem_cons.1 hx with rfl | hx
    · exact h1 y (by simp [hy])
    · exact i3 x hx y hy
end Eng

