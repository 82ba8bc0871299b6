/- Part 2 of what the proof leans on: texts of my own, joined. It proves no statement by itself. -/
import Derived.Test.YtdeondiigpidnaaGreatM1
import Derived.Laws.IdiomRangeMap
import Derived.Scope
import Derived.IntWalk
import Derived.Below

section
set_option linter.unusedVariables false
set_option linter.unusedSimpArgs false
/- Soundness of operations: append to what is written in place. -/
namespace Go.Proofs.YtdeondiigpidnaaGreat.Ab
open Go
set_option linter.unusedSectionVars false
variable [Fwd]
set_option linter.unusedVariables false
set_option linter.unusedSimpArgs false

/-- an object is known by another number, from another place on -/
def Ctx.reghost (c : Ctx) (id id' b e' : Nat) (o' : Obj) : Ctx :=
  { g := fun j => if j = id' then some (b, e') else c.g j, s := (c.s.del id).upd id' o', N := c.N, w := c.w }

section
variable {c : Ctx} {id id' b e e' sz : Nat} {l l' : List V}

theorem Ext.reghost (hR : R c) (hg : c.g id = some (b, e)) (ho : c.s id = some (.arr sz l)) (hn : c.g id' = none) : Ext c (c.reghost id id' b e' (.arr sz l')) where
  g := fun j x hj => by
    have : j ≠ id' := fun h => by subst h; simp [hn] at hj
    simp [Ctx.reghost, this, hj]
  sz := Nat.le_refl _
  imm := fun i j hi hm => by
    refine ⟨⟨hm.1, fun k ok ek hk1 hk2 => ?_⟩, rfl⟩
    by_cases hk : k = id'
    · subst hk
      have : some (b, e') = some (i, ek) := by simpa [Ctx.reghost] using hk2
      cases this
      obtain ⟨⟨_, h⟩, _⟩ := hm.2 id _ e ho hg
      cases h
    · have hk1' : (c.s.del id) k = some ok := by simpa [Ctx.reghost, Store.upd, hk] using hk1
      exact hm.2 k ok ek (del_le _ _ _ _ hk1') (by simpa [Ctx.reghost, hk] using hk2)
  shape := fun _ _ => rfl
  tip := fun t z ht h => by
    have hne : t ≠ id' := fun h => by subst h; simp [hn] at ht
    exact del_le _ _ _ _ (by simpa [Ctx.reghost, Store.upd, hne] using h)

theorem R.reghost (hR : R c) (hg : c.g id = some (b, e)) (ho : c.s id = some (.arr sz l)) (hn : c.g id' = none)
    (hrep : objRep (c.reghost id id' b e' (.arr sz l')) b e' (.arr sz l')) : R (c.reghost id id' b e' (.arr sz l')) where
  obj := fun j oj hj => by
    by_cases h : j = id'
    · subst h
      obtain rfl : Obj.arr sz l' = oj := by simpa [Ctx.reghost, Store.upd] using hj
      obtain ⟨b2, e2, g2, n2, _⟩ := hR.obj id _ ho
      rw [hg] at g2; cases g2
      exact ⟨b, e', by simp [Ctx.reghost], n2, hrep⟩
    · have hj1 : (c.s.del id) j = some oj := by simpa [Ctx.reghost, Store.upd, h] using hj
      have hj' := del_le _ _ _ _ hj1
      obtain ⟨b', e1, h1, h2, h3⟩ := hR.obj j oj hj'
      refine ⟨b', e1, by simp [Ctx.reghost, h, h1], h2, objRep_ext (Ext.reghost hR hg ho hn) ⟨fun m l hm hl => ?_, fun m l bm em hgm hl => ?_⟩ rfl h3⟩
      · have hm' : m ≠ id' := fun h => by subst h; simp [hn] at hm
        exact ⟨l, del_le _ _ _ _ (by simpa [Ctx.reghost, Store.upd, hm'] using hl)⟩
      · have hm' : m ≠ id' := fun h => by subst h; simp [hn] at hgm
        exact ⟨del_le _ _ _ _ (by simpa [Ctx.reghost, Store.upd, hm'] using hl), rfl⟩
  sep := fun i j o1 o2 b' e1 e2 h1 h2 g1 g2 => by
    have f : ∀ k ok b' e1, (c.reghost id id' b e' (.arr sz l')).s k = some ok → (c.reghost id id' b e' (.arr sz l')).g k = some (b', e1) → k ≠ id' → c.s k = some ok ∧ c.g k = some (b', e1) ∧ k ≠ id :=
      fun k ok b' e1 hk hg hne => by
        have h1 : (c.s.del id) k = some ok := by simpa [Ctx.reghost, Store.upd, hne] using hk
        exact ⟨del_le _ _ _ _ h1, by simpa [Ctx.reghost, hne] using hg, fun h => by simp [Store.del, h] at h1⟩
    by_cases hi : i = id' <;> by_cases hj : j = id'
    · rw [hi, hj]
    · obtain ⟨f1, f2, f3⟩ := f j o2 b' e2 h2 g2 hj
      have : some (b, e') = some (b', e1) := by simpa [Ctx.reghost, hi] using g1
      cases this
      exact absurd (hR.sep j id _ _ b e2 e f1 ho f2 hg) f3
    · obtain ⟨f1, f2, f3⟩ := f i o1 b' e1 h1 g1 hi
      have : some (b, e') = some (b', e2) := by simpa [Ctx.reghost, hj] using g2
      cases this
      exact absurd (hR.sep i id _ _ b e1 e f1 ho f2 hg) f3
    · obtain ⟨f1, f2, _⟩ := f i o1 b' e1 h1 g1 hi
      obtain ⟨f4, f5, _⟩ := f j o2 b' e2 h2 g2 hj
      exact hR.sep i j o1 o2 b' e1 e2 f1 f4 f2 f5
  nb := hR.nb
  gb := fun i b' e1 h => by
    by_cases hi : i = id'
    · have : some (b, e') = some (b', e1) := by simpa [Ctx.reghost, hi] using h
      cases this
      exact hR.gb id b e hg
    · exact hR.gb i b' e1 (by simpa [Ctx.reghost, hi] using h)
  fin := by
    obtain ⟨k, hk⟩ := hR.fin
    refine ⟨max k (id' + 1), fun j hj => ?_⟩
    have : j ≠ id' := by omega
    simp [Ctx.reghost, this]; exact hk j (by omega)

theorem Evo.reghost (hR : R c) (hg : c.g id = some (b, e)) (ho : c.s id = some (.arr sz l)) (hn : c.g id' = none) : Evo c (c.reghost id id' b e' (.arr sz l')) :=
  ⟨Ext.reghost hR hg ho hn, fun _ _ _ => rfl, rfl, .refl _⟩
end

section
variable {P : Program} {H : Hints} {c0 c : Ctx} {env : Env} {a : Act} {o : Oper} {K : Cont} {Q : Exit → Act → World → Prop}

/-- what a slice is in memory, whatever kind it is of -/
structure SlAny (c : Ctx) (l : List V) (sz : Nat) (vs : List Value) (ad : Option Addr) (n cap : Nat) : Prop where
  vals : repL c l vs
  len : n = vs.length
  le : n ≤ cap
  cells : ∀ v ∈ vs, v.cells.size = sz
  load : ∀ w : World, w.heap = c.w.heap → (Builtin.firstCells sz n (.slice ad n cap)).run P w = .ok (flat vs).toArray w

theorem sizes_take {l : List V} {sz a n : Nat} (h : ∀ e ∈ l, e.cells.length = sz) : ∀ e ∈ (l.drop a).take n, e.cells.length = sz :=
  fun e he => h e (List.mem_of_mem_drop (List.mem_of_mem_take he))

theorem flat_drop {vs : List Value} {sz : Nat} (h : ∀ v ∈ vs, v.cells.size = sz) (n : Nat) : flat (vs.drop n) = (flat vs).drop (n * sz) := by
  induction vs generalizing n with
  | nil => simp [flat]
  | cons v r ih =>
    cases n with
    | zero => simp
    | succ n =>
      have hv := h v (by simp)
      have := ih (fun v hv => h v (by simp [hv])) n
      simp only [flat] at this ⊢
      rw [List.drop_succ_cons, this, List.flatMap_cons, Nat.add_mul, Nat.one_mul, Nat.add_comm, ← List.drop_drop]
      congr 1
      rw [List.drop_append_of_le_length (by simp [hv]), List.drop_of_length_le (by simp [hv]), List.nil_append]
theorem flat_take {vs : List Value} {sz : Nat} (h : ∀ v ∈ vs, v.cells.size = sz) (n : Nat) : flat (vs.take n) = (flat vs).take (n * sz) := by
  induction vs generalizing n with
  | nil => simp [flat]
  | cons v r ih =>
    cases n with
    | zero => simp [flat]
    | succ n =>
      have hv := h v (by simp)
      have := ih (fun v hv => h v (by simp [hv])) n
      simp only [flat] at this ⊢
      rw [List.take_succ_cons, List.flatMap_cons, this, List.flatMap_cons, Nat.add_mul, Nat.one_mul, Nat.add_comm, List.take_append]
      rw [List.take_of_length_le (l := v.cells.toList) (by simp [hv])]
      congr 2
      simp [hv]

theorem slAny {x : V} {xv : Value} {l : List V} {sz : Nat} (hR : R c) (hx : rep c x xv) (hs : slc c.s x = some l) (hl : ∀ e ∈ l, e.cells.length = sz) :
    ∃ vs ad n cap, xv = .slice ad n cap ∧ SlAny (P := P) c l sz vs ad n cap := by
  cases x with
  | sl l1 k =>
    simp only [slc] at hs; cases hs
    simp only [rep] at hx
    obtain ⟨vs, ad, n, cap, h1, h2, h3⟩ := hx
    have hz := sizes_of h1 hl
    exact ⟨vs, ad, n, cap, h2, h1, h3.len, h3.le, hz, fun w hw => run_firstCells (c := { c with w := w }) (h3.ext (Ext.same (c := c) (w' := w) hw)) hz⟩
  | vw id sz' off len =>
    simp only [slc] at hs
    cases h0 : Nat.beq len 0 with
    | true =>
      rw [h0] at hs; cases hs
      have hlen : len = 0 := Nat.eq_of_beq_eq_true h0
      subst hlen
      simp only [rep] at hx
      have : ∃ ad cap, xv = .slice ad 0 cap := by
        rcases hx with ⟨_, ad, rfl⟩ | ⟨_, _, _, _, _, rfl, _⟩ <;> exact ⟨_, _, rfl⟩
      obtain ⟨ad, cap, rfl⟩ := this
      refine ⟨[], ad, 0, cap, rfl, by simp [repL], rfl, Nat.zero_le _, by simp, fun w hw => ?_⟩
      cases ad <;> simp [Builtin.firstCells, loadCells, loadCellsFrom, flat]
    | false =>
      have hne : len ≠ 0 := fun h => by subst h; simp at h0
      rw [h0] at hs
      simp only [cond_false] at hs
      split at hs
      · rename_i sz2 l0 hs0
        cases hb : (Nat.beq sz' sz2 && Nat.ble (off + len) l0.length) with
        | false => simp [hb] at hs
        | true =>
          simp only [hb, cond_true] at hs
          cases hs
          rw [Bool.and_eq_true] at hb
          have e1 := Nat.eq_of_beq_eq_true hb.1
          subst e1
          have hle := Nat.le_of_ble_eq_true hb.2
          simp only [rep] at hx
          rcases hx with ⟨h, _⟩ | ⟨b, e, cap, sh, g1, rfl, hz, h4, h5, h6⟩
          · exact absurd h hne
          · obtain ⟨b', e', g2, _, vs0, kc, T, h7, h8, h9, h10⟩ := hR.obj id _ hs0
            rw [g1] at g2; cases g2
            have hsz : sz = sz' := by
              have hlt : off < l0.length := by omega
              have hm : l0[off] ∈ (l0.drop off).take len := by
                refine List.mem_of_getElem? (i := 0) ?_
                rw [List.getElem?_take, if_pos (by omega), List.getElem?_drop]
                simp [hlt]
              obtain ⟨u, hu1, hu2⟩ := repL_get h7 (List.getElem?_eq_getElem hlt)
              have := repL_length (rep_cells hu2)
              rw [hl _ hm] at this
              have h11 := h8 u (List.mem_of_getElem? hu1)
              simp at this
              omega
            subst hsz
            have hL := repL_length h7
            have hvs : ((vs0.drop off).take len).length = len := by simp; omega
            have hcs : ∀ v ∈ (vs0.drop off).take len, v.cells.size = sz := fun v hv => h8 v (List.mem_of_mem_drop (List.mem_of_mem_take hv))
            refine ⟨(vs0.drop off).take len, _, len, cap, rfl, repL_take len (repL_drop off h7), hvs.symm, h4, hcs, fun w hw => ?_⟩
            have hfl := flat_length hcs
            rw [hvs] at hfl
            have := run_loadCells_list (P := P) w ⟨b, e + off * sz, none⟩ (flat ((vs0.drop off).take len)) (fun j v hj => by
              rw [add_mid]
              have h12 := (List.getElem?_eq_some_iff.1 hj).1
              rw [flat_take (fun v hv => h8 v (List.mem_of_mem_drop hv)), flat_drop h8, List.getElem?_take, List.getElem?_drop] at hj
              split at hj
              · have := h10 _ _ hj
                have hw2 : w.heap[b]? = some (.cells kc T (0, 0)) := by rw [hw]; exact h9
                simp only [World.cell?, hw2]
                rw [← Nat.add_assoc] at this
                exact this
              · cases hj)
            rw [hfl] at this
            simpa [Builtin.firstCells] using this
      · cases hs
  | _ => simp [slc] at hs

/-- append, in new memory, to what is written in place -/
theorem next_reallocV {l l' : List V} {vs vs' : List Value} {sz : Nat} {e : TypeId} {rest : Array Value} {newCap : Nat} {w' : World} {s1 : Store} {t : Nat} {d : Option Tmp}
    (hr : RelC H c0 c env a) (hw : w'.heap = c.w.heap) (hos : w'.os = c.w.os) (hout : Onw c.w w') (hs1 : s1.le c.s) (hg : c.g t = none) (hsz : 0 < sz)
    (h1 : repL c l vs) (h2 : repL c l' vs') (hz1 : ∀ v ∈ vs, v.cells.size = sz) (hz2 : ∀ v ∈ vs', v.cells.size = sz)
    (hcap : vs.length + vs'.length ≤ newCap) (hrest : rest.size = (newCap - (vs.length + vs'.length)) * sz)
    (hk : K (put H env d (.v (.vw t sz 0 (l.length + l'.length)))) (s1.upd t (.arr sz (l ++ l')))) :
    Next H c0 K (a.put d (.slice (some ⟨w'.heap.size, 0, none⟩) (vs.length + vs'.length) newCap)) (World.pushed w' (.cells ((flat vs).toArray ++ (flat vs').toArray ++ rest) e)) := by
  let c1 : Ctx := { c with s := s1, w := w' }
  have e1 : Evo c c1 := ⟨(Ext.less hs1).trans (Ext.same (c := { c with s := s1 }) hw), fun b hb _ => by simp [c1, hw], hos, hout⟩
  have r1 : R c1 := R.same (c := { c with s := s1 }) (hr.r.less hs1) hw
  let blk : Go.Obj := .cells ((flat vs).toArray ++ (flat vs').toArray ++ rest) e
  have hsize : ((flat vs).toArray ++ (flat vs').toArray ++ rest).size = newCap * sz := by
    have h3 := flat_length hz1
    have h4 := flat_length hz2
    simp only [Array.size_append, List.size_toArray, h3, h4, hrest]
    rw [← Nat.add_mul, ← Nat.add_mul]
    congr 1; omega
  have hat : (c1.newObj t 0 (.arr sz (l ++ l')) blk).w.heap[c1.w.heap.size]? = some blk := by simpa [Ctx.newObj] using push_at
  have hg1 : c1.g t = none := hg
  have e2 := Evo.newObj r1 (e := 0) (o := .arr sz (l ++ l')) (co := blk) hg1
  have hrep : objRep (c1.newObj t 0 (.arr sz (l ++ l')) blk) c1.w.heap.size 0 (.arr sz (l ++ l')) := by
    refine ⟨vs ++ vs', _, e, repL_ext e2.ext _ _ (repL_ext e1.ext _ _ (repL_append h1 h2)), fun v hv => ?_, hat, fun i v hi => ?_⟩
    · rcases List.mem_append.1 hv with hv | hv
      · exact hz1 v hv
      · exact hz2 v hv
    · have hlt : i < (flat (vs ++ vs')).length := (List.getElem?_eq_some_iff.1 hi).1
      have e3 : ((flat vs).toArray ++ (flat vs').toArray ++ rest) = (flat (vs ++ vs')).toArray ++ rest := by rw [flat_append]; simp
      rw [e3, Nat.zero_add, Array.getElem?_append_left (by simpa using hlt)]
      simpa using hi
  have r2 := R.newObj r1 hg1 hrep
  have hst1 : Step c0 c c1 := Step.of_evo hr.r e1 r1 rfl
  have hr1 := hr.step hst1
  have hst2 : Step c0 c1 _ := Step.of_evo r1 e2 r2 rfl
  refine ⟨_, _, hk, c1.newObj t 0 (.arr sz (l ++ l')) blk, rfl, rfl, (hr1.step hst2).put (x := .v (.vw t sz 0 (l.length + l'.length))) ?_⟩
  simp only [slotOk, rep]
  right
  refine ⟨c1.w.heap.size, 0, newCap, (e, newCap * sz), by simp [Ctx.newObj], by simp [repL_length h1, repL_length h2, c1], hsz, by rw [← repL_length h1, ← repL_length h2]; exact hcap, ?_, by simp⟩
  simp only [World.shape?, hat, blk, hsize]

/-- append, in place, to what is written in place -/
theorem next_inplaceV {l l' l0 : List V} {vs vs' : List Value} {sz cap b e off : Nat} {t t' : Nat} {d : Option Tmp} {kc : Array Value} {U : TypeId}
    (hr : RelC H c0 c env a) (hg : c.g t = some (b, e)) (ht : c.s t = some (.arr sz l0)) (hn : c.g t' = none) (hsz : 0 < sz)
    (hb : c.w.heap[b]? = some (.cells kc U (0, 0))) (hroom : e + off + cap * sz ≤ kc.size) (hle : vs.length + vs'.length ≤ cap)
    (h1 : repL c l vs) (h2 : repL c l' vs') (hz1 : ∀ v ∈ vs, v.cells.size = sz) (hz2 : ∀ v ∈ vs', v.cells.size = sz)
    (hp : ∀ (i : Nat) v, (flat vs)[i]? = some v → kc[e + off + i]? = some v)
    (hk : K (put H env d (.v (.vw t' sz 0 (l.length + l'.length)))) ((c.s.del t).upd t' (.arr sz (l ++ l')))) :
    Next H c0 K (a.put d (.slice (some ⟨b, e + off, none⟩) (vs.length + vs'.length) cap))
      (World.wrote c.w b (.cells (kc.toList.take (e + off + vs.length * sz) ++ flat vs' ++ kc.toList.drop (e + off + vs.length * sz + (flat vs').length)).toArray U (0, 0))) := by
  have hlt := hr.r.gb t b e hg
  have hf1 := flat_length hz1
  have hf2 := flat_length hz2
  have hmul : (vs.length + vs'.length) * sz ≤ cap * sz := Nat.mul_le_mul_right _ hle
  rw [Nat.add_mul] at hmul
  let nc : List Value := kc.toList.take (e + off + vs.length * sz) ++ flat vs' ++ kc.toList.drop (e + off + vs.length * sz + (flat vs').length)
  have hnl : nc.length = kc.size := by simp [nc]; omega
  have hsh : (World.wrote c.w b (.cells nc.toArray U (0, 0))).shape? b = c.w.shape? b := by
    simp only [World.shape?, wrote_at hlt, hb, List.size_toArray, hnl]
  let c1 := c.wrote t b (.arr sz []) (.cells nc.toArray U (0, 0))
  have e1 : Evo c c1 := Evo.wrote hg ht rfl rfl hsh
  have r1 : R c1 := R.wrote hr.r hg ht rfl rfl hsh ⟨[], nc.toArray, U, by simp [repL], by simp, wrote_at hlt, by simp [flat]⟩
  have hg1 : c1.g t = some (b, e) := hg
  have hn1 : c1.g t' = none := hn
  have ht1 : c1.s t = some (.arr sz []) := by simp [c1, Ctx.wrote, Store.upd]
  let c2 := c1.reghost t t' b (e + off) (.arr sz (l ++ l'))
  have e2 : Evo c1 c2 := Evo.reghost r1 hg1 ht1 hn1
  have hat : c2.w.heap[b]? = some (.cells nc.toArray U (0, 0)) := wrote_at hlt
  have hrep : objRep c2 b (e + off) (.arr sz (l ++ l')) := by
    refine ⟨vs ++ vs', nc.toArray, U, repL_ext e2.ext _ _ (repL_ext e1.ext _ _ (repL_append h1 h2)), fun v hv => ?_, hat, fun i v hi => ?_⟩
    · rcases List.mem_append.1 hv with hv | hv
      · exact hz1 v hv
      · exact hz2 v hv
    · have hlt2 : i < (flat (vs ++ vs')).length := (List.getElem?_eq_some_iff.1 hi).1
      rw [flat_append] at hi hlt2
      simp only [List.length_append] at hlt2
      rw [List.getElem?_toArray]
      by_cases hi1 : i < (flat vs).length
      · rw [List.getElem?_append_left hi1] at hi
        have := hp i v hi
        simp only [nc]
        rw [List.append_assoc, List.getElem?_append_left (by simp; omega), List.getElem?_take, if_pos (by omega)]
        simpa using this
      · rw [List.getElem?_append_right (by omega)] at hi
        have htl : (kc.toList.take (e + off + vs.length * sz)).length = e + off + vs.length * sz := by simp; omega
        simp only [nc]
        rw [List.append_assoc, List.getElem?_append_right (by rw [htl]; omega), htl, List.getElem?_append_left (by omega)]
        rw [← hi]; congr 1; omega
  have r2 : R c2 := R.reghost r1 hg1 ht1 hn1 hrep
  have hst1 : Step c0 c c1 := Step.of_evo hr.r e1 r1 rfl
  have hst2 : Step c0 c1 c2 := Step.of_evo r1 e2 r2 rfl
  refine ⟨_, _, hk, c2, ?_, rfl, ((hr.step hst1).step hst2).put (x := .v (.vw t' sz 0 (l.length + l'.length))) ?_⟩
  · funext j
    simp only [c2, c1, Ctx.reghost, Ctx.wrote, Store.upd, Store.del]
    split
    · rfl
    · split
      · rfl
      · rfl
  · simp only [slotOk, rep]
    right
    refine ⟨b, e + off, cap, (U, kc.size), by simp [c2, Ctx.reghost], by simp [repL_length h1, repL_length h2], hsz, by rw [← repL_length h1, ← repL_length h2]; exact hle, ?_, by simpa using hroom⟩
    simp only [World.shape?, hat, List.size_toArray, hnl]

end
end Go.Proofs.YtdeondiigpidnaaGreat.Ab
end

section
set_option linter.unusedVariables false
set_option linter.unusedSimpArgs false
/- Soundness of operations: append and calls, and all of them together. -/
namespace Go.Proofs.YtdeondiigpidnaaGreat.Ab
open Go
set_option linter.unusedSectionVars false
variable [Fwd]
set_option linter.unusedVariables false
set_option linter.unusedSimpArgs false

section
variable {P : Program} {H : Hints} {c0 c : Ctx} {env : Env} {a : Act} {o : Oper} {K : Cont} {Q : Exit → Act → World → Prop}

theorem bytesT_info {T : TypeId} {n : Nat} (h : bytesT P T = some n) : ∃ i, P.info? T = some i ∧ i.bytes = n := by
  unfold bytesT at h
  split at h
  · rename_i i hi; cases h; exact ⟨i, hi, rfl⟩
  · cases h

theorem args_two {cl : Call} {x y : Operand} (h : cl.args.toList = [x, y]) : cl.args.map a.eval = #[a.eval x, a.eval y] := by
  apply Array.ext'; simp [h]

def stTail (ad : Option Addr) (k : Nat) (vs : List Value) : Sem Unit := match ad with | some b => storeCells (b.add k) vs | none => pure ()

theorem sound_append {T T' : TypeId} {x y : Operand} {xv yv : V} {cl : Call} (ho : o.op = .call cl) (hcl : cl.callee = .builtin .append) (hargs : cl.args.toList = [x, y]) (hT : cl.argTypes.toList = [T, T'])
    (hr : RelC H c0 c env a) (hx : opnd env x = some xv) (hy : opnd env y = some yv)
    (h : get (elemT P T) fun e => get (elemT P T') fun _ => get (sizeT P e) fun sz => get (bytesT P e) fun by' => get (zeroT P e) fun z =>
      bif Nat.ble by' 8192 && Nat.beq z.cells.length sz then aapp sz xv yv c.s fun r s' => K (put H env o.dst (.v r)) s' else False) : o.wp P a c.w (Next H c0 K) Q := by
  obtain ⟨e, h1, h⟩ := get_some h
  obtain ⟨e', h1', h⟩ := get_some h
  obtain ⟨sz, h2, h⟩ := get_some h
  obtain ⟨by', h3, h⟩ := get_some h
  obtain ⟨z, h4, h⟩ := get_some h
  cases hb : (Nat.ble by' 8192 && Nat.beq z.cells.length sz) with
  | false => simp [hb] at h
  | true =>
    simp only [hb, cond_true] at h
    simp only [Bool.and_eq_true] at hb
    have hby : by' ≤ 8192 := Nat.le_of_ble_eq_true hb.1
    have hzs : z.cells.length = sz := Nat.eq_of_beq_eq_true hb.2
    obtain ⟨zv, hz, hzr⟩ := zeroT_run h4
    have hzc : zv.cells.size = sz := by have := repL_length (rep_cells (ofValue_rep c hz)); rw [hzs] at this; simpa using this
    obtain ⟨l, l', hsx, hsy, hlen, hl, hl', hcase⟩ := h
    have rx := opnd_rep hr hx
    have ry := opnd_rep hr hy
    obtain ⟨vs', ad', n', cap', hyv, s2⟩ := slAny (P := P) hr.r ry hsy (fun e he => (allFit_all hl' e he).1)
    have r2 := s2.vals
    have hu := elemT_spec h1
    have hu' := elemT_spec h1'
    obtain ⟨i, hi, hib⟩ := bytesT_info h3
    have hti : ∀ w, (typeInfo e).run P w = .ok i w := fun w => by simp [typeInfo, hi]
    have ha := args_two (a := a) hargs
    have hats : cl.argTypes = #[T, T'] := by apply Array.ext'; simp [hT]
    have hz2 := s2.cells
    have hn' : n' = vs'.length := s2.len
    have hL' := repL_length r2
    have hf2 := s2.load c.w rfl
    have hcall : ∀ {v : Value} {w' : World}, (Builtin.append_ #[T, T'] o.type #[a.eval x, a.eval y]).run P c.w = .ok v w' → (execOp a.eval o).run P c.w = .ok (.value v) w' := by
      intro v w' hrun
      simp only [execOp, ho, Sem.run_bind, resolve, hcl, Sem.run_pure, Result.andThen_ok, invoke, builtin, ha, hats, hrun]
    -- by whatever stands for the first list
    have main : ∀ (vs : List Value) (ad : Option Addr) (n cap : Nat), a.eval x = .slice ad n cap → SlAny (P := P) c l sz vs ad n cap →
        (l' = [] → Next H c0 K (a.put o.dst (.slice ad n cap)) c.w) →
        (l' ≠ [] → n + n' ≤ cap → ∃ w', (stTail ad (n * sz) (flat vs')).run P c.w = .ok () w' ∧ Next H c0 K (a.put o.dst (.slice ad (n + n') cap)) w') →
        (l' ≠ [] → ¬ n + n' ≤ cap → ∀ (t newCap : Nat) (rest : Array Value), c.g t = none → c.s t = none → n + n' ≤ newCap → rest.size = (newCap - (n + n')) * sz →
          Next H c0 K (a.put o.dst (.slice (some ⟨c.w.heap.size, 0, none⟩) (n + n') newCap)) (World.pushed { c.w with drawn := c.w.drawn + 1 } (.cells ((flat vs).toArray ++ (flat vs').toArray ++ rest) e))) →
        o.wp P a c.w (Next H c0 K) Q := by
      intro vs ad n cap hxv s1 kNil kRoom kRe
      have r1 := s1.vals
      have hz1 := s1.cells
      have hn : n = vs.length := s1.len
      have hL := repL_length r1
      -- where there is room, and nothing or something is laid
      have room : ∀ {w' : World}, n + n' ≤ cap → (stTail ad (n * sz) (flat vs')).run P c.w = .ok () w' →
          (execOp a.eval o).run P c.w = .ok (.value (.slice ad (n + n') cap)) w' := by
        intro w' hle hst
        refine hcall ?_
        rw [hxv, hyv]
        simp only [Builtin.append_, List.getElem?_toArray, List.getElem?_cons_zero, List.getElem?_cons_succ, Sem.run_bind, run_underlying hu, run_underlying hu', Result.andThen_ok, run_sizeT h2, Builtin.lenOf, Sem.run_pure,
          Bool.false_eq_true, if_false, Bool.not_false, if_true, hle, hf2]
        cases ad with
        | none =>
          have hst' : (Result.ok () c.w : Result Unit) = Result.ok () w' := hst
          cases hst'
          rfl
        | some b => simp only [stTail] at hst; simp only [Sem.run_bind, hst, Result.andThen_ok, Sem.run_pure]
      by_cases hl0 : l' = []
      · have hv0 : vs' = [] := by
          have h9 := r2
          rw [hl0] at h9
          simpa [repL] using h9
        have hn0 : n' = 0 := by rw [hn', hv0]; rfl
        refine wp_value (v := .slice ad (n + n') cap) (w' := c.w) (room (by have := s1.le; omega) ?_) ?_
        · cases ad <;> simp [stTail, hv0, flat, storeCells]
        · rw [hn0]; exact kNil hl0
      · have hvne : vs' ≠ [] := fun h => hl0 (List.length_eq_zero_iff.1 (by rw [← hL', h]; rfl))
        by_cases hnr : n + n' ≤ cap
        · obtain ⟨w', hst, hk⟩ := kRoom hl0 hnr
          exact wp_value (room hnr hst) hk
        · have hlt : cap < n + n' := by omega
          have hcapb : ¬ (Builtin.nextslicecap (n + n') cap * i.bytes > 2 ^ 48) := by
            have h5 := nextslicecap_le hlt
            have h6 : Builtin.nextslicecap (n + n') cap * i.bytes ≤ (2 * (n + n') + 192) * 8192 := Nat.mul_le_mul h5 (by omega)
            have h7 : n + n' ≤ 4294967296 := by omega
            omega
          have hmax : ¬ ((((n + n' : Nat) : Int) > IntKind.i64.max) ∧ (False ∨ i.bytes = 0)) := by
            intro hh
            have : (((n + n' : Nat) : Int) > 9223372036854775807) := hh.1
            omega
          obtain ⟨t, g1, t1⟩ := hr.r.fresh
          let q : Question := .appendCap (n + n') cap e
          let newCap := q.cut (c.w.tape c.w.drawn q)
          have hnc : n + n' ≤ newCap := by show n + n' ≤ (n + n') + _; omega
          let rest := Builtin.zeroCells zv.cells (newCap - (n + n'))
          refine wp_value (v := .slice (some ⟨c.w.heap.size, 0, none⟩) (n + n') newCap) (w' := World.pushed { c.w with drawn := c.w.drawn + 1 } (.cells ((flat vs).toArray ++ (flat vs').toArray ++ rest) e)) (hcall ?_)
            (kRe hl0 hnr t newCap rest g1 t1 hnc (by show (Builtin.zeroCells zv.cells (newCap - (n + n'))).size = _; rw [zeroCells_size, hzc]))
          rw [hxv, hyv]
          have hf1' : (Builtin.firstCells sz n (.slice ad n cap)).run P c.w.drew = .ok (flat vs).toArray c.w.drew := s1.load _ rfl
          have hf2' : (Builtin.firstCells sz n' (.slice ad' n' cap')).run P c.w.drew = .ok (flat vs').toArray c.w.drew := s2.load _ rfl
          have hmax' : ¬ (9223372036854775807 < (n : Int) + (n' : Int) ∧ i.bytes = 0) := by omega
          have hfo : (Question.appendCap (n + n') cap e).forced = false := rfl
          simp only [Builtin.append_, List.getElem?_toArray, List.getElem?_cons_zero, List.getElem?_cons_succ, Sem.run_bind, run_underlying hu, run_underlying hu', Result.andThen_ok, run_sizeT h2, Builtin.lenOf, Sem.run_pure,
            Bool.false_eq_true, if_false, Bool.not_false, if_true, hnr, hti]
          have hmx : IntKind.max .i64 = 9223372036854775807 := rfl
          simp [hti, hf1', hf2', hzr, hcapb, hmax', hfo, newRow, hmx]
          refine ⟨rfl, ?_⟩
          have e4 : ∀ r : Array Value, (flat vs).toArray ++ ((flat vs').toArray ++ r) = (flat vs ++ flat vs').toArray ++ r := fun r => by apply Array.ext'; simp only [Array.toList_append, List.append_assoc]
          rw [e4]
          rfl
    have hlen2 := flat_length hz2
    cases xv with
    | sl l1 k =>
      simp only [slc] at hsx; cases hsx
      simp only at hcase
      obtain ⟨hnil, hcons⟩ := hcase
      simp only [rep] at rx
      obtain ⟨vs, ad, n, cap, r1, hxv, s1⟩ := rx
      have hz1 := sizes_of r1 hl
      have hn : n = vs.length := s1.len
      refine main vs ad n cap hxv ⟨r1, s1.len, s1.le, hz1, fun w hw => run_firstCells (c := { c with w := w }) (s1.ext (Ext.same (c := c) (w' := w) hw)) hz1⟩ (fun hl0 => next_out hr ?_ (hnil hl0)) (fun hl0 hroom => ?_) (fun hl0 hnr t newCap rest g1 t1 hnc hrs => ?_)
      · simp only [rep]; exact ⟨vs, ad, n, cap, r1, rfl, s1⟩
      · obtain ⟨hfull, htip, hany⟩ := hcons hl0
        have hvne : vs' ≠ [] := fun h => hl0 (List.length_eq_zero_iff.1 (by rw [← hL', h]; rfl))
        cases k with
        | any => exact absurd rfl hany
        | full =>
          have hc := s1.full rfl
          have : vs'.length ≠ 0 := fun h => hvne (List.length_eq_zero_iff.1 h)
          omega
        | tip t =>
          obtain ⟨ht, hk⟩ := htip t rfl
          obtain ⟨b, e1, off, cs, g1, rfl, h5, h6, h7, h8⟩ := s1.tip t rfl sz ht
          obtain ⟨b2, e2, g2, _, kc, U, h9, h10⟩ := hr.r.obj t _ ht
          rw [g1] at g2; cases g2
          obtain ⟨t', g3, t3⟩ := hr.r.fresh
          have hcs : cs.2 = kc.size := by
            simp [World.shape?, h9] at h6
            rw [← h6]
          rw [hcs] at h7
          have hmul : (n + n') * sz ≤ cap * sz := Nat.mul_le_mul_right _ hroom
          rw [Nat.add_mul] at hmul
          have hst := run_storeCells_at (P := P) b (off + n * sz) U (flat vs') 0 kc c.w h9 (by rw [hlen2, ← hn']; omega) (flat_ones r2 (fun e he => (allFit_all hl' e he).2))
          rw [setRow_wrote h9] at hst
          simp only [Nat.add_zero] at hst
          refine ⟨_, by simp only [stTail, add_mid]; exact hst, ?_⟩
          have := next_inplace (d := o.dst) (K := K) hr g1 ht g3 (by rw [h5, hn]) h9 h7 (by rw [hn, hn'] at hroom; exact hroom) r1 r2 hz1 hz2 (by
            rcases s1.row with h | ⟨b', off', h, hp⟩
            · exact .inl h
            · cases h; exact .inr hp) (hk t' t3)
          rw [← h5, hn, hn']
          exact this
      · obtain ⟨hfull, htip, hany⟩ := hcons hl0
        have re : ∀ (s' : Store), s'.le c.s → K (put H env o.dst (.v (.sl (l ++ l') (.tip t)))) (s'.upd t (.tip sz)) → Next H c0 K (a.put o.dst (.slice (some ⟨c.w.heap.size, 0, none⟩) (n + n') newCap)) (World.pushed { c.w with drawn := c.w.drawn + 1 } (.cells ((flat vs).toArray ++ (flat vs').toArray ++ rest) e)) := by
          intro s' hs' hk
          rw [hn, hn'] at hnc hrs
          have := next_realloc (d := o.dst) (e := e) (rest := rest) (newCap := newCap) (w' := { c.w with drawn := c.w.drawn + 1 }) hr rfl rfl ⟨rfl, rfl, fun _ => Nat.le_succ _⟩ hs' g1 r1 r2 hz1 hz2 hnc hrs hk
          rw [hn, hn']
          exact this
        cases k with
        | any => exact absurd rfl hany
        | full => exact re c.s (fun _ _ h => h) (hfull rfl t t1)
        | tip t0 =>
          obtain ⟨ht, hk⟩ := htip t0 rfl
          exact re (c.s.del t0) (del_le _ _) (hk t t1)
    | vw id sz' off len =>
      simp only at hcase
      obtain ⟨hszp, hsz, hnil, hcons⟩ := hcase
      obtain ⟨vs, ad, n, cap, hxv, s1⟩ := slAny (P := P) hr.r rx hsx hl
      have hn : n = vs.length := s1.len
      have hz1 := s1.cells
      have r1 := s1.vals
      refine main vs ad n cap hxv s1 (fun hl0 => hxv ▸ next_out hr rx (hnil hl0)) (fun hl0 hroom => ?_) (fun hl0 hnr t newCap rest g1 t1 hnc hrs => ?_)
      · have hvne : vs' ≠ [] := fun h => hl0 (List.length_eq_zero_iff.1 (by rw [← hL', h]; rfl))
        have hv0 : vs'.length ≠ 0 := fun h => hvne (List.length_eq_zero_iff.1 h)
        simp only [rep] at rx
        rw [hxv] at rx
        rcases rx with ⟨_, ad2, h⟩ | ⟨b, e1, cap2, sh, g1, h, h0, h5, h6, h7⟩
        · cases h; omega
        · cases h
          rcases hsz with rfl | ⟨rfl, l0, hs0⟩
          · omega
          · obtain ⟨b2, e2, g2, _, vs0, kc, U, q1, q2, h9, q3⟩ := hr.r.obj id _ hs0
            rw [g1] at g2; cases g2
            obtain ⟨t', g3, t3⟩ := hr.r.fresh
            have hcs : sh.2 = kc.size := by
              simp [World.shape?, h9] at h6
              rw [← h6]
            rw [hcs] at h7
            have hmul : (len + n') * sz' ≤ cap * sz' := Nat.mul_le_mul_right _ hroom
            rw [Nat.add_mul] at hmul
            have hst := run_storeCells_at (P := P) b (e1 + off * sz' + len * sz') U (flat vs') 0 kc c.w h9 (by rw [hlen2, ← hn']; omega) (flat_ones r2 (fun e he => (allFit_all hl' e he).2))
            rw [setRow_wrote h9] at hst
            simp only [Nat.add_zero] at hst
            refine ⟨_, by simp only [stTail, add_mid]; exact hst, ?_⟩
            have hfl1 := flat_length hz1
            have hp : ∀ (i : Nat) v, (flat vs)[i]? = some v → kc[e1 + off * sz' + i]? = some v := by
              -- what lies there was loaded
              intro j v hj
              have hjl := (List.getElem?_eq_some_iff.1 hj).1
              have := s1.load c.w rfl
              simp only [Builtin.firstCells] at this
              have hld := run_loadCells_list (P := P) c.w ⟨b, e1 + off * sz', none⟩ ((kc.toList.drop (e1 + off * sz')).take (len * sz')) (fun j v hj => by
                rw [add_mid]
                rw [List.getElem?_take, List.getElem?_drop] at hj
                split at hj
                · simp only [World.cell?, h9]; simpa using hj
                · cases hj)
              have hkl : ((kc.toList.drop (e1 + off * sz')).take (len * sz')).length = len * sz' := by simp; omega
              rw [hkl] at hld
              rw [hld] at this
              have heq : (kc.toList.drop (e1 + off * sz')).take (len * sz') = flat vs := by
                have := (Result.ok.inj this).1
                simpa using this
              rw [← heq, List.getElem?_take, List.getElem?_drop] at hj
              split at hj
              · simpa using hj
              · cases hj
            have hk := hcons hl0 t' t3
            have hdel : vwDel c.s id sz' = c.s.del id := by
              unfold vwDel
              cases hb0 : Nat.beq sz' 0 with
              | true => have := Nat.eq_of_beq_eq_true hb0; omega
              | false => rfl
            rw [hdel] at hk
            have := next_inplaceV (off := off * sz') (d := o.dst) (K := K) hr g1 hs0 g3 h0 h9 h7 (by rw [hn, hn'] at hroom; exact hroom) r1 r2 hz1 hz2 hp hk
            rw [hn, hn']
            exact this
      · rw [hn, hn'] at hnc hrs
        have hle : (vwDel c.s id sz').le c.s := by
          unfold vwDel
          cases Nat.beq sz' 0
          · exact del_le _ _
          · exact fun _ _ h => h
        have hv0 : vs'.length ≠ 0 := fun h => hl0 (List.length_eq_zero_iff.1 (by rw [← hL']; exact h))
        have := next_reallocV (d := o.dst) (e := e) (rest := rest) (newCap := newCap) (w' := { c.w with drawn := c.w.drawn + 1 }) hr rfl rfl ⟨rfl, rfl, fun _ => Nat.le_succ _⟩ hle g1 hszp r1 r2 hz1 hz2 hnc hrs (hcons hl0 t t1)
        rw [hn, hn']
        exact this
    | _ => exact hcase.elim

end
end Go.Proofs.YtdeondiigpidnaaGreat.Ab
end

section
set_option linter.unusedVariables false
set_option linter.unusedSimpArgs false
/- Soundness of operations: going through a map. -/
namespace Go.Proofs.YtdeondiigpidnaaGreat.Ab
open Go
set_option linter.unusedSectionVars false
variable [Fwd]
set_option linter.unusedVariables false
set_option linter.unusedSimpArgs false

/-- a map that is gone through from now on -/
def Ctx.held (c : Ctx) (m : Nat) (l : List (V × V)) : Ctx := { c with s := c.s.upd m (.mapr l) }

section
variable {c : Ctx} {m : Nat} {l : List (V × V)}

theorem Ext.held (h : c.s m = some (.map l)) : Ext c (c.held m l) where
  g := fun _ _ h => h
  sz := Nat.le_refl _
  imm := fun b i hb hi => ⟨⟨hi.1, fun id o e ho hg => by
    by_cases hm : id = m
    · subst hm
      obtain ⟨⟨sz, h1⟩, _⟩ := hi.2 id _ e h hg
      cases h1
    · exact hi.2 id o e (by simpa [Ctx.held, Store.upd, hm] using ho) hg⟩, rfl⟩
  shape := fun _ _ => rfl
  tip := fun t sz ht hs => by
    by_cases hm : t = m
    · subst hm; simp [Ctx.held, Store.upd] at hs
    · simpa [Ctx.held, Store.upd, hm] using hs

theorem R.held (hR : R c) (h : c.s m = some (.map l)) : R (c.held m l) where
  obj := fun id o ho => by
    by_cases hm : id = m
    · subst hm
      obtain rfl : Obj.mapr l = o := by simpa [Ctx.held, Store.upd] using ho
      obtain ⟨b, e, h1, h2, h3, es, k, h4, h5, h6⟩ := hR.obj id _ h
      exact ⟨b, e, h1, h2, h3, es, k, h4, repM_ext (Ext.held h) _ _ h5, h6⟩
    · have ho' : c.s id = some o := by simpa [Ctx.held, Store.upd, hm] using ho
      obtain ⟨b, e, h1, h2, h3⟩ := hR.obj id o ho'
      refine ⟨b, e, h1, h2, ?_⟩
      have gen : (∀ i cur left, o ≠ .iter i cur left) → objRep (c.held m l) b e o := by
        intro hn
        have hx := Ext.held h
        cases o with
        | cells cs => obtain ⟨a1, vs, T, a2, a3⟩ := h3; exact ⟨a1, vs, T, repL_ext hx _ _ a2, a3⟩
        | arr sz l => obtain ⟨vs, k, T, a1, a2, a3, a4⟩ := h3; exact ⟨vs, k, T, repL_ext hx _ _ a1, a2, a3, a4⟩
        | map l => obtain ⟨a1, es, k, a2, a3, a4⟩ := h3; exact ⟨a1, es, k, a2, repM_ext hx _ _ a3, a4⟩
        | mapr l => obtain ⟨a1, es, k, a2, a3, a4⟩ := h3; exact ⟨a1, es, k, a2, repM_ext hx _ _ a3, a4⟩
        | tip sz => exact h3
        | iter i cur left => exact absurd rfl (hn _ _ _)
      cases o with
      | iter i cur left =>
        obtain ⟨a1, a2, bm, since, seen, a3, a4, a5⟩ := h3
        have him : i ≠ m := fun e => a2 l (e ▸ h)
        refine ⟨a1, fun l' hl' => a2 l' (by simpa [Ctx.held, Store.upd, him] using hl'), bm, since, seen, a3, a4, fun l' hl' => ?_⟩
        obtain ⟨es, a6, a7, a8⟩ := a5 l' (by simpa [Ctx.held, Store.upd, him] using hl')
        exact ⟨es, a6, repM_ext (Ext.held h) _ _ a7, fun x hx => let ⟨y, k1, k2, k3, k4⟩ := a8 x hx; ⟨y, k1, k2, rep_ext (Ext.held h) _ _ k3, rep_ext (Ext.held h) _ _ k4⟩⟩
      | _ => exact gen (fun _ _ _ => by simp)
  sep := fun i j o1 o2 b e1 e2 h1 h2 g1 g2 => by
    have f : ∀ k ok, (c.held m l).s k = some ok → ∃ ok', c.s k = some ok' := fun k ok hk => by
      by_cases hm : k = m
      · subst hm; exact ⟨_, h⟩
      · exact ⟨ok, by simpa [Ctx.held, Store.upd, hm] using hk⟩
    obtain ⟨_, f1⟩ := f i o1 h1
    obtain ⟨_, f2⟩ := f j o2 h2
    exact hR.sep i j _ _ b e1 e2 f1 f2 g1 g2
  nb := hR.nb
  gb := hR.gb
  fin := hR.fin
theorem Evo.held (h : c.s m = some (.map l)) : Evo c (c.held m l) := ⟨Ext.held h, fun _ _ _ => rfl, rfl, .refl _⟩
end

section
variable {P : Program} {H : Hints} {c0 c : Ctx} {env : Env} {a : Act} {o : Oper} {K : Cont} {Q : Exit → Act → World → Prop}

theorem sound_range {T : TypeId} {x : Operand} (ho : o.op = .range T x) (hr : RelC H c0 c env a)
    (h : get (opnd env x) fun x => arange (P.underlying T) x c.s fun v s' => K (put H env o.dst (.v v)) s') : o.wp P a c.w (Next H c0 K) Q := by
  obtain ⟨v, hv, h⟩ := get_some h
  unfold arange at h
  split at h
  · rename_i kt et hu
    obtain ⟨id, l, rfl, hs, h⟩ := h
    have rx := opnd_rep hr hv
    simp only [rep] at rx
    obtain ⟨b, e, hg, hev⟩ := rx
    obtain ⟨b', e', hg', hn', rfl, es, clock, hb, hes, hnd, hborn⟩ := hr.r.obj id _ hs
    rw [hg] at hg'; cases hg'
    have hR1 := hr.r.held hs
    obtain ⟨it, hit, his⟩ := hR1.fresh
    have hitm : it ≠ id := fun e => by subst e; have : c.g it = none := hit; rw [hg] at this; cases this
    have his0 : c.s it = none := by simpa [Ctx.held, Store.upd, hitm] using his
    have hlt : b < c.w.heap.size := hr.r.gb id b 0 hg
    let co : Go.Obj := .mapIter (some b) clock #[] clock
    have hR2 : R ((c.held id l).newObj it 0 (.iter id none l) co) := by
      refine hR1.newObj hit ⟨rfl, fun l' hl' => ?_, b, clock, #[], ?_, ?_, fun l' hl' => ?_⟩
      · have : id ≠ it := fun e => hitm e.symm
        simp [Ctx.newObj, Ctx.held, Store.upd, this] at hl'
      · have : id ≠ it := fun e => hitm e.symm
        simp [Ctx.newObj, Ctx.held, this, hg]
      · exact push_at
      · refine ⟨es, (push_lt hlt).trans hb, ?_, fun x hx => by cases hx⟩
        have : es.toList.filter (fun x => !(#[] : Array Nat).contains x.born) = es.toList := List.filter_eq_self.2 (by simp)
        rw [this]
        exact repM_ext ((Ext.held hs).trans (Ext.newObj hR1 hit)) _ _ hes
    have hevo : Evo c ((c.held id l).newObj it 0 (.iter id none l) co) := Evo.trans hR1 (Evo.held hs) (Evo.newObj hR1 hit) fun _ h => h
    have hst : Step c0 c ((c.held id l).newObj it 0 (.iter id none l) co) := Step.of_evo hr.r hevo hR2 rfl
    refine wp_value (v := .pointer (some ⟨c.w.heap.size, 0, none⟩)) (w' := World.pushed c.w co) ?_ ?_
    · have : (Instr.range T (.map (some b))).run P c.w = .ok (.pointer (some ⟨c.w.heap.size, 0, none⟩)) (World.pushed c.w co) := run_range_map (P := P) c.w T kt et b es clock hu hb
      simp only [execOp, ho, hev, Sem.run_bind, this, Result.andThen_ok, Sem.run_pure]
    · refine ⟨_, _, h it his0, (c.held id l).newObj it 0 (.iter id none l) co, rfl, rfl, (hr.step hst).put (x := .v (.ptr it 0)) ?_⟩
      simp only [slotOk, rep]
      exact ⟨c.w.heap.size, 0, by simp [Ctx.newObj, Ctx.held], rfl⟩
  · exact h.elim

/-- 'next', wherever the iterator lies -/
theorem run_next_at (w : World) (r : Nat) (ty : TypeId) (bm since : Nat) (seen : Array Nat) (es : Array MapEntry) (hr : w.heap[r]? = some (.mapIter (some bm) since seen since))
    (hb : w.heap[bm]? = some (.map es since)) (hold : ∀ x ∈ es.toList, x.born < since) :
    ((leftOf es seen).size = 0 ∧ (Instr.next (.pointer (some ⟨r, 0, none⟩)) false ty).run P w = .ok (.tuple #[.bool false]) w) ∨
    ∃ (j : Nat) (hj : j < (leftOf es seen).size) (w1 : World), (w1.heap = w.heap ∧ w1.os = w.os ∧ Onw w w1) ∧
      (Instr.next (.pointer (some ⟨r, 0, none⟩)) false ty).run P w = .ok (.tuple #[.bool true, (leftOf es seen)[j].key, (leftOf es seen)[j].val]) (World.wrote w1 r (.mapIter (some bm) since (seen.push (leftOf es seen)[j].born) since)) := by
  have hgr : (getObj r).run P w = .ok (.mapIter (some bm) since seen since) w := by simp [getObj, Sem.run, hr]
  have hgb : (getObj bm).run P w = .ok (.map es since) w := by simp [getObj, Sem.run, hb]
  simp only [Instr.next, Sem.run_bind, hgr, hgb, Result.andThen_ok, next_test_false seen es since since hold (Nat.le_refl _), Bool.false_eq_true, if_false]
  unfold leftOf
  have hmem : ∀ x ∈ (Array.filter (fun e => !seen.contains e.born) es).toList, x.born < since := fun x hx => hold x (by simp at hx ⊢; exact hx.1)
  generalize Array.filter (fun e => !seen.contains e.born) es = L at hmem ⊢
  have e1 : L.filter (fun x => decide (x.born < since)) = L := Array.filter_eq_self.2 (fun x hx => by simpa using hmem x (by simpa using hx))
  have e2 : L.filter (fun x => decide (x.born ≥ since)) = #[] := by
    rw [Array.filter_eq_empty_iff]
    intro x hx
    have := hmem x (by simpa using hx)
    simp
    omega
  simp only [e1, e2, Array.append_empty]
  by_cases h0 : L.size = 0
  · left
    have : L = #[] := Array.eq_empty_of_size_eq_zero h0
    subst this
    refine ⟨rfl, ?_⟩
    simp [choose, Sem.run, Question.forced]
  · right
    have hne : L.isEmpty = false := by simp [Array.isEmpty, h0]
    simp only [hne, Bool.false_eq_true, if_false, Array.empty_append, Array.size_map]
    have hch : ∃ (j : Nat) (w1 : World), j < L.size ∧ (w1.heap = w.heap ∧ w1.os = w.os ∧ Onw w w1) ∧ (choose (Question.mapNext L.size)).run P w = .ok j w1 := by
      by_cases hf : L.size ≤ 1
      · exact ⟨0, w, by omega, ⟨rfl, rfl, .refl w⟩, by simp [choose, Sem.run, Question.forced, hf]⟩
      · exact ⟨_, { w with drawn := w.drawn + 1 }, Nat.mod_lt _ (by omega), ⟨rfl, rfl, ⟨rfl, rfl, fun _ => Nat.le_succ _⟩⟩, by
          simp only [choose, Sem.run, Question.forced, decide_eq_true_eq, hf, if_false, Question.cut]
          rfl⟩
    obtain ⟨j, w1, hj, hal, hrun⟩ := hch
    refine ⟨j, hj, w1, hal, ?_⟩
    have hset : (setObj r (.mapIter (some bm) since (seen.push L[j].born) since)).run P w1 = .ok () (World.wrote w1 r (.mapIter (some bm) since (seen.push L[j].born) since)) := by
      have : w1.heap[r]? = some (.mapIter (some bm) since seen since) := by rw [hal.1]; exact hr
      simp only [setObj, Sem.run, this]
      rfl
    simp only [hrun, Array.getElem?_map, Array.getElem?_eq_getElem hj, Option.map_some, Sem.run_bind, hset, Result.andThen_ok, Sem.run_pure]

theorem repM_split {c : Ctx} : ∀ {l : List (V × V)} {es : List MapEntry} {j : Nat} (hj : j < es.length), repM c l es → ∃ a x b, l = a ++ x :: b ∧ repM c a (es.take j) ∧ rep c x.1 es[j].key ∧ rep c x.2 es[j].val ∧ repM c b (es.drop (j + 1))
  | [], es, j, hj, h => by simp only [repM] at h; subst h; simp at hj
  | x :: r, es, 0, hj, h => by
    simp only [repM] at h
    obtain ⟨y, ys, rfl, h1, h2, h3⟩ := h
    exact ⟨[], x, r, rfl, by simp [repM], h1, h2, by simpa using h3⟩
  | x :: r, es, j + 1, hj, h => by
    simp only [repM] at h
    obtain ⟨y, ys, rfl, h1, h2, h3⟩ := h
    obtain ⟨a, z, b, h4, h5, h6, h7, h8⟩ := repM_split (j := j) (by simpa using hj) h3
    exact ⟨x :: a, z, b, by simp [h4], by simp only [List.take_succ_cons, repM]; exact ⟨y, _, rfl, h1, h2, h5⟩, by simpa using h6, by simpa using h7, by simpa using h8⟩
theorem repM_nil_of {c : Ctx} {l : List (V × V)} {es : List MapEntry} (h : repM c l es) (he : es.length = 0) : l = [] := by
  cases l with
  | nil => rfl
  | cons x r => simp only [repM] at h; obtain ⟨y, ys, rfl, _⟩ := h; simp at he

theorem filter_push {es : List MapEntry} (hn : (es.map (·.born)).Nodup) {seen : Array Nat} {j : Nat} (hj : j < (es.filter fun x => !seen.contains x.born).length) :
    (es.filter fun x => !(seen.push (es.filter fun x => !seen.contains x.born)[j].born).contains x.born) = (es.filter fun x => !seen.contains x.born).take j ++ (es.filter fun x => !seen.contains x.born).drop (j + 1) := by
  have hsplit : (es.filter fun x => !(seen.push (es.filter fun x => !seen.contains x.born)[j].born).contains x.born) = (es.filter fun x => !seen.contains x.born).filter fun x => x.born != (es.filter fun x => !seen.contains x.born)[j].born := by
    rw [List.filter_filter]
    apply List.filter_congr
    intro x _
    rw [Bool.eq_iff_iff]
    simp only [Bool.not_eq_true', Bool.and_eq_true, bne_iff_ne, ne_eq, ← Bool.not_eq_true, Array.contains_iff_mem, Array.mem_push, not_or, Bool.not_eq_false]
    exact and_comm
  rw [hsplit]
  have hn2 : ((es.filter fun x => !seen.contains x.born).map (·.born)).Nodup := List.Nodup.sublist ((List.filter_sublist).map _) hn
  generalize es.filter (fun x => !seen.contains x.born) = L at hj hn2
  clear hsplit hn
  induction L generalizing j with
  | nil => simp at hj
  | cons y r ih =>
    simp only [List.map_cons, List.nodup_cons] at hn2
    have hne : ∀ z ∈ r, z.born ≠ y.born := fun z hz e => hn2.1 (e ▸ List.mem_map.2 ⟨z, hz, rfl⟩)
    cases j with
    | zero =>
      simp only [List.getElem_cons_zero, List.take_zero, List.nil_append, List.drop_succ_cons, List.drop_zero]
      rw [List.filter_cons_of_neg (by simp)]
      exact List.filter_eq_self.2 fun z hz => by simpa using hne z hz
    | succ j =>
      have hj' : j < r.length := by simpa using hj
      simp only [List.getElem_cons_succ, List.take_succ_cons, List.drop_succ_cons, List.cons_append]
      rw [List.filter_cons_of_pos (by simpa using fun e => hne r[j] (List.getElem_mem _) e.symm)]
      rw [ih hj' hn2.2]

theorem sound_next {x : Operand} (ho : o.op = .next x false) (hr : RelC H c0 c env a)
    (h : get (opnd env x) fun x => anext x c.s fun v s' => K (put H env o.dst (.v v)) s') : o.wp P a c.w (Next H c0 K) Q := by
  obtain ⟨v, hv, i, m, cur, left, l, rfl, hi, hm, h1, h2⟩ := get_some h
  have rx := opnd_rep hr hv
  simp only [rep] at rx
  obtain ⟨b, e, hg, hev⟩ := rx
  obtain ⟨b', e', hg', hn', rfl, hnm, bm, since, seen, hgm, hb, hl⟩ := hr.r.obj i _ hi
  rw [hg] at hg'; cases hg'
  obtain ⟨es, hbm, hleft, hcur⟩ := hl l hm
  obtain ⟨bm', em', hgm', hnm', _, es', clock', hbm', hes', hnd, hborn⟩ := hr.r.obj m _ hm
  rw [hgm] at hgm'; cases hgm'
  rw [hbm] at hbm'; cases hbm'
  have hlo : (leftOf es seen).toList = es.toList.filter fun x => !seen.contains x.born := by simp [leftOf]
  rcases run_next_at (P := P) c.w b o.type bm since seen es hb hbm hborn with ⟨h0, hrun⟩ | ⟨j, hj, w1, hal, hrun⟩
  · have : left = [] := repM_nil_of hleft (by rw [← hlo]; simpa using h0)
    refine wp_value (v := .tuple #[.bool false]) (w' := c.w) ?_ (next_out hr ?_ (h1 this))
    · simp only [Nat.add_zero] at hev
      simp only [execOp, ho, hev, hrun, Sem.run_bind, Result.andThen_ok, Sem.run_pure]
    · simp only [rep]; exact ⟨_, by simp only [repL, rep]; exact ⟨_, _, rfl, rfl, rfl⟩, rfl⟩
  · have hj' : j < (es.toList.filter fun x => !seen.contains x.born).length := by rw [← hlo]; simpa using hj
    have hlj : (leftOf es seen)[j] = (es.toList.filter fun x => !seen.contains x.born)[j] := by
      have : (leftOf es seen)[j] = (leftOf es seen).toList[j]'(by simpa using hj) := by simp
      rw [this]; congr 1
    rw [hlj] at hrun
    obtain ⟨A, y, B, rfl, hA, hy1, hy2, hB⟩ := repM_split hj' hleft
    let ent := (es.toList.filter fun x => !seen.contains x.born)[j]
    let co : Go.Obj := .mapIter (some bm) since (seen.push ent.born) since
    have hst1 : Step c0 c { c with w := w1 } := Step.of_evo hr.r (Evo.same hal.1 hal.2.1 hal.2.2) (hr.r.same hal.1) rfl
    have hr1 := hr.step hst1
    have hb1 : w1.heap[b]? = some (.mapIter (some bm) since seen since) := by rw [hal.1]; exact hb
    have hlt : b < w1.heap.size := by rw [hal.1]; exact hr.r.gb i b 0 hg
    have hsh : (World.wrote w1 b co).shape? b = ({ c with w := w1 } : Ctx).w.shape? b := by
      show (World.wrote w1 b co).shape? b = w1.shape? b
      simp [World.shape?, wrote_at hlt, hb1, co]
    have hbb : bm ≠ b := fun e => by rw [e] at hbm; rw [hbm] at hb; cases hb
    have hg1 : ({ c with w := w1 } : Ctx).g i = some (b, 0) := hg
    have hi1 : ({ c with w := w1 } : Ctx).s i = some (.iter m cur (A ++ y :: B)) := hi
    have hmi : m ≠ i := fun e => by subst e; rw [hm] at hi; cases hi
    have hx := Ext.wrote (o' := .iter m (some y) (A ++ B)) hg1 hi1 rfl rfl hsh
    have hx' : Ext c (({ c with w := w1 } : Ctx).wrote i b (.iter m (some y) (A ++ B)) co) := (hst1.ext).trans hx
    have hR2 : R (({ c with w := w1 } : Ctx).wrote i b (.iter m (some y) (A ++ B)) co) := by
      refine R.wrote hr1.r hg1 hi1 rfl rfl hsh ⟨rfl, fun l' hl' => ?_, bm, since, seen.push ent.born, hgm, wrote_at hlt, fun l' hl' => ?_⟩
      · exact hnm l' (by simpa [Ctx.wrote, Store.upd, hmi] using hl')
      · refine ⟨es, ?_, ?_, fun z hz => ?_⟩
        · show (World.wrote w1 b co).heap[bm]? = _
          rw [wrote_ne hbb, hal.1]; exact hbm
        · rw [filter_push hnd hj']
          exact repM_append (repM_ext hx' _ _ hA) (repM_ext hx' _ _ hB)
        · cases hz
          refine ⟨ent, ?_, by simp, rep_ext hx' _ _ hy1, rep_ext hx' _ _ hy2⟩
          exact (List.mem_filter.1 (List.getElem_mem hj')).1
    have hst2 : Step c0 { c with w := w1 } (({ c with w := w1 } : Ctx).wrote i b (.iter m (some y) (A ++ B)) co) :=
      Step.of_evo hr1.r (Evo.wrote hg1 hi1 rfl rfl hsh) hR2 rfl
    refine wp_value (v := .tuple #[.bool true, ent.key, ent.val]) (w' := World.wrote w1 b co) ?_ ?_
    · simp only [Nat.add_zero] at hev
      simp only [execOp, ho, hev, hrun, Sem.run_bind, Result.andThen_ok, Sem.run_pure]
      rfl
    · refine ⟨_, _, h2 A y B rfl, _, rfl, rfl, (hr1.step hst2).put (x := .v (.tup [.bool true, y.1, y.2])) ?_⟩
      simp only [slotOk, rep]
      exact ⟨_, by simp only [repL, rep]; exact ⟨_, _, rfl, rfl, _, _, rfl, rep_ext hx' _ _ hy1, _, _, rfl, rep_ext hx' _ _ hy2, rfl⟩, rfl⟩

theorem sound_entry {x : Operand} (ho : o.op = .entry x) (hr : RelC H c0 c env a)
    (h : get (opnd env x) fun x => aentry x c.s fun v => K (put H env o.dst (.v v)) c.s) : o.wp P a c.w (Next H c0 K) Q := by
  obtain ⟨v, hv, i, m, y, left, l, rfl, hi, hm, h1⟩ := get_some h
  have rx := opnd_rep hr hv
  simp only [rep] at rx
  obtain ⟨b, e, hg, hev⟩ := rx
  obtain ⟨b', e', hg', hn', rfl, hnm, bm, since, seen, hgm, hb, hl⟩ := hr.r.obj i _ hi
  rw [hg] at hg'; cases hg'
  obtain ⟨es, hbm, hleft, hcur⟩ := hl l hm
  obtain ⟨bm', em', hgm', hnm', _, es', clock', hbm', hes', hnd, hborn⟩ := hr.r.obj m _ hm
  rw [hgm] at hgm'; cases hgm'
  rw [hbm] at hbm'; cases hbm'
  obtain ⟨en, he1, he2, he3, he4⟩ := hcur y rfl
  have hgr : (getObj b).run P c.w = .ok (.mapIter (some bm) since seen since) c.w := by simp [getObj, Sem.run, hb]
  have hgb : (getObj bm).run P c.w = .ok (.map es since) c.w := by simp [getObj, Sem.run, hbm]
  have hf : es.find? (·.born == en.born) = some en := by rw [← Array.find?_toList]; exact find_born en es.toList hnd he1
  refine wp_value (v := .tuple #[en.key, en.val]) (w' := c.w) ?_ (next_out hr ?_ h1)
  · simp only [Nat.add_zero] at hev
    simp only [execOp, ho, hev, Instr.entry, Sem.run_bind, hgr, hgb, Result.andThen_ok, he2, bne_self_eq_false, Bool.false_eq_true, if_false, hf, Sem.run_pure]
  · simp only [rep]; exact ⟨_, by simp only [repL]; exact ⟨_, _, rfl, he3, _, _, rfl, he4, rfl⟩, rfl⟩
end
end Go.Proofs.YtdeondiigpidnaaGreat.Ab
end

section
set_option linter.unusedVariables false
set_option linter.unusedSimpArgs false
/- Soundness of operations: calls, and all of them together. -/
namespace Go.Proofs.YtdeondiigpidnaaGreat.Ab
open Go
set_option linter.unusedSectionVars false
variable [Fwd]
set_option linter.unusedVariables false
set_option linter.unusedSimpArgs false

section
variable {P : Program} {H : Hints} {c0 c : Ctx} {env : Env} {a : Act} {o : Oper} {K : Cont} {Q : Exit → Act → World → Prop}

theorem run_callFunc {f : FuncId} {args : Array Value} {w : World} (h : callable P f = true) : (callFunc f args).run P w = .ok (.enter f args) w := by
  unfold callable at h
  split at h
  · rename_i fn hf
    simp only [Bool.and_eq_true, bne_iff_ne, ne_eq] at h
    have h2 : fn.body ≠ none := by intro hb; simp [hb] at h
    simp [callFunc, hf, h.1, h2]
  · cases h

/-- a call by its contract -/
theorem sound_enter {g : FuncId} {args : List V} {cargs : List Value} (hr : RelC H c0 c env a) (hrun : (execOp a.eval o).run P c.w = .ok (.enter g cargs.toArray) c.w)
    (ha : repL c args cargs) (h : AC P g args c.s fun r s' => K (put H env o.dst (.v r)) s') : o.wp P a c.w (Next H c0 K) Q := by
  unfold Oper.wp
  rw [hrun]
  refine (h.2 c rfl hr.r cargs ha).mono ?_
  rintro e w' ⟨cr, r, c', rfl, rfl, hN, hevo, hR, hrep, hK⟩
  have hst : Step c0 c c' := Step.of_evo hr.r hevo hR hN
  exact ⟨_, _, hK, c', rfl, rfl, (hr.step hst).put (x := .v r) hrep⟩

theorem sound_call {cl : Call} {f : FuncId} {args : List V} (ho : o.op = .call cl) (hcl : cl.callee = .value (.func f)) (hr : RelC H c0 c env a) (hargs : opnds env cl.args.toList = some args)
    (h : AC P f args c.s fun r s' => K (put H env o.dst (.v r)) s') : o.wp P a c.w (Next H c0 K) Q := by
  refine sound_enter hr ?_ (opnds_rep hr hargs) h
  have e : (#[] ++ cl.args.map a.eval ++ #[] : Array Value) = (cl.args.toList.map a.eval).toArray := by
    apply Array.ext'; simp
  simp only [execOp, ho, Sem.run_bind, resolve, hcl, Act.eval, Deferred.ofValue, Sem.run_pure, Result.andThen_ok, invoke]
  have e2 : (#[] ++ cl.args.map (fun x => a.eval x) ++ #[] : Array Value) = (cl.args.toList.map a.eval).toArray := e
  rw [← e2]
  exact run_callFunc h.1

theorem sound_callV {cl : Call} {x : Operand} {f : V} {args : List V} (ho : o.op = .call cl) (hcl : cl.callee = .value x) (hr : RelC H c0 c env a) (hargs : opnds env cl.args.toList = some args)
    (hx : opnd env x = some f) (h : acall P f args c.s fun r s' => K (put H env o.dst (.v r)) s') : o.wp P a c.w (Next H c0 K) Q := by
  obtain ⟨g, xs, ys, rfl, h⟩ := h
  have rf := opnd_rep hr hx
  simp only [rep] at rf
  obtain ⟨u, v, h1, h2, h3⟩ := rf
  refine sound_enter hr ?_ (repL_append (repL_append h1 (opnds_rep hr hargs)) h2) h
  simp only [execOp, ho, Sem.run_bind, resolve, hcl, h3, Deferred.ofValue, Sem.run_pure, Result.andThen_ok, invoke]
  have e2 : (u.toArray ++ cl.args.map (fun x => a.eval x) ++ v.toArray : Array Value) = (u ++ cl.args.toList.map a.eval ++ v).toArray := by
    apply Array.ext'; simp
  rw [← e2]
  exact run_callFunc h.1

theorem sound_max {cl : Call} {x y : Operand} {xv yv : V} (ho : o.op = .call cl) (hcl : cl.callee = .builtin .max) (hargs : cl.args.toList = [x, y]) (hr : RelC H c0 c env a) (hx : opnd env x = some xv) (hy : opnd env y = some yv)
    (h : ∃ k a b, xv = .int k a ∧ yv = .int k b ∧ K (put H env o.dst (.v (.int k (if b > a then b else a)))) c.s) : o.wp P a c.w (Next H c0 K) Q := by
  obtain ⟨k, m, n, rfl, rfl, h⟩ := h
  have rx := opnd_rep hr hx
  have ry := opnd_rep hr hy
  simp only [rep] at rx ry
  refine wp_value (v := .int k (if n > m then n else m)) (w' := c.w) ?_ (next_out hr rep_int h)
  simp [execOp, ho, resolve, hcl, invoke, builtin, args_two (a := a) hargs, rx, ry, Builtin.max_, Builtin.max2]

theorem sound_min {cl : Call} {x y : Operand} {xv yv : V} (ho : o.op = .call cl) (hcl : cl.callee = .builtin .min) (hargs : cl.args.toList = [x, y]) (hr : RelC H c0 c env a) (hx : opnd env x = some xv) (hy : opnd env y = some yv)
    (h : ∃ k a b, xv = .int k a ∧ yv = .int k b ∧ K (put H env o.dst (.v (.int k (if b < a then b else a)))) c.s) : o.wp P a c.w (Next H c0 K) Q := by
  obtain ⟨k, m, n, rfl, rfl, h⟩ := h
  have rx := opnd_rep hr hx
  have ry := opnd_rep hr hy
  simp only [rep] at rx ry
  refine wp_value (v := .int k (if n < m then n else m)) (w' := c.w) ?_ (next_out hr rep_int h)
  simp [execOp, ho, resolve, hcl, invoke, builtin, args_two (a := a) hargs, rx, ry, Builtin.min_, Builtin.min2]

theorem sound_len {cl : Call} {x : Operand} {xv : V} {T : TypeId} {Ts : List TypeId} (ho : o.op = .call cl) (hcl : cl.callee = .builtin .len) (hargs : cl.args.toList = [x]) (hT : cl.argTypes.toList = T :: Ts)
    (hr : RelC H c0 c env a) (hx : opnd env x = some xv) (h : alen (P.underlying T) xv c.s fun v => K (put H env o.dst (.v v)) c.s) : o.wp P a c.w (Next H c0 K) Q := by
  have hT0 : cl.argTypes[0]? = some T := by
    have : cl.argTypes = (T :: Ts).toArray := by rw [← hT]
    simp [this]
  have ha : cl.args.map a.eval = #[a.eval x] := by apply Array.ext'; simp [hargs]
  obtain ⟨n, h1, h2⟩ := run_len (P := P) (ty := o.type) hr.r (opnd_rep hr hx) h hT0
  refine wp_value (v := .int .i64 n) (w' := c.w) ?_ (next_out hr rep_int h2)
  simp [execOp, ho, resolve, hcl, invoke, builtin, ha, h1]

theorem aop_sound {qc : Bool} (hr : RelC H c0 c env a) (h : aop P H qc o env c.s K) : o.wp P a c.w (Next H c0 K) Q := by
  unfold aop aopR at h
  cases hop : o.op with
  | move x => rw [hop] at h; exact sound_move (.inl hop) hr h
  | assign x => rw [hop] at h; exact sound_move (.inr hop) hr h
  | pick x y z => rw [hop] at h; exact sound_pick hop hr h
  | alloc T => rw [hop] at h; exact sound_alloc hop hr h
  | box T x => rw [hop] at h; exact sound_box hop hr h
  | build T ps => rw [hop] at h; exact sound_build hop hr h
  | buildSlice T n ps => rw [hop] at h; exact sound_buildSlice hop hr h
  | load T x => rw [hop] at h; exact sound_load hop hr h
  | store T x y => rw [hop] at h; exact sound_store hop hr h
  | nilCheck x => rw [hop] at h; exact sound_nilCheck hop hr h
  | binOp op T x y T' => rw [hop] at h; exact sound_binOp hop hr h
  | unOp op T x => rw [hop] at h; exact sound_unOp hop hr h
  | convert S T x => rw [hop] at h; exact sound_convert hop hr h
  | makeInterface T x => rw [hop] at h; exact sound_makeInterface hop hr h
  | makeFunc f x y => rw [hop] at h; exact sound_makeFunc hop hr h
  | range T x => rw [hop] at h; exact sound_range hop hr h
  | next x str =>
    rw [hop] at h
    cases str with
    | true => obtain ⟨_, _, h⟩ := get_some h; exact h.elim
    | false => exact sound_next hop hr h
  | entry x => rw [hop] at h; exact sound_entry hop hr h
  | makeMap T r =>
    rw [hop] at h
    cases r with
    | none => exact sound_makeMap hop hr h
    | some r => exact h.elim
  | slice T x lo hi mx => rw [hop] at h; exact sound_slice hop hr h
  | fieldAddr T x f => rw [hop] at h; exact sound_fieldAddr hop hr h
  | field T x f => rw [hop] at h; exact sound_field hop hr h
  | indexAddr T x i => rw [hop] at h; exact sound_indexAddr hop hr h
  | index T x i => rw [hop] at h; exact sound_index hop hr h
  | lookup T x y ok => rw [hop] at h; exact sound_lookup hop hr h
  | mapUpdate T x y z => rw [hop] at h; exact sound_mapUpdate (.inl hop) hr h
  | insert T x y z => rw [hop] at h; exact sound_mapUpdate (.inr hop) hr h
  | extract x i => rw [hop] at h; exact sound_extract hop hr h
  | call cl =>
    rw [hop] at h
    have one : ∀ {v : V}, opnds env cl.args.toList = some [v] → ∃ x, cl.args.toList = [x] ∧ opnd env x = some v := by
      intro v hargs
      cases hc : cl.args.toList with
      | nil => rw [hc] at hargs; simp [opnds] at hargs
      | cons x r =>
        rw [hc] at hargs
        unfold opnds at hargs
        split at hargs
        · rename_i u l h1 h2
          cases hargs
          cases r with
          | nil => exact ⟨x, rfl, h1⟩
          | cons y r => unfold opnds at h2; split at h2 <;> cases h2
        · cases hargs
    have two : ∀ {v u : V}, opnds env cl.args.toList = some [v, u] → ∃ x y, cl.args.toList = [x, y] ∧ opnd env x = some v ∧ opnd env y = some u := by
      intro v u hargs
      cases hc : cl.args.toList with
      | nil => rw [hc] at hargs; simp [opnds] at hargs
      | cons x r =>
        rw [hc] at hargs
        unfold opnds at hargs
        split at hargs
        · rename_i u' l h1 h2
          cases hargs
          cases r with
          | nil => simp [opnds] at h2
          | cons y r =>
            unfold opnds at h2
            split at h2
            · rename_i u2 l2 h3 h4
              cases h2
              cases r with
              | nil => exact ⟨x, y, rfl, h1, h3⟩
              | cons z r => unfold opnds at h4; split at h4 <;> cases h4
            · cases h2
        · cases hargs
    cases hcl : cl.callee with
    | value f =>
      simp only [hcl] at h
      cases f with
      | func f =>
        obtain ⟨args, hargs, h⟩ := get_some h
        cases hq : (qc && H.quiet f) with
        | true =>
          simp only [hq, cond_true] at h
          exact sound_call hop hcl hr hargs (h.mono fun _ _ h => h.2)
        | false =>
          simp only [hq, cond_false] at h
          exact sound_call hop hcl hr hargs h
      | tmp t => obtain ⟨args, hargs, h⟩ := get_some h; obtain ⟨f, hf, h⟩ := get_some h; exact sound_callV hop hcl hr hargs hf h
      | const v => obtain ⟨args, hargs, h⟩ := get_some h; obtain ⟨f, hf, h⟩ := get_some h; exact sound_callV hop hcl hr hargs hf h
      | global g => obtain ⟨args, hargs, h⟩ := get_some h; obtain ⟨f, hf, h⟩ := get_some h; exact sound_callV hop hcl hr hargs hf h
    | invoke r m => simp only [hcl] at h
    | builtin b =>
      simp only [hcl] at h
      cases b with
      | append =>
        obtain ⟨args, hargs, h⟩ := get_some h
        split at h
        · rename_i v u T T' _ hT
          obtain ⟨x, y, h1, h2, h3⟩ := two hargs
          exact sound_append hop hcl h1 hT hr h2 h3 h
        · exact h.elim
      | delete =>
        obtain ⟨args, hargs, h⟩ := get_some h
        split at h
        · rename_i m k T Ts _ hT
          obtain ⟨x, y, h1, h2, h3⟩ := two hargs
          exact sound_delete hop hcl h1 hT hr h2 h3 h
        · exact h.elim
      | len =>
        simp only [outR, hcl] at h
        obtain ⟨args, hargs, h⟩ := get_some h
        split at h
        all_goals first
          | contradiction
          | exact h.elim
          | (obtain ⟨x, h1, h2⟩ := one hargs; exact sound_len hop hcl h1 (by assumption) hr h2 h)
      | max =>
        simp only [outR, hcl] at h
        obtain ⟨args, hargs, h⟩ := get_some h
        split at h
        all_goals first
          | contradiction
          | exact h.elim
          | (obtain ⟨x, y, h1, h2, h3⟩ := two hargs; exact sound_max hop hcl h1 hr h2 h3 h)
      | min =>
        simp only [outR, hcl] at h
        obtain ⟨args, hargs, h⟩ := get_some h
        split at h
        all_goals first
          | contradiction
          | exact h.elim
          | (obtain ⟨x, y, h1, h2, h3⟩ := two hargs; exact sound_min hop hcl h1 hr h2 h3 h)
      | _ =>
        simp only [outR, hcl] at h
        obtain ⟨args, hargs, h⟩ := get_some h
        exact h.elim
  | _ => rw [hop] at h; exact h.elim

end
end Go.Proofs.YtdeondiigpidnaaGreat.Ab
end

section
set_option linter.unusedVariables false
set_option linter.unusedSimpArgs false
/- Soundness: guarded operations, and regions in the order of the text. -/
namespace Go.Proofs.YtdeondiigpidnaaGreat.Ab
open Go
set_option linter.unusedSectionVars false
variable [Fwd]
set_option linter.unusedVariables false
set_option linter.unusedSimpArgs false

section
variable {P : Program} {H : Hints} {c0 c : Ctx} {env : Env} {a : Act} {K : Cont} {Q : Exit → Act → World → Prop}

theorem set_id {env : Env} {d : Nat} {x : Slot} (h : env d = x) : set env d x = env := by
  funext i
  by_cases hi : i = d
  · subst hi; rw [set_same, h]
  · rw [set_ne _ _ hi]

/-- a guarded operation, without the guard's slot being told anew -/
theorem aopG_cases {qc : Bool} {ops : List Oper} {o : Oper} {s : Store} (h : aopG P H qc ops o env s K) :
    (o.guard = none ∧ aop P H qc o env s K) ∨ ∃ j want d, o.guard = some (j, want) ∧ dstAt ops j = some d ∧
      ((env d = .undef ∧ K (put H env o.dst .undef) s) ∨ (env d = .v (.bool want) ∧ aop P H qc o env s K) ∨ (env d = .v (.bool !want) ∧ K (put H env o.dst .undef) s)) := by
  unfold aopG at h
  split at h
  · rename_i hg; exact .inl ⟨hg, h⟩
  · rename_i j want hg
    split at h
    · exact h.elim
    · rename_i d hd
      refine .inr ⟨j, want, d, hg, hd, ?_⟩
      split at h
      · rename_i he; exact .inl ⟨he, h⟩
      · rename_i g he
        obtain ⟨b, rfl, h1, h2⟩ := gcond_bool h
        right
        by_cases hb : b = want
        · subst hb
          have := h1 rfl
          rw [set_id he] at this
          exact .inl ⟨he, this⟩
        · have hb' : b = !want := by cases b <;> cases want <;> simp_all
          subst hb'
          have := h2 rfl
          rw [set_id he] at this
          exact .inr ⟨he, this⟩
      · exact h.elim

theorem aopG_of {qc : Bool} {ops : List Oper} {o : Oper} {s : Store}
    (h : (o.guard = none ∧ aop P H qc o env s K) ∨ ∃ j want d, o.guard = some (j, want) ∧ dstAt ops j = some d ∧
      ((env d = .undef ∧ K (put H env o.dst .undef) s) ∨ (env d = .v (.bool want) ∧ aop P H qc o env s K) ∨ (env d = .v (.bool !want) ∧ K (put H env o.dst .undef) s))) :
    aopG P H qc ops o env s K := by
  unfold aopG
  rcases h with ⟨hg, h⟩ | ⟨j, want, d, hg, hd, ⟨he, h⟩ | ⟨he, h⟩ | ⟨he, h⟩⟩
  · rw [hg]; exact h
  · rw [hg]; simp only [hd, he]; exact h
  · rw [hg]; simp only [hd, he, set_id he]
    show gcond want (.bool want) _ _
    unfold gcond
    cases want <;> exact h
  · rw [hg]; simp only [hd, he, set_id he]
    show gcond want (.bool !want) _ _
    unfold gcond
    cases want <;> exact h

theorem aopG_sound {qc : Bool} {ops : Array Oper} {i : Nat} {o : Oper} (hr : RelC H c0 c env a) (ho : ops[i]? = some o) (h : aopG P H qc ops.toList o env c.s K) :
    wpOp P ops Q i (Next H c0 K) a c.w := by
  have skip : ∀ {x : Slot}, K (put H env o.dst .undef) c.s → Next H c0 K (a.put o.dst undef) c.w := fun hk => ⟨_, _, hk, c, rfl, rfl, hr.put (x := .undef) rfl⟩
  have slotD : ∀ {d x}, env d = .v x → rep c x (a.tmps.getD d undef) := fun {d x} he => by
    obtain ⟨blk, hb⟩ := hr.envs
    have := hb.slot d
    rw [he] at this; exact this
  have slotU : ∀ {d}, env d = .undef → a.tmps.getD d undef = undef := fun {d} he => by
    obtain ⟨blk, hb⟩ := hr.envs
    have := hb.slot d
    rw [he] at this; exact this
  unfold wpOp
  rw [ho]
  simp only
  rcases aopG_cases h with ⟨hg, h⟩ | ⟨j, want, d, hg, hd, h⟩
  · have hw : Region.wanted o (yielded ops a.tmps) = true := by simp [Region.wanted, hg]
    rw [if_pos hw]
    exact .inl (aop_sound hr h)
  · have hdst : (ops[j]?).bind (·.dst) = some d := by
      unfold dstAt at hd
      split at hd
      · rename_i o' ho'
        have : ops[j]? = some o' := by simpa using ho'
        simp [this, hd]
      · cases hd
    have hy : ∀ b, a.tmps.getD d undef = .bool b → yielded ops a.tmps j = some b := by
      intro b hb
      unfold yielded
      rw [hdst]
      simp only [Option.bind_some]
      cases ht : a.tmps[d]? with
      | none => simp [ht, undef] at hb
      | some v => simp [ht] at hb; subst hb; rfl
    rcases h with ⟨he, hk⟩ | ⟨he, h⟩ | ⟨he, hk⟩
    · have hu := slotU he
      have hyu : yielded ops a.tmps j = none := by
        unfold yielded
        rw [hdst]
        simp only [Option.bind_some]
        cases ht : a.tmps[d]? with
        | none => rfl
        | some v => simp [ht] at hu; subst hu; rfl
      have hw : Region.wanted o (yielded ops a.tmps) = false := by simp [Region.wanted, hg, hyu]
      rw [if_neg (by simp [hw])]
      exact skip (x := .undef) hk
    · have hb := slotD he
      simp only [rep] at hb
      have hw : Region.wanted o (yielded ops a.tmps) = true := by simp [Region.wanted, hg, hy _ hb]
      rw [if_pos hw]
      exact .inl (aop_sound hr h)
    · have hb := slotD he
      simp only [rep] at hb
      have hw : Region.wanted o (yielded ops a.tmps) = false := by simp [Region.wanted, hg, hy _ hb]
      rw [if_neg (by simp [hw])]
      exact skip (x := .undef) hk

/-- operations, by their numbers -/
def aopsI (P : Program) (H : Hints) (qc : Bool) (ops : List Oper) : List Nat → Env → Store → Cont → Prop
  | [], env, s, K => K env s
  | i :: r, env, s, K => match ops[i]? with
    | some o => aopG P H qc ops o env s fun env s => aopsI P H qc ops r env s K
    | none => aopsI P H qc ops r env s K

theorem aops_pick {qc : Bool} {ops : List Oper} : ∀ (l : List Nat) (env : Env) (s : Store), aops P H qc ops (Ab.pick ops l) env s K = aopsI P H qc ops l env s K
  | [], env, s => rfl
  | i :: r, env, s => by
    unfold Ab.pick aopsI
    cases h : ops[i]? with
    | none => exact aops_pick r env s
    | some o =>
      simp only [aops]
      congr 1
      funext env s
      exact aops_pick r env s

theorem pick_all (ops : List Oper) : Ab.pick ops (List.range ops.length) = ops := by
  have : ∀ (pre ops : List Oper), Ab.pick (pre ++ ops) ((List.range ops.length).map (pre.length + ·)) = ops := by
    intro pre ops
    induction ops generalizing pre with
    | nil => rfl
    | cons o r ih =>
      have := ih (pre ++ [o])
      simp only [List.length_cons, List.range_succ_eq_map, List.map_cons, List.map_map, Nat.add_zero, Ab.pick]
      rw [List.getElem?_append_right (Nat.le_refl _)]
      simp only [Nat.sub_self, List.getElem?_cons_zero, List.cons.injEq, true_and]
      simp only [List.append_assoc, List.singleton_append, List.length_append, List.length_singleton] at this
      have e : (List.range r.length).map ((fun x => pre.length + x) ∘ Nat.succ) = (List.range r.length).map (fun x => pre.length + 1 + x) := by
        apply List.map_congr_left; intro x _; simp; omega
      rw [e]; exact this
  simpa using this [] ops

theorem aopsI_sound {qc : Bool} {ops : Array Oper} : ∀ (l : List Nat) {c : Ctx} {env : Env} {a : Act}, RelC H c0 c env a → aopsI P H qc ops.toList l env c.s K →
    (∀ a w, Next H c0 K a w → Q .normal a w) → wpOps P ops Q l a c.w
  | [], c, env, a, hr, h, hq => hq _ _ ⟨_, _, h, c, rfl, rfl, hr⟩
  | i :: r, c, env, a, hr, h, hq => by
    rw [wpOps_cons]
    unfold aopsI at h
    cases ho : ops[i]? with
    | none =>
      have : ops.toList[i]? = none := by simpa using ho
      rw [this] at h
      simp only [wpOp, ho]
      exact aopsI_sound r hr h hq
    | some o =>
      have : ops.toList[i]? = some o := by simpa using ho
      rw [this] at h
      refine wpOp_mono ?_ (aopG_sound hr ho h)
      rintro a' w' ⟨env', s', hk, c', rfl, rfl, hr'⟩
      exact aopsI_sound r hr' hk hq

theorem region_sound {id : Nat} {ops : Array Oper} (hr : RelC H c0 c env a) (h : aops P H false ops.toList ops.toList env c.s K) (hq : ∀ a w, Next H c0 K a w → Q .normal a w) :
    (Code.region id ops false).wp P Q a c.w := by
  refine wp_region ?_
  have h' : aopsI P H false ops.toList (List.range ops.toList.length) env c.s K := by rw [← aops_pick, pick_all]; exact h
  have : ops.toList.length = ops.size := by simp
  rw [this] at h'
  exact aopsI_sound _ hr h' hq

end
end Go.Proofs.YtdeondiigpidnaaGreat.Ab
end

section
set_option linter.unusedVariables false
set_option linter.unusedSimpArgs false
/- Operations that do the same in another order. -/
namespace Go.Proofs.YtdeondiigpidnaaGreat.Ab
open Go
set_option linter.unusedSectionVars false
variable [Fwd]
set_option linter.unusedVariables false
set_option linter.unusedSimpArgs false

/-- the slots that an operand names -/
def opTmp : Operand → List Nat
  | .tmp t => [t]
  | _ => []
def opTmps (o : Oper) : List Nat := o.op.operands.toList.flatMap opTmp
/-- what an operation looks at: slots, and variables of the function's own behind them -/
def isRd (H : Hints) (o : Oper) (t : Nat) : Prop := t ∈ opTmps o ∨ ∃ u ∈ opTmps o, mem u (H.lr t) = true
def wrs (H : Hints) (o : Oper) : List Nat :=
  match o.dst with
  | none => []
  | some d => match o.op with
    | .alloc _ | .box _ _ => bif H.esc d then [d] else d :: H.lr d
    | _ => [d]

/-- 0: only computes; 1: reads the store; 2: a new object; 3: a quiet call; 4: a call; 5: what writes -/
def cls (H : Hints) (o : Oper) : Nat :=
  match o.op with
  | .move _ | .assign _ | .pick _ _ _ | .build _ _ | .buildSlice _ _ _ | .nilCheck _ | .unOp _ _ _ | .convert _ _ _ | .makeInterface _ _ | .makeFunc _ _ _
  | .slice _ _ _ _ _ | .fieldAddr _ _ _ | .field _ _ _ | .indexAddr _ _ _ | .index _ _ _ | .extract _ _ => 0
  | .binOp _ _ _ y _ => bif isNilSlice y then 5 else 0
  | .alloc _ | .box _ _ => match o.dst with | some d => bif H.esc d then 2 else 0 | none => 5
  | .load _ a => bif isLc H a then 0 else 1
  | .lookup _ _ _ _ => 1
  | .makeMap _ none => 2
  | .call c => match c.callee with
    | .value (.func f) => bif H.quiet f then 3 else 4
    | .value _ => 4
    | .builtin .len => 1
    | .builtin .max | .builtin .min => 0
    | _ => 5
  | _ => 5

def Loc (W : List Nat) (f : Env → Env) : Prop := ∃ vals : Nat → Slot, ∀ e t, f e t = if t ∈ W then vals t else e t

theorem Loc.put {H : Hints} {d : Option Nat} {x : Slot} {W : List Nat} (h : d.toList = W) : Loc W (fun env => put H env d x) := by
  subst h
  cases d with
  | none => exact ⟨fun _ => .junk, fun e t => by simp [Ab.put]⟩
  | some d =>
    cases hb : Nat.blt d H.n with
    | true => exact ⟨fun _ => x, fun e t => by
        simp only [Ab.put, hb, cond_true]
        by_cases ht : t = d
        · subst ht; simp [set_same]
        · simp [set_ne _ _ ht, ht]⟩
    | false => exact ⟨fun _ => .junk, fun e t => by
        simp only [Ab.put, hb, cond_false]
        by_cases ht : t = d
        · subst ht; simp [set_same]
        · simp [set_ne _ _ ht, ht]⟩

/-- a predicate transformer that has one outcome, and that is p -/
def Det {α : Type} (p : α → Prop) (F : (α → Prop) → Prop) : Prop := ∀ K, F K → ∃ v, p v ∧ K v ∧ ∀ K2 : α → Prop, K2 v → F K2
def Any {α : Type} : α → Prop := fun _ => True

theorem Det.get {α : Type} (o : Option α) : Det Any (Ab.get o) := by
  intro K h
  obtain ⟨v, rfl, hv⟩ := get_some h
  exact ⟨v, trivial, hv, fun K2 h2 => h2⟩
theorem Det.must {α : Type} (o : Option α) : Det Any (Ab.must o) := by
  rintro K ⟨v, rfl, hv⟩
  exact ⟨v, trivial, hv, fun K2 h2 => ⟨v, rfl, h2⟩⟩
theorem Det.bind {α β : Type} {q : α → Prop} {p : β → Prop} {F : (α → Prop) → Prop} {G : α → (β → Prop) → Prop} (hF : Det q F) (hG : ∀ v, Det p (G v)) : Det p fun K => F fun v => G v K := by
  intro K h
  obtain ⟨v, _, hv, h1⟩ := hF _ h
  obtain ⟨u, hp, hu, h2⟩ := hG v K hv
  exact ⟨u, hp, hu, fun K2 hk => h1 _ (h2 K2 hk)⟩
theorem Det.map {α β : Type} {q : α → Prop} {p : β → Prop} {F : (α → Prop) → Prop} (g : α → β) (hF : Det q F) (hp : ∀ v, p (g v)) : Det p fun (K : β → Prop) => F fun v => K (g v) := by
  intro K h
  obtain ⟨v, _, hv, h1⟩ := hF _ h
  exact ⟨g v, hp v, hv, fun K2 hk => h1 _ hk⟩
theorem Det.pure {α : Type} {p : α → Prop} {v : α} (hp : p v) : Det p fun (K : α → Prop) => K v := fun K h => ⟨v, hp, h, fun _ h => h⟩
theorem Det.and {α : Type} {q : Prop} {p : α → Prop} {F : (α → Prop) → Prop} (hF : Det p F) : Det p fun K => q ∧ F K := by
  rintro K ⟨hq, h⟩
  obtain ⟨v, hp, hv, h1⟩ := hF _ h
  exact ⟨v, hp, hv, fun K2 hk => ⟨hq, h1 _ hk⟩⟩
theorem Det.false {α : Type} {p : α → Prop} : Det p fun (_ : α → Prop) => False := fun _ h => h.elim
theorem Det.cond {α : Type} {p : α → Prop} {b : Bool} {F G : (α → Prop) → Prop} (hF : Det p F) (hG : Det p G) : Det p fun K => bif b then F K else G K := by
  cases b
  · exact hG
  · exact hF
theorem Det.gcond {α : Type} {p : α → Prop} {w : Bool} {g : V} {F G : (α → Prop) → Prop} (hF : Det p F) (hG : Det p G) : Det p fun K => Ab.gcond w g (F K) (G K) := by
  intro K h
  obtain ⟨b, rfl, h1, h2⟩ := gcond_bool h
  by_cases hb : b = w
  · subst hb
    obtain ⟨v, hp, hv, h3⟩ := hF K (h1 rfl)
    exact ⟨v, hp, hv, fun K2 hk => by show Ab.gcond b (.bool b) _ _; unfold Ab.gcond; cases b <;> exact h3 K2 hk⟩
  · have hb' : b = !w := by cases b <;> cases w <;> simp_all
    subst hb'
    obtain ⟨v, hp, hv, h3⟩ := hG K (h2 rfl)
    exact ⟨v, hp, hv, fun K2 hk => by show Ab.gcond w (.bool !w) _ _; unfold Ab.gcond; cases w <;> exact h3 K2 hk⟩
theorem Det.ex {α β : Type} {p : α → Prop} {F : β → (α → Prop) → Prop} (hF : ∀ b, Det p (F b)) : Det p fun K => ∃ b, F b K := by
  rintro K ⟨b, h⟩
  obtain ⟨v, hp, hv, h1⟩ := hF b K h
  exact ⟨v, hp, hv, fun K2 hk => ⟨b, h1 K2 hk⟩⟩

/-- the address of a part of a variable of the function's own lies in a slot that is told -/
def slotWf (H : Hints) (d : Option Nat) (x : Slot) : Prop := ∀ k off, x = .ref k off → ∃ d', d = some d' ∧ mem d' (H.lr k) = true
theorem wfv {H : Hints} {d : Option Nat} {x : V} : slotWf H d (.v x) := fun _ _ h => nomatch h
theorem wfe {H : Hints} {d : Option Nat} {x : V} {off : Nat} : slotWf H d (.elt x off) := fun _ _ h => nomatch h

section
variable {P : Program} {H : Hints} {o : Oper} {env : Env}

theorem Det.partAddr (x : Operand) (d : Option Nat) (off : Nat) : Det (slotWf H d) (Ab.partAddr H env x d off) := by
  unfold Ab.partAddr
  split
  · rename_i k _ d' _
    cases hm : mem d' (H.lr k) with
    | true => exact .pure (fun k' o' h => by cases h; exact ⟨d', rfl, hm⟩)
    | false => exact .false
  · rename_i k _ d' _
    cases hm : mem d' (H.lr k) with
    | true => exact .pure (fun k' o' h => by cases h; exact ⟨d', rfl, hm⟩)
    | false => exact .false
  · exact .pure wfe
  · intro K h
    obtain ⟨i, j, rfl, h⟩ := h
    exact ⟨_, wfv, h, fun K2 hk => ⟨i, j, rfl, hk⟩⟩
  · exact .false

theorem Det.aidx (d : Option Nat) (sz : Nat) (x i : V) : Det (slotWf H d) (Ab.aidx sz x i) := by
  unfold Ab.aidx
  cases x with
  | sl l c =>
    rintro K ⟨k, n, e, h2, h3, h4, h5, h6⟩
    exact ⟨_, wfe, h6, fun K2 hk => ⟨k, n, e, h2, h3, h4, h5, hk⟩⟩
  | vw id s off len =>
    rintro K ⟨k, n, h1, h2, h3, h4, h5⟩
    exact ⟨_, wfv, h5, fun K2 hk => ⟨k, n, h1, h2, h3, h4, hk⟩⟩
  | _ => exact .false
theorem Det.aidxS (x i : V) : Det Any (Ab.aidxS x i) := by
  rintro K ⟨s, k, n, b, h1, h2, h3, h4, h5⟩
  exact ⟨_, trivial, h5, fun K2 hk => ⟨s, k, n, b, h1, h2, h3, h4, hk⟩⟩
theorem Det.aslS (x : V) (lo hi : Option V) : Det Any (Ab.aslS x lo hi) := by
  rintro K ⟨s, h1, a, b, h2, h3, h4, h5, h6⟩
  exact ⟨_, trivial, h6, fun K2 hk => ⟨s, h1, a, b, h2, h3, h4, h5, hk⟩⟩
theorem Det.asl (sz : Nat) (x : V) (lo hi mx : Option V) : Det Any (Ab.asl sz x lo hi mx) := by
  unfold Ab.asl
  cases x with
  | sl l c =>
    rintro K ⟨hs, a, b, h2, h3, h4, h5, h6, h7⟩
    exact ⟨_, trivial, h7, fun K2 hk => ⟨hs, a, b, h2, h3, h4, h5, h6, hk⟩⟩
  | vw id s off len =>
    rintro K ⟨hs, a, b, h2, h3, h4, h5, h6, h7⟩
    exact ⟨_, trivial, h7, fun K2 hk => ⟨hs, a, b, h2, h3, h4, h5, h6, hk⟩⟩
  | _ => exact .false
theorem Det.aeqS (ks : List SK) (x y : V) : Det Any (Ab.aeqS ks x y) := by
  rintro K ⟨a, b, h1, h2, h3, h4, h5⟩
  exact ⟨_, trivial, h5, fun K2 hk => ⟨a, b, h1, h2, h3, h4, hk⟩⟩
theorem Det.cmpB (op : BinOp) (b : Bool) : Det Any (Ab.cmpB op b) := by
  unfold Ab.cmpB
  cases op <;> first | exact .pure trivial | exact .false

theorem Det.nilOut (d : Option Nat) (x : Operand) : Det (slotWf H d) (Ab.nilOut H d x env) := by
  unfold Ab.nilOut
  split
  · exact .partAddr _ _ _
  · exact .partAddr _ _ _
  · exact .pure wfe
  · exact .and (.pure wfv)
  · exact .false

/-- operations that only compute -/
theorem outR_det {qc : Bool} {d : Option Nat} {op : Op} {s : Store} (hn : ∀ o T x y T', op = .binOp o T x y T' → isNilSlice y = false) : Det (slotWf H d) (outR P H qc d op env s) := by
  unfold outR
  cases op with
  | move x => exact .bind (.get _) fun _ => .pure wfv
  | assign x => exact .bind (.get _) fun _ => .pure wfv
  | pick x y z => exact .bind (.get _) fun _ => .gcond (.bind (.get _) fun _ => .pure wfv) (.bind (.get _) fun _ => .pure wfv)
  | build T ps => exact .bind (.get _) fun _ => .bind (.get _) fun _ => .bind (.get _) fun _ => .bind (.must _) fun _ => .pure wfv
  | buildSlice T n ps => exact .bind (.get _) fun _ => .bind (.get _) fun _ => .bind (.get _) fun _ => .bind (.get _) fun _ => .cond (.and (.pure wfv)) .false
  | load T x =>
    refine .bind (.get _) fun _ => ?_
    split
    · exact .bind (.must _) fun _ => .pure wfv
    · split
      · exact .bind (.must _) fun _ => .pure wfv
      · exact .false
    · exact .bind (.must _) fun _ => .pure wfv
    · refine .cond .false ?_
      rintro K ⟨id, off, ob, cs, h1, h2, h3, v, h4, h5⟩
      exact ⟨_, wfv, h5, fun K2 hk => ⟨id, off, ob, cs, h1, h2, h3, v, h4, hk⟩⟩
    · exact .false
  | nilCheck x => exact .nilOut _ _
  | binOp op T x y T' =>
    refine .bind (.get _) fun _ => .bind (.get _) fun _ => ?_
    cases opK P T with
    | none => exact .false
    | some k =>
      cases k with
      | num => simp only; exact .bind (.must _) fun _ => .pure wfv
      | eq k => simp only; exact .bind (.must _) fun _ => .pure wfv
      | sl => simp only [hn _ _ _ _ _ rfl, cond_false]; exact .false
      | agg => exact .bind (.get _) fun _ => .bind (.aeqS _ _ _) fun _ => .map _ (.cmpB _ _) fun _ => wfv
  | unOp op T x => exact .bind (.get _) fun _ => .bind (.must _) fun _ => .pure wfv
  | convert S T x =>
    refine .bind (.get _) fun _ => ?_
    split
    · exact .ex fun _ => .ex fun _ => .and (.pure wfv)
    · exact .ex fun _ => .and (.pure wfv)
    · exact .false
  | makeInterface T x =>
    refine .bind (.get _) fun _ => ?_
    split
    · exact .false
    · exact .false
    · exact .pure wfv
  | makeFunc f x y => exact .bind (.get _) fun _ => .bind (.get _) fun _ => .pure wfv
  | slice T x lo hi mx =>
    refine .bind (.get _) fun _ => .bind (.get _) fun _ => .bind (.get _) fun _ => .bind (.get _) fun _ => ?_
    split
    · exact .cond .false (.map _ (.aslS _ _ _) fun _ => wfv)
    · exact .bind (.get _) fun _ => .cond .false (.map _ (.asl _ _ _ _ _) fun _ => wfv)
    · exact .false
  | fieldAddr T x f => exact .bind (.get _) fun _ => .bind (.get _) fun _ => .cond .false (.partAddr _ _ _)
  | field T x f => exact .bind (.get _) fun _ => .bind (.get _) fun _ => .bind (.get _) fun _ => .ex fun _ => .and (.bind (.must _) fun _ => .pure wfv)
  | indexAddr T x i =>
    refine .bind (.get _) fun _ => ?_
    split
    · exact .bind (.get _) fun _ => .bind (.get _) fun _ => .aidx _ _ _ _
    · exact .bind (.get _) fun _ => .ex fun _ => .ex fun _ => .and (.and (.and (.partAddr _ _ _)))
    · exact .false
  | index T x i =>
    refine .bind (.get _) fun _ => .bind (.get _) fun _ => ?_
    split
    · exact .map _ (.aidxS _ _) fun _ => wfv
    · exact .bind (.get _) fun _ => .bind (.get _) fun _ => .ex fun _ => .ex fun _ => .ex fun _ => .and (.and (.and (.and (.bind (.must _) fun _ => .pure wfv))))
    · exact .false
  | lookup T x y ok =>
    refine .bind (.get _) fun _ => .bind (.get _) fun _ => .bind (.get _) fun _ => ?_
    rintro K ⟨l, h1, h2, h3, h4⟩
    exact ⟨_, wfv, h4, fun K2 hk => ⟨l, h1, h2, h3, hk⟩⟩
  | extract x i => exact .bind (.get _) fun _ => .ex fun _ => .and (.bind (.must _) fun _ => .pure wfv)
  | call c =>
    refine .bind (.get _) fun _ => ?_
    split
    · split
      · unfold alen
        split
        · split
          · exact .pure wfv
          · exact .pure wfv
          · exact .false
        · exact .ex fun _ => .and (.pure wfv)
        · exact .ex fun _ => .and (.pure wfv)
        · exact .false
      · exact .ex fun _ => .ex fun _ => .ex fun _ => .and (.and (.pure wfv))
      · exact .ex fun _ => .ex fun _ => .ex fun _ => .and (.and (.pure wfv))
      · exact .false
    · exact .false
  | _ => exact .false

theorem theMap_le {s s' : Store} (h : s.le s') {m : V} {l : List (V × V)} (hm : theMap s m l) : theMap s' m l :=
  hm.imp id fun ⟨id, h1, h2⟩ => ⟨id, h1, h2.imp (h _ _) (h _ _)⟩

/-- a greater store tells the same -/
theorem outR_le {qc : Bool} {d : Option Nat} {op : Op} {s s2 : Store} (h : s.le s2) {K : Slot → Prop} (hk : outR P H qc d op env s K) : outR P H qc d op env s2 K := by
  unfold outR at hk ⊢
  cases op with
  | load T x =>
    simp only at hk ⊢
    obtain ⟨k, hk0, hk⟩ := get_some hk
    rw [hk0]
    show (match slotOf env x with
      | .box cs => must (rd k cs 0) fun v => K (.v v)
      | .ref b off => match env b with | .box cs => must (rd k cs off) fun v => K (.v v) | _ => False
      | .elt x off => must (rd k x.cells off) fun v => K (.v v)
      | .v p => bif qc && isLc H x then False else aload k p s2 fun v => K (.v v)
      | _ => False)
    cases hs : slotOf env x with
    | v p =>
      rw [hs] at hk
      simp only at hk ⊢
      cases hl : (qc && isLc H x) with
      | true => simp [hl] at hk
      | false =>
        simp only [hl, cond_false] at hk ⊢
        obtain ⟨id, off, ob, cs, h1, h2, h3⟩ := hk
        exact ⟨id, off, ob, cs, h1, h _ _ h2, h3⟩
    | _ => rw [hs] at hk; exact hk
  | lookup T x y ok =>
    simp only at hk ⊢
    obtain ⟨m, h1, hk⟩ := get_some hk
    obtain ⟨k, h2, hk⟩ := get_some hk
    obtain ⟨t, h3, l, h4, hk⟩ := get_some hk
    rw [h1, h2, h3]
    exact ⟨l, theMap_le h h4, hk⟩
  | call c =>
    simp only at hk ⊢
    obtain ⟨args, h1, hk⟩ := get_some hk
    rw [h1]
    simp only [Ab.get]
    cases hcl : c.callee with
    | value f => simp only [hcl] at hk
    | invoke r m => simp only [hcl] at hk
    | builtin b =>
      simp only [hcl] at hk ⊢
      split at hk
      · unfold alen at hk ⊢
        simp only [*]
        split at hk
        · exact hk
        · exact hk
        · obtain ⟨l, h2, hk⟩ := hk
          exact ⟨l, theMap_le h h2, hk⟩
        · exact hk.elim
      · simpa [*] using hk
      · simpa [*] using hk
      · exact hk.elim
  | _ => exact hk

/-- what only computes does not look at the store -/
theorem outR_any {d : Option Nat} {s s2 : Store} {K : Slot → Prop} (hc : cls H o = 0) (hk : outR P H true d o.op env s K) : outR P H true d o.op env s2 K := by
  unfold outR at hk ⊢
  unfold cls at hc
  cases hop : o.op with
  | load T x =>
    rw [hop] at hk hc
    have hl : isLc H x = true := by cases h : isLc H x with | true => rfl | false => simp [h] at hc
    simp only at hk ⊢
    obtain ⟨k, hk0, hk⟩ := get_some hk
    simp only [hk0, Ab.get]
    cases hs : slotOf env x with
    | v p => simp [hs, hl] at hk
    | _ => rw [hs] at hk; exact hk
  | lookup T x y ok => rw [hop] at hc; simp at hc
  | call c =>
    rw [hop] at hk hc
    simp only at hk hc ⊢
    obtain ⟨args, h1, hk⟩ := get_some hk
    simp only [h1, Ab.get]
    cases hcl : c.callee with
    | value f => simp only [hcl] at hk
    | invoke r m => simp only [hcl] at hk
    | builtin b =>
      simp only [hcl] at hk ⊢
      split at hk
      · simp [hcl] at hc
      · simpa [*] using hk
      · simpa [*] using hk
      · exact hk.elim
  | _ => rw [hop] at hk; exact hk

end
end Go.Proofs.YtdeondiigpidnaaGreat.Ab
end

section
set_option linter.unusedVariables false
set_option linter.unusedSimpArgs false
/- What an operation looks at. -/
namespace Go.Proofs.YtdeondiigpidnaaGreat.Ab
open Go
set_option linter.unusedSectionVars false
variable [Fwd]
set_option linter.unusedVariables false
set_option linter.unusedSimpArgs false

/-- two environments that are alike in these slots, and behind them -/
structure Agr (ts : List Nat) (env env' : Env) : Prop where
  slot : ∀ t ∈ ts, env' t = env t
  ref : ∀ t ∈ ts, ∀ k off, env t = .ref k off → env' k = env k

section
variable {P : Program} {H : Hints} {ts : List Nat} {env env' : Env}

theorem opnd_agr (h : Agr ts env env') {x : Operand} (hx : ∀ t ∈ opTmp x, t ∈ ts) : opnd env' x = opnd env x := by
  cases x with
  | tmp t => simp only [opnd, h.slot t (hx t (by simp [opTmp]))]
  | _ => rfl

theorem slotOf_agr (h : Agr ts env env') {x : Operand} (hx : ∀ t ∈ opTmp x, t ∈ ts) : slotOf env' x = slotOf env x := by
  cases x with
  | tmp t => simp only [slotOf, h.slot t (hx t (by simp [opTmp]))]
  | _ => rfl

theorem opnds_agr (h : Agr ts env env') : ∀ {xs : List Operand}, (∀ x ∈ xs, ∀ t ∈ opTmp x, t ∈ ts) → opnds env' xs = opnds env xs
  | [], _ => rfl
  | x :: r, hx => by
    simp only [opnds, opnd_agr h (hx x (by simp)), opnds_agr h (xs := r) (fun y hy => hx y (by simp [hy]))]

theorem opndO_agr (h : Agr ts env env') {x : Option Operand} (hx : ∀ y ∈ x.toList, ∀ t ∈ opTmp y, t ∈ ts) : opndO env' x = opndO env x := by
  cases x with
  | none => rfl
  | some y => simp only [opndO, opnd_agr h (hx y (by simp))]

theorem parts_agr (h : Agr ts env env') {pl : List (Nat × Nat)} : ∀ {ps : List (Nat × Operand)}, (∀ p ∈ ps, ∀ t ∈ opTmp p.2, t ∈ ts) → parts pl env' ps = parts pl env ps
  | [], _ => rfl
  | (i, x) :: r, hx => by
    simp only [parts, opnd_agr h (hx (i, x) (by simp)), parts_agr h (ps := r) (fun y hy => hx y (by simp [hy]))]

theorem elems_agr (h : Agr ts env env') : ∀ {ps : List (Nat × Operand)} {k : Nat}, (∀ p ∈ ps, ∀ t ∈ opTmp p.2, t ∈ ts) → elems env' k ps = elems env k ps
  | [], k, _ => rfl
  | (i, x) :: r, k, hx => by
    simp only [elems, opnd_agr h (hx (i, x) (by simp)), elems_agr h (ps := r) (fun y hy => hx y (by simp [hy]))]

theorem partAddr_agr (h : Agr ts env env') {x : Operand} {d : Option Nat} {off : Nat} {K : Slot → Prop} (hx : ∀ t ∈ opTmp x, t ∈ ts) : partAddr H env' x d off K = partAddr H env x d off K := by
  unfold partAddr
  rw [slotOf_agr h hx]

theorem nilOut_agr (h : Agr ts env env') {x : Operand} {d : Option Nat} {K : Slot → Prop} (hx : ∀ t ∈ opTmp x, t ∈ ts) : nilOut H d x env' K = nilOut H d x env K := by
  unfold nilOut
  rw [slotOf_agr h hx]
  cases hs : slotOf env x with
  | box cs => cases x <;> first | rfl | exact partAddr_agr h hx
  | ref k e => cases x <;> exact partAddr_agr h hx
  | _ => cases x <;> rfl

theorem mem_ops {op : Op} {x : Operand} (h : x ∈ op.operands.toList) : ∀ t ∈ opTmp x, t ∈ op.operands.toList.flatMap opTmp := fun t ht => List.mem_flatMap.2 ⟨x, h, ht⟩

theorem outR_agr {qc : Bool} {d : Option Nat} {op : Op} {s : Store} {K : Slot → Prop} (h : Agr (op.operands.toList.flatMap opTmp) env env') : outR P H qc d op env' s K = outR P H qc d op env s K := by
  have m : ∀ {x}, x ∈ op.operands.toList → ∀ t ∈ opTmp x, t ∈ op.operands.toList.flatMap opTmp := fun hx => mem_ops hx
  unfold outR
  cases op with
  | move x => simp only [opnd_agr h (x := x) (m (by simp [Op.operands]))]
  | assign x => simp only [opnd_agr h (x := x) (m (by simp [Op.operands]))]
  | pick x y z => simp only [opnd_agr h (x := x) (m (by simp [Op.operands])), opnd_agr h (x := y) (m (by simp [Op.operands])), opnd_agr h (x := z) (m (by simp [Op.operands]))]
  | build T ps =>
    have : ∀ p ∈ ps.toList, ∀ t ∈ opTmp p.2, t ∈ (Op.build T ps).operands.toList.flatMap opTmp := fun p hp => m (by simp only [Op.operands]; exact List.mem_map_of_mem hp)
    simp only [parts_agr h this]
  | buildSlice T n ps =>
    have : ∀ p ∈ ps.toList, ∀ t ∈ opTmp p.2, t ∈ (Op.buildSlice T n ps).operands.toList.flatMap opTmp := fun p hp => m (by simp only [Op.operands]; exact List.mem_map_of_mem hp)
    simp only [elems_agr h this]
  | load T x =>
    have hx := slotOf_agr h (x := x) (m (by simp [Op.operands]))
    simp only [hx]
    cases hs : slotOf env x with
    | ref b off =>
      have : env' b = env b := by
        cases x with
        | tmp t => exact h.ref t (m (x := .tmp t) (by simp [Op.operands]) t (by simp [opTmp])) b off hs
        | const v => simp only [slotOf] at hs; cases ho : opnd env (.const v) <;> simp [ho] at hs
        | func f => simp only [slotOf] at hs; cases ho : opnd env (.func f) <;> simp [ho] at hs
        | global g => simp [slotOf, opnd] at hs
      simp only [this]
    | _ => rfl
  | nilCheck x => exact nilOut_agr h (m (by simp [Op.operands]))
  | binOp o T x y T' => simp only [opnd_agr h (x := x) (m (by simp [Op.operands])), opnd_agr h (x := y) (m (by simp [Op.operands]))]
  | unOp o T x => simp only [opnd_agr h (x := x) (m (by simp [Op.operands]))]
  | convert S T x => simp only [opnd_agr h (x := x) (m (by simp [Op.operands]))]
  | makeInterface T x => simp only [opnd_agr h (x := x) (m (by simp [Op.operands]))]
  | makeFunc f x y =>
    simp only [opnds_agr h (xs := x.toList) (fun z hz => m (by simp [Op.operands] at hz ⊢; exact .inl hz)), opnds_agr h (xs := y.toList) (fun z hz => m (by simp [Op.operands] at hz ⊢; exact .inr hz))]
  | slice T x lo hi mx =>
    simp only [opnd_agr h (x := x) (m (by simp [Op.operands])), opndO_agr h (x := lo) (fun z hz => m (by simp [Op.operands] at hz ⊢; simp [hz])), opndO_agr h (x := hi) (fun z hz => m (by simp [Op.operands] at hz ⊢; simp [hz])),
      opndO_agr h (x := mx) (fun z hz => m (by simp [Op.operands] at hz ⊢; simp [hz]))]
  | fieldAddr T x f =>
    have : ∀ off K, partAddr H env' x d off K = partAddr H env x d off K := fun off K => partAddr_agr h (m (by simp [Op.operands]))
    simp only [this]
  | field T x f => simp only [opnd_agr h (x := x) (m (by simp [Op.operands]))]
  | indexAddr T x i =>
    have : ∀ off K, partAddr H env' x d off K = partAddr H env x d off K := fun off K => partAddr_agr h (m (by simp [Op.operands]))
    simp only [this, opnd_agr h (x := x) (m (by simp [Op.operands])), opnd_agr h (x := i) (m (by simp [Op.operands]))]
  | index T x i => simp only [opnd_agr h (x := x) (m (by simp [Op.operands])), opnd_agr h (x := i) (m (by simp [Op.operands]))]
  | lookup T x i ok => simp only [opnd_agr h (x := x) (m (by simp [Op.operands])), opnd_agr h (x := i) (m (by simp [Op.operands]))]
  | extract x i => simp only [opnd_agr h (x := x) (m (by simp [Op.operands]))]
  | call c => simp only [opnds_agr h (xs := c.args.toList) (fun z hz => m (by simp [Op.operands, Call.operands] at hz ⊢; exact .inr hz))]
  | _ => rfl

/-- an operation that writes nothing that was there -/
def calm (H : Hints) (o : Oper) : Bool := Nat.ble (cls H o) 4

theorem aopR_agr {qc : Bool} {o : Oper} {s : Store} {R : RCont} (hc : calm H o = true) (h : Agr (opTmps o) env env') : aopR P H qc o env' s R = aopR P H qc o env s R := by
  have m : ∀ {x}, x ∈ o.op.operands.toList → ∀ t ∈ opTmp x, t ∈ opTmps o := fun hx => mem_ops hx
  have hout : outR P H qc o.dst o.op env' s (fun x => R (fun env => put H env o.dst x) s) = outR P H qc o.dst o.op env s (fun x => R (fun env => put H env o.dst x) s) := outR_agr h
  unfold aopR
  cases hop : o.op with
  | alloc T => rfl
  | box T x => simp only [opnd_agr h (x := x) (m (by simp [hop, Op.operands]))]
  | store T x y => simp [calm, cls, hop, Nat.ble] at hc
  | makeMap T r => rfl
  | range T x => simp [calm, cls, hop, Nat.ble] at hc
  | next x str => simp [calm, cls, hop, Nat.ble] at hc
  | entry x => simp [calm, cls, hop, Nat.ble] at hc
  | mapUpdate T x y z => simp [calm, cls, hop, Nat.ble] at hc
  | insert T x y z => simp [calm, cls, hop, Nat.ble] at hc
  | call c =>
    rw [hop] at hout
    have ha := opnds_agr h (xs := c.args.toList) (fun z hz => m (by simp [hop, Op.operands, Call.operands] at hz ⊢; exact .inr hz))
    cases hcl : c.callee with
    | value f =>
      have hf : opnd env' f = opnd env f := opnd_agr h (m (by simp [hop, Op.operands, Call.operands, hcl]))
      cases f with
      | func f => simp only [hcl, ha]
      | tmp t => simp only [hcl, ha, hf]
      | const v => simp only [hcl, ha, hf]
      | global g => simp only [hcl, ha, hf]
    | invoke r n => simp only [hcl]
    | builtin b => cases b <;> simp only [hcl] <;> first | exact hout | simp only [ha]
  | _ => rw [hop] at hout; exact hout

def wfE (H : Hints) (env : Env) : Prop := ∀ t k off, env t = .ref k off → mem t (H.lr k) = true

theorem wfE_set {e : Env} {d : Nat} {x : Slot} (he : wfE H e) (hx : ∀ k off, x = .ref k off → mem d (H.lr k) = true) : wfE H (set e d x) := by
  intro t k off ht
  by_cases htd : t = d
  · subst htd; rw [set_same] at ht; exact hx k off ht
  · rw [set_ne _ _ htd] at ht; exact he t k off ht

theorem wfE_put {e : Env} {d : Option Nat} {x : Slot} (he : wfE H e) (hx : slotWf H d x) : wfE H (put H e d x) := by
  cases d with
  | none => exact he
  | some d =>
    unfold Ab.put
    cases hb : Nat.blt d H.n with
    | true =>
      simp only [cond_true, hb]
      exact wfE_set he fun k off h => by obtain ⟨d', h1, h2⟩ := hx k off h; cases h1; exact h2
    | false =>
      simp only [cond_false, hb]
      exact wfE_set he fun k off h => nomatch h

/-- what comes of a calm operation: it writes its own slots alone; a quiet one leaves the store's things as they are -/
theorem aopR_mono {o : Oper} {s : Store} {R R' : RCont} (hc : calm H o = true) (h : aopR P H true o env s R)
    (hR : ∀ f s', Loc (wrs H o) f → (∀ e, wfE H e → wfE H (f e)) → (cls H o ≤ 3 → s.le s') → R f s' → R' f s') : aopR P H true o env s R' := by
  have W : ∀ {op : Op}, o.op = op → (∀ T, op ≠ .alloc T) → (∀ T x, op ≠ .box T x) → o.dst.toList = wrs H o := by
    intro op hop h1 h2
    unfold wrs
    cases hd : o.dst with
    | none => rfl
    | some d => rw [hop]; cases op <;> first | rfl | exact absurd rfl (h1 _) | exact absurd rfl (h2 _ _)
  have newv : ∀ {cs : List V}, ((∃ T, o.op = .alloc T) ∨ ∃ T x, o.op = .box T x) → newVarR H o.dst cs s R → newVarR H o.dst cs s R' := by
    intro cs hop hn
    unfold newVarR at hn ⊢
    cases hd : o.dst with
    | none => rw [hd] at hn; exact hn.elim
    | some d =>
      have hw : wrs H o = bif H.esc d then [d] else d :: H.lr d := by
        unfold wrs; rw [hd]
        rcases hop with ⟨T, hop⟩ | ⟨T, x, hop⟩ <;> rw [hop]
      rw [hd] at hn
      simp only at hn ⊢
      cases hb : Nat.blt d H.n with
      | false => simp [hb] at hn
      | true =>
        simp only [hb, cond_true] at hn ⊢
        cases he : H.esc d with
        | true =>
          simp only [he, cond_true] at hn ⊢
          intro id hid
          refine hR _ _ (.put (by rw [hw, he]; rfl)) (fun e he => wfE_put he wfv) (fun _ i ob hi => ?_) (hn id hid)
          · simp only [Store.upd]
            split
            · rename_i hii; subst hii; rw [hid] at hi; cases hi
            · exact hi
        | false =>
          simp only [he, cond_false] at hn ⊢
          refine hR _ _ ?_ (fun e he2 t k off ht => ?_) (fun _ i ob hi => hi) hn
          rotate_left
          · by_cases htd : t = d
            · subst htd; rw [set_same] at ht; cases ht
            · rw [set_ne _ _ htd, junkAll_apply] at ht
              split at ht
              · cases ht
              · exact he2 t k off ht
          refine ⟨fun t => if t = d then .box cs else .junk, fun e t => ?_⟩
          rw [hw, he]
          by_cases ht : t = d
          · subst ht; simp [set_same]
          · simp [set_ne _ _ ht, ht, junkAll_apply]
  have out : ∀ {op : Op}, o.op = op → (∀ T, op ≠ .alloc T) → (∀ T x, op ≠ .box T x) → outR P H true o.dst op env s (fun x => R (fun env => put H env o.dst x) s) → outR P H true o.dst op env s (fun x => R' (fun env => put H env o.dst x) s) := by
    intro op hop h1 h2 ho
    have hn : ∀ o' T x y T', op = .binOp o' T x y T' → isNilSlice y = false := by
      rintro o' T x y T' rfl
      cases hi : isNilSlice y with
      | false => rfl
      | true => simp [calm, cls, hop, hi, Nat.ble] at hc
    obtain ⟨v, hwf, hv, h3⟩ := outR_det hn _ ho
    exact h3 _ (hR _ _ (.put (W hop h1 h2)) (fun e he => wfE_put he hwf) (fun _ i ob hi => hi) hv)
  unfold aopR at h ⊢
  cases hop : o.op with
  | alloc T =>
    rw [hop] at h
    obtain ⟨z, hz, h⟩ := get_some h
    simp only [hz, Ab.get]
    exact newv (.inl ⟨T, hop⟩) h
  | box T x =>
    rw [hop] at h
    obtain ⟨n, hn, h⟩ := get_some h
    obtain ⟨z, hz, hf, h⟩ := get_some h
    simp only [hn, hz, Ab.get]
    exact ⟨hf, newv (.inr ⟨T, x, hop⟩) h⟩
  | store T x y => simp [calm, cls, hop, Nat.ble] at hc
  | range T x => simp [calm, cls, hop, Nat.ble] at hc
  | next x str => simp [calm, cls, hop, Nat.ble] at hc
  | entry x => simp [calm, cls, hop, Nat.ble] at hc
  | makeMap T r =>
    rw [hop] at h
    cases r with
    | some r => exact h.elim
    | none =>
      intro id hid
      refine hR _ _ (.put (W hop (by simp) (by simp))) (fun e he => wfE_put he wfv) (fun _ i ob hi => ?_) (h id hid)
      simp only [Store.upd]
      split
      · rename_i hii; subst hii; rw [hid] at hi; cases hi
      · exact hi
  | mapUpdate T x y z => simp [calm, cls, hop, Nat.ble] at hc
  | insert T x y z => simp [calm, cls, hop, Nat.ble] at hc
  | call c =>
    have hw := W hop (by simp) (by simp)
    have ho := out hop (by simp) (by simp)
    rw [hop] at h
    cases hcl : c.callee with
    | value f =>
      simp only [hcl] at h ⊢
      cases f with
      | func f =>
        obtain ⟨args, ha, h⟩ := get_some h
        simp only [ha, Ab.get]
        cases hq : H.quiet f with
        | true =>
          simp only [hq, Bool.and_self, cond_true] at h ⊢
          exact h.mono fun r s' ⟨h1, h2⟩ => ⟨h1, hR _ _ (.put hw) (fun e he => wfE_put he wfv) (fun _ => h1) h2⟩
        | false =>
          simp only [hq, Bool.and_false, cond_false] at h ⊢
          exact h.mono fun r s' h2 => hR _ _ (.put hw) (fun e he => wfE_put he wfv) (fun hle => by simp [cls, hop, hcl, hq] at hle) h2
      | tmp t =>
        obtain ⟨args, ha, h⟩ := get_some h
        obtain ⟨f, hf, g, u, v, h1, h2⟩ := get_some h
        simp only [ha, hf, Ab.get]
        exact ⟨g, u, v, h1, h2.mono fun r s' h2 => hR _ _ (.put hw) (fun e he => wfE_put he wfv) (fun hle => by simp [cls, hop, hcl] at hle) h2⟩
      | const t =>
        obtain ⟨args, ha, h⟩ := get_some h
        obtain ⟨f, hf, g, u, v, h1, h2⟩ := get_some h
        simp only [ha, hf, Ab.get]
        exact ⟨g, u, v, h1, h2.mono fun r s' h2 => hR _ _ (.put hw) (fun e he => wfE_put he wfv) (fun hle => by simp [cls, hop, hcl] at hle) h2⟩
      | global t =>
        obtain ⟨args, ha, h⟩ := get_some h
        obtain ⟨f, hf, g, u, v, h1, h2⟩ := get_some h
        simp only [ha, hf, Ab.get]
        exact ⟨g, u, v, h1, h2.mono fun r s' h2 => hR _ _ (.put hw) (fun e he => wfE_put he wfv) (fun hle => by simp [cls, hop, hcl] at hle) h2⟩
    | invoke r n => simp only [hcl] at h
    | builtin b =>
      cases b <;> simp only [hcl] at h ⊢ <;> first
        | exact ho h
        | (simp [calm, cls, hop, hcl, Nat.ble] at hc; done)
  | _ => rw [hop] at h; exact out hop (by simp) (by simp) h

end
end Go.Proofs.YtdeondiigpidnaaGreat.Ab
end

section
set_option linter.unusedVariables false
set_option linter.unusedSimpArgs false
/- Operations in another order; regions that draw their order. -/
namespace Go.Proofs.YtdeondiigpidnaaGreat.Ab
open Go
set_option linter.unusedSectionVars false
variable [Fwd]
set_option linter.unusedVariables false
set_option linter.unusedSimpArgs false

section
variable {P : Program} {H : Hints} {env : Env}

theorem aopR_stage {o : Oper} {s : Store} {R : RCont} (hc : cls H o = 0 ∨ cls H o = 1) (h : aopR P H true o env s R) :
    ∃ f, Loc (wrs H o) f ∧ (∀ e, wfE H e → wfE H (f e)) ∧ R f s ∧ ∀ s2 (R2 : RCont), (cls H o = 1 → s.le s2) → R2 f s2 → aopR P H true o env s2 R2 := by
  have W : ∀ {op : Op}, o.op = op → (∀ T, op ≠ .alloc T) → (∀ T x, op ≠ .box T x) → o.dst.toList = wrs H o := by
    intro op hop h1 h2
    unfold wrs
    cases hd : o.dst with
    | none => rfl
    | some d => rw [hop]; cases op <;> first | rfl | exact absurd rfl (h1 _) | exact absurd rfl (h2 _ _)
  have newv : ∀ {cs : List V}, ((∃ T, o.op = .alloc T) ∨ ∃ T x, o.op = .box T x) → newVarR H o.dst cs s R →
      ∃ f, Loc (wrs H o) f ∧ (∀ e, wfE H e → wfE H (f e)) ∧ R f s ∧ ∀ s2 (R2 : RCont), R2 f s2 → newVarR H o.dst cs s2 R2 := by
    intro cs hop hn
    unfold newVarR at hn ⊢
    cases hd : o.dst with
    | none => rw [hd] at hn; exact hn.elim
    | some d =>
      have he : H.esc d = false := by
        unfold cls at hc
        cases he : H.esc d with
        | false => rfl
        | true => rcases hop with ⟨T, hop⟩ | ⟨T, x, hop⟩ <;> simp [hop, hd, he] at hc
      have hw : wrs H o = d :: H.lr d := by
        unfold wrs; rw [hd]
        rcases hop with ⟨T, hop⟩ | ⟨T, x, hop⟩ <;> rw [hop] <;> simp [he]
      rw [hd] at hn
      simp only at hn ⊢
      cases hb : Nat.blt d H.n with
      | false => simp [hb] at hn
      | true =>
        simp only [hb, cond_true, he, cond_false] at hn ⊢
        refine ⟨_, ⟨fun t => if t = d then .box cs else .junk, fun e t => ?_⟩, fun e he2 t k off ht => ?_, hn, fun s2 R2 h2 => h2⟩
        · rw [hw]
          by_cases ht : t = d
          · subst ht; simp [set_same]
          · simp [set_ne _ _ ht, ht, junkAll_apply]
        · by_cases htd : t = d
          · subst htd; rw [set_same] at ht; cases ht
          · rw [set_ne _ _ htd, junkAll_apply] at ht
            split at ht
            · cases ht
            · exact he2 t k off ht
  have out : ∀ {op : Op}, o.op = op → (∀ T, op ≠ .alloc T) → (∀ T x, op ≠ .box T x) → outR P H true o.dst op env s (fun x => R (fun env => put H env o.dst x) s) →
      ∃ f, Loc (wrs H o) f ∧ (∀ e, wfE H e → wfE H (f e)) ∧ R f s ∧ ∀ s2 (R2 : RCont), (cls H o = 1 → s.le s2) → R2 f s2 → outR P H true o.dst op env s2 (fun x => R2 (fun env => put H env o.dst x) s2) := by
    intro op hop h1 h2 ho
    have hn : ∀ o' T x y T', op = .binOp o' T x y T' → isNilSlice y = false := by
      rintro o' T x y T' rfl
      cases hi : isNilSlice y with
      | false => rfl
      | true => simp [cls, hop, hi] at hc
    obtain ⟨v, hwf, hv, h3⟩ := outR_det hn _ ho
    refine ⟨_, .put (W hop h1 h2), fun e he => wfE_put he hwf, hv, fun s2 R2 hle hR2 => ?_⟩
    have h4 := h3 (fun x => R2 (fun env => put H env o.dst x) s2) hR2
    rcases hc with hc | hc
    · rw [← hop] at h4 ⊢; exact outR_any hc h4
    · exact outR_le (hle hc) h4
  unfold aopR at h
  cases hop : o.op with
  | alloc T =>
    rw [hop] at h
    obtain ⟨z, hz, h⟩ := get_some h
    obtain ⟨f, h1, h2, h3, h4⟩ := newv (.inl ⟨T, hop⟩) h
    refine ⟨f, h1, h2, h3, fun s2 R2 _ hR2 => ?_⟩
    unfold aopR; simp only [hop, hz, Ab.get]; exact h4 s2 R2 hR2
  | box T x =>
    rw [hop] at h
    obtain ⟨n, hn, h⟩ := get_some h
    obtain ⟨z, hz, hf, h⟩ := get_some h
    obtain ⟨f, h1, h2, h3, h4⟩ := newv (.inr ⟨T, x, hop⟩) h
    refine ⟨f, h1, h2, h3, fun s2 R2 _ hR2 => ?_⟩
    unfold aopR; simp only [hop, hn, hz, Ab.get]; exact ⟨hf, h4 s2 R2 hR2⟩
  | store T x y => simp [cls, hop] at hc
  | makeMap T r => cases r <;> simp [cls, hop] at hc
  | range T x => simp [cls, hop] at hc
  | next x str => simp [cls, hop] at hc
  | entry x => simp [cls, hop] at hc
  | mapUpdate T x y z => simp [cls, hop] at hc
  | insert T x y z => simp [cls, hop] at hc
  | call c =>
    have ho := out hop (by simp) (by simp)
    rw [hop] at h
    cases hcl : c.callee with
    | value f =>
      cases f with
      | func f => cases hq : H.quiet f <;> simp [cls, hop, hcl, hq] at hc
      | _ => simp [cls, hop, hcl] at hc
    | invoke r n => simp only [hcl] at h
    | builtin b =>
      have e : ∀ s2 (R2 : RCont), outR P H true o.dst (.call c) env s2 (fun x => R2 (fun env => put H env o.dst x) s2) → aopR P H true o env s2 R2 := by
        intro s2 R2 h2
        unfold aopR
        cases b <;> simp only [hop, hcl] <;> first
          | exact h2
          | (simp [cls, hop, hcl] at hc; done)
      have h' : outR P H true o.dst (.call c) env s (fun x => R (fun env => put H env o.dst x) s) := by
        cases b <;> simp only [hcl] at h <;> first
          | exact h
          | (simp [cls, hop, hcl] at hc; done)
      obtain ⟨f, h1, h2, h3, h4⟩ := ho h'
      exact ⟨f, h1, h2, h3, fun s2 R2 hle hR2 => e s2 R2 (h4 s2 R2 hle hR2)⟩
  | _ =>
    rw [hop] at h
    obtain ⟨f, h1, h2, h3, h4⟩ := out hop (by simp) (by simp) h
    refine ⟨f, h1, h2, h3, fun s2 R2 hle hR2 => ?_⟩
    have := h4 s2 R2 hle hR2
    unfold aopR; simp only [hop]; exact this

/-- all that an operation of a region looks at -/
def rds (ops : List Oper) (o : Oper) : List Nat :=
  opTmps o ++ (match o.guard with | some (j, _) => (match dstAt ops j with | some d => [d] | none => []) | none => [])

theorem Agr.left {ts us : List Nat} {env env' : Env} (h : Agr (ts ++ us) env env') : Agr ts env env' :=
  ⟨fun t ht => h.slot t (List.mem_append.2 (.inl ht)), fun t ht => h.ref t (List.mem_append.2 (.inl ht))⟩

theorem dst_wrs {o : Oper} {d : Nat} (h : o.dst = some d) : d ∈ wrs H o := by
  unfold wrs; rw [h]
  cases o.op <;> first
    | (simp; done)
    | (show d ∈ bif H.esc d then [d] else d :: H.lr d; cases H.esc d <;> simp)

theorem Loc.mono {W : List Nat} {f : Env → Env} (h : Loc W f) {e : Env} {t : Nat} (ht : t ∉ W) : f e t = e t := by
  obtain ⟨vals, hv⟩ := h; rw [hv, if_neg ht]

theorem Loc.comm {W W' : List Nat} {f g : Env → Env} (h : Loc W f) (h' : Loc W' g) (hd : ∀ t ∈ W, t ∉ W') (e : Env) : f (g e) = g (f e) := by
  obtain ⟨vf, hf⟩ := h
  obtain ⟨vg, hg⟩ := h'
  funext t
  rw [hf (g e) t, hg e t, hg (f e) t, hf e t]
  by_cases h1 : t ∈ W
  · simp [h1, hd t h1]
  · simp [h1]

/-- the skip of an operation -/
theorem skip_loc {o : Oper} : ∃ W, Loc W (fun env => put H env o.dst .undef) ∧ ∀ t ∈ W, t ∈ wrs H o :=
  ⟨o.dst.toList, .put rfl, fun t ht => by
    cases hd : o.dst with
    | none => rw [hd] at ht; simp at ht
    | some d => rw [hd] at ht; simp at ht; subst ht; exact dst_wrs hd⟩

theorem guard_rds {ops : List Oper} {o : Oper} {j : Nat} {want : Bool} {d : Nat} (hg : o.guard = some (j, want)) (hd : dstAt ops j = some d) : d ∈ rds ops o := by
  unfold rds; simp [hg, hd]

theorem aopG_stage {ops : List Oper} {o : Oper} {s : Store} {K : Cont} (hc : cls H o = 0 ∨ cls H o = 1) (h : aopG P H true ops o env s K) :
    ∃ f W, Loc W f ∧ (∀ t ∈ W, t ∈ wrs H o) ∧ (∀ e, wfE H e → wfE H (f e)) ∧ K (f env) s ∧
      ∀ e2 s2 (K2 : Cont), Agr (rds ops o) env e2 → (cls H o = 1 → s.le s2) → K2 (f e2) s2 → aopG P H true ops o e2 s2 K2 := by
  have hcalm : calm H o = true := by unfold calm; rcases hc with hc | hc <;> rw [hc] <;> rfl
  have run : aop P H true o env s K → ∃ f W, Loc W f ∧ (∀ t ∈ W, t ∈ wrs H o) ∧ (∀ e, wfE H e → wfE H (f e)) ∧ K (f env) s ∧
      ∀ e2 s2 (K2 : Cont), Agr (rds ops o) env e2 → (cls H o = 1 → s.le s2) → K2 (f e2) s2 → aop P H true o e2 s2 K2 := by
    intro h
    obtain ⟨f, h1, h2, h3, h4⟩ := aopR_stage hc h
    refine ⟨f, _, h1, fun _ h => h, h2, h3, fun e2 s2 K2 hag hle hk => ?_⟩
    unfold aop
    rw [aopR_agr hcalm hag.left]
    exact h4 s2 _ hle hk
  rcases aopG_cases h with ⟨hg, h⟩ | ⟨j, want, d, hg, hd, h⟩
  · obtain ⟨f, W, h1, h2, h3, h4, h5⟩ := run h
    exact ⟨f, W, h1, h2, h3, h4, fun e2 s2 K2 hag hle hk => aopG_of (.inl ⟨hg, h5 e2 s2 K2 hag hle hk⟩)⟩
  · have hdr := guard_rds hg hd
    obtain ⟨W, w1, w2⟩ := skip_loc (H := H) (o := o)
    rcases h with ⟨he, hk⟩ | ⟨he, h⟩ | ⟨he, hk⟩
    · exact ⟨_, W, w1, w2, fun e hwe => wfE_put hwe (fun _ _ h => nomatch h), hk, fun e2 s2 K2 hag _ hk2 => aopG_of (.inr ⟨j, want, d, hg, hd, .inl ⟨(hag.slot d hdr).trans he, hk2⟩⟩)⟩
    · obtain ⟨f, W, h1, h2, h3, h4, h5⟩ := run h
      exact ⟨f, W, h1, h2, h3, h4, fun e2 s2 K2 hag hle hk => aopG_of (.inr ⟨j, want, d, hg, hd, .inr (.inl ⟨(hag.slot d hdr).trans he, h5 e2 s2 K2 hag hle hk⟩)⟩)⟩
    · exact ⟨_, W, w1, w2, fun e hwe => wfE_put hwe (fun _ _ h => nomatch h), hk, fun e2 s2 K2 hag _ hk2 => aopG_of (.inr ⟨j, want, d, hg, hd, .inr (.inr ⟨(hag.slot d hdr).trans he, hk2⟩)⟩)⟩

/-- what comes of a calm operation, guarded or not, looked at in an environment that is alike -/
theorem aopG_mono {ops : List Oper} {o : Oper} {s : Store} {e0 : Env} {K K' : Cont} (hc : calm H o = true) (hag : Agr (rds ops o) env e0) (h : aopG P H true ops o e0 s K)
    (hK : ∀ g W s', Loc W g → (∀ t ∈ W, t ∈ wrs H o) → (∀ e, wfE H e → wfE H (g e)) → (cls H o ≤ 3 → s.le s') → K (g e0) s' → K' (g env) s') : aopG P H true ops o env s K' := by
  have run : aop P H true o e0 s K → aop P H true o env s K' := by
    intro h
    unfold aop at h ⊢
    rw [aopR_agr hc hag.left] at h
    exact aopR_mono hc h fun g s' h1 h2 h3 h4 => hK g _ s' h1 (fun _ h => h) h2 h3 h4
  obtain ⟨W, w1, w2⟩ := skip_loc (H := H) (o := o)
  have skip : K (put H e0 o.dst .undef) s → K' (put H env o.dst .undef) s := fun hk =>
    hK (fun env => put H env o.dst .undef) W s w1 w2 (fun e he => wfE_put he (fun _ _ h => nomatch h)) (fun _ _ _ h => h) hk
  rcases aopG_cases h with ⟨hg, h⟩ | ⟨j, want, d, hg, hd, h⟩
  · exact aopG_of (.inl ⟨hg, run h⟩)
  · have hs := hag.slot d (guard_rds hg hd)
    refine aopG_of (.inr ⟨j, want, d, hg, hd, ?_⟩)
    rcases h with ⟨he, hk⟩ | ⟨he, h⟩ | ⟨he, hk⟩
    · exact .inl ⟨hs.symm.trans he, skip hk⟩
    · exact .inr (.inl ⟨hs.symm.trans he, run h⟩)
    · exact .inr (.inr ⟨hs.symm.trans he, skip hk⟩)

/-- the slots that one writes are nothing to what another one looks at -/
def apartL (H : Hints) (W ts : List Nat) : Bool := W.all fun w => ts.all fun t => !Nat.beq w t && !mem t (H.lr w)
def disjL (W ts : List Nat) : Bool := W.all fun w => ts.all fun t => !Nat.beq w t

/-- x stands ahead of y, and y may be done ahead of it -/
def comm (H : Hints) (ops : List Oper) (x y : Oper) : Bool :=
  (Nat.beq (cls H x) 0 || (Nat.beq (cls H x) 1 && Nat.ble (cls H y) 3)) && calm H y &&
  apartL H (wrs H x) (rds ops y) && apartL H (wrs H y) (rds ops x) && disjL (wrs H x) (wrs H y)

theorem beq_false_ne {a b : Nat} (h : Nat.beq a b = false) : a ≠ b := fun e => by subst e; simp at h

theorem apartL_spec {W ts : List Nat} (h : apartL H W ts = true) : ∀ w ∈ W, ∀ t ∈ ts, w ≠ t ∧ mem t (H.lr w) = false := by
  intro w hw t ht
  have h1 := List.all_eq_true.1 (List.all_eq_true.1 h w hw) t ht
  simp only [Bool.and_eq_true, Bool.not_eq_true'] at h1
  exact ⟨beq_false_ne h1.1, h1.2⟩
theorem disjL_spec {W ts : List Nat} (h : disjL W ts = true) : ∀ w ∈ W, w ∉ ts := by
  intro w hw ht
  have h1 := List.all_eq_true.1 (List.all_eq_true.1 h w hw) w ht
  simp at h1

theorem Agr.loc {W W' ts : List Nat} {f : Env → Env} {e : Env} (hwe : wfE H e) (hf : Loc W f) (hW : ∀ t ∈ W, t ∈ W') (h : apartL H W' ts = true) : Agr ts e (f e) where
  slot := fun t ht => hf.mono fun hw => (apartL_spec h t (hW t hw) t ht).1 rfl
  ref := fun t ht k off hk => hf.mono fun hw => by
    have := (apartL_spec h k (hW k hw) t ht).2
    rw [hwe t k off hk] at this
    cases this

theorem swap {ops : List Oper} {x y : Oper} {s : Store} {K : Cont} (hwe : wfE H env) (hc : comm H ops x y = true)
    (h : aopG P H true ops x env s fun e1 s1 => aopG P H true ops y e1 s1 K) : aopG P H true ops y env s fun e1 s1 => aopG P H true ops x e1 s1 K := by
  unfold comm at hc
  simp only [Bool.and_eq_true, Bool.or_eq_true] at hc
  obtain ⟨⟨⟨⟨hcx, hcy⟩, hxy⟩, hyx⟩, hdis⟩ := hc
  have hx01 : cls H x = 0 ∨ cls H x = 1 := by
    rcases hcx with h1 | ⟨h1, _⟩
    · exact .inl (Nat.eq_of_beq_eq_true h1)
    · exact .inr (Nat.eq_of_beq_eq_true h1)
  obtain ⟨f, W, hf, hW, hwf, h1, h2⟩ := aopG_stage hx01 h
  have hag : Agr (rds ops y) env (f env) := Agr.loc hwe hf hW hxy
  refine aopG_mono hcy hag h1 fun g W' s' hg hW' hwg hle hK => ?_
  have hag2 : Agr (rds ops x) env (g env) := Agr.loc hwe hg hW' hyx
  refine h2 (g env) s' K hag2 (fun hx1 => ?_) ?_
  · rcases hcx with h3 | ⟨_, h3⟩
    · have := Nat.eq_of_beq_eq_true h3; omega
    · exact hle (Nat.le_of_ble_eq_true h3)
  · rw [hf.comm hg (fun t ht ht' => disjL_spec hdis t (hW t ht) (hW' t ht'))]
    exact hK

theorem aopG_wf {ops : List Oper} {o : Oper} {s : Store} {K : Cont} (hc : calm H o = true) (hwe : wfE H env) (h : aopG P H true ops o env s K) :
    aopG P H true ops o env s fun e s => wfE H e ∧ K e s :=
  aopG_mono hc ⟨fun _ _ => rfl, fun _ _ _ _ _ => rfl⟩ h fun g W s' _ _ hwg _ hK => ⟨hwg _ hwe, hK⟩

theorem aopG_weaken {qc : Bool} {ops : List Oper} {o : Oper} {s : Store} {K K' : Cont} (h : aopG P H qc ops o env s K) (hc : qc = true) (hk : calm H o = true) (hK : ∀ e s, K e s → K' e s) : aopG P H qc ops o env s K' := by
  subst hc
  exact aopG_mono hk ⟨fun _ _ => rfl, fun _ _ _ _ _ => rfl⟩ h fun g W s' _ _ _ _ h => hK _ _ h

/-- one that all ahead of it let by comes first -/
theorem front {ops : List Oper} {i : Nat} {oi : Oper} (hi : ops[i]? = some oi) : ∀ (l1 : List Nat) (l2 : List Nat) {env : Env} {s : Store} {K : Cont}, wfE H env →
    (∀ x ∈ l1, ∃ ox, ops[x]? = some ox ∧ comm H ops ox oi = true) → aopsI P H true ops (l1 ++ i :: l2) env s K → aopsI P H true ops (i :: (l1 ++ l2)) env s K
  | [], l2, env, s, K, hwe, hl, h => h
  | x :: l1, l2, env, s, K, hwe, hl, h => by
    obtain ⟨ox, hx, hcx⟩ := hl x (by simp)
    have hcalmx : calm H ox = true := by
      unfold comm at hcx
      simp only [Bool.and_eq_true, Bool.or_eq_true] at hcx
      unfold calm
      rcases hcx.1.1.1.1 with h1 | ⟨h1, _⟩ <;> rw [Nat.eq_of_beq_eq_true h1] <;> rfl
    simp only [List.cons_append, aopsI, hx] at h
    have h1 := aopG_weaken (aopG_wf hcalmx hwe h) rfl hcalmx fun e s ⟨hw, hk⟩ => front hi l1 l2 hw (fun y hy => hl y (by simp [hy])) hk
    simp only [aopsI, hi] at h1
    have h2 := swap hwe hcx h1
    simp only [List.cons_append, aopsI, hi, hx]
    exact h2

end
end Go.Proofs.YtdeondiigpidnaaGreat.Ab
end

section
set_option linter.unusedVariables false
set_option linter.unusedSimpArgs false
/- Regions that draw their order. -/
namespace Go.Proofs.YtdeondiigpidnaaGreat.Ab
open Go
set_option linter.unusedSectionVars false
variable [Fwd]
set_option linter.unusedVariables false
set_option linter.unusedSimpArgs false

/-- the operations that an operation must wait for, in one number: at first hand -/
def afterMask (o : Oper) : Nat := o.after.toList.foldl (fun m e => bif Region.binds .any e then m ||| (1 <<< e.on) else m) 0
def isAfter (o : Oper) (y : Nat) : Bool := o.after.toList.any fun e => Region.binds .any e && Nat.beq e.on y
def reaches (ops : List Oper) : Nat → Nat → Nat → Bool
  | 0, _, _ => false
  | f + 1, x, y => match ops[y]? with
    | some o => o.after.toList.any fun e => Region.binds .any e && (Nat.beq e.on x || reaches ops f x e.on)
    | none => false

def pairOK (H : Hints) (ops : List Oper) (ox : Oper) (x y : Nat) : Bool :=
  match ops[y]? with
  | some oy => !Nat.beq x y && !isAfter ox y && (comm H ops ox oy || reaches ops 8 x y)
  | none => false
def pairsOK (H : Hints) (ops : List Oper) : List Nat → Bool
  | [] => true
  | x :: r => (match ops[x]? with
    | some ox => (ox.after.toList.all fun e => Nat.blt e.on ops.length && !Nat.beq e.on x) && r.all (pairOK H ops ox x)
    | none => false) && pairsOK H ops r
def okOrder (H : Hints) (ops : List Oper) (l : List Nat) : Bool :=
  pairsOK H ops l && (List.range ops.length).all fun i => mem i l

section
variable {P : Program} {H : Hints} {c0 c : Ctx} {env : Env} {a : Act} {K : Cont} {Q : Exit → Act → World → Prop}

theorem RelC.wfE (hr : RelC H c0 c env a) : wfE H env := by
  intro t k off ht
  obtain ⟨blk, hb⟩ := hr.envs
  have := hb.slot t
  rw [ht] at this
  exact this.2

/-- what all must come ahead is listed when a ready one is -/
structure Inv (ops : Array Oper) (listed : Array Bool) (rem : List Nat) : Prop where
  size : listed.size = ops.size
  closed : ∀ z o, ops[z]? = some o → listed.getD z false = true → ∀ e ∈ o.after, Region.binds .any e = true → listed.getD e.on false = true
  un : ∀ i, i < ops.size → (i ∈ rem ↔ listed.getD i false = false)
  lt : ∀ i ∈ rem, i < ops.size

theorem reaches_listed {ops : Array Oper} {listed : Array Bool} {rem : List Nat} (hI : Inv ops listed rem) : ∀ (f x y : Nat) (o : Oper), ops[y]? = some o →
    (∀ e ∈ o.after, Region.binds .any e = true → listed.getD e.on false = true) → reaches ops.toList f x y = true → listed.getD x false = true
  | 0, x, y, o, hy, hall, h => by simp [reaches] at h
  | f + 1, x, y, o, hy, hall, h => by
    unfold reaches at h
    have hy' : ops.toList[y]? = some o := by simpa using hy
    rw [hy'] at h
    simp only at h
    obtain ⟨e, he, h1⟩ := List.any_eq_true.1 h
    simp only [Bool.and_eq_true, Bool.or_eq_true] at h1
    have hl := hall e (by simpa using he) h1.1
    rcases h1.2 with h2 | h2
    · rw [← Nat.eq_of_beq_eq_true h2]; exact hl
    · have hlt : e.on < ops.size := by
        rcases Nat.lt_or_ge e.on listed.size with h3 | h3
        · rw [hI.size] at h3; exact h3
        · simp [Array.getElem?_eq_none h3] at hl
      exact reaches_listed hI f x e.on ops[e.on] (Array.getElem?_eq_getElem hlt) (hI.closed e.on _ (Array.getElem?_eq_getElem hlt) hl) h2

theorem pairsOK_split {ops : List Oper} {i : Nat} : ∀ (l1 l2 : List Nat), pairsOK H ops (l1 ++ i :: l2) = true →
    pairsOK H ops (l1 ++ l2) = true ∧ (i ∉ l1) ∧ (i ∉ l2) ∧ ∀ x ∈ l1, ∃ ox oi, ops[x]? = some ox ∧ ops[i]? = some oi ∧ (comm H ops ox oi = true ∨ reaches ops 8 x i = true)
  | [], l2, h => by
    simp only [List.nil_append, pairsOK, Bool.and_eq_true] at h
    refine ⟨h.2, by simp, fun hi => ?_, by simp⟩
    have h1 := h.1
    split at h1
    · simp only [Bool.and_eq_true] at h1
      have h2 := List.all_eq_true.1 h1.2 i hi
      unfold pairOK at h2
      split at h2
      · simp at h2
      · cases h2
    · cases h1
  | x :: l1, l2, h => by
    simp only [List.cons_append, pairsOK, Bool.and_eq_true] at h
    obtain ⟨ih1, ih2, ih3, ih4⟩ := pairsOK_split l1 l2 h.2
    have h1 := h.1
    cases hx : ops[x]? with
    | none => rw [hx] at h1; cases h1
    | some ox =>
      rw [hx] at h1
      simp only [Bool.and_eq_true] at h1
      have hall := List.all_eq_true.1 h1.2
      have hi := hall i (by simp)
      unfold pairOK at hi
      cases ho : ops[i]? with
      | none => rw [ho] at hi; cases hi
      | some oi =>
        rw [ho] at hi
        simp only [Bool.and_eq_true, Bool.or_eq_true, Bool.not_eq_true'] at hi
        have hne : x ≠ i := fun e => by subst e; simp at hi
        refine ⟨?_, fun h => ?_, ih3, fun y hy => ?_⟩
        · simp only [List.cons_append, pairsOK, hx, Bool.and_eq_true]
          refine ⟨⟨h1.1, List.all_eq_true.2 fun y hy => hall y ?_⟩, ih1⟩
          simp only [List.mem_append] at hy
          rcases hy with hy | hy <;> simp [hy]
        · rcases List.mem_cons.1 h with h | h
          · exact hne h.symm
          · exact ih2 h
        · rcases List.mem_cons.1 hy with rfl | hy
          · exact ⟨ox, oi, hx, rfl, hi.2⟩
          · obtain ⟨oy, oi', h3, h4, h5⟩ := ih4 y hy
            rw [ho] at h4; cases h4
            exact ⟨oy, oi, h3, rfl, h5⟩

theorem getD_set_self {listed : Array Bool} {i : Nat} (h : i < listed.size) (d : Bool) : (listed.setIfInBounds i true).getD i d = true := by
  simp [h]

theorem any_sound {ops : Array Oper} : ∀ (rem : List Nat) (listed : Array Bool) {c : Ctx} {env : Env} {a : Act}, Inv ops listed rem → pairsOK H ops.toList rem = true →
    RelC H c0 c env a → aopsI P H true ops.toList rem env c.s K → (∀ a w, Next H c0 K a w → Q .normal a w) → wpAny P .any ops Q rem.length listed a c.w := by
  intro rem
  generalize hn : rem.length = n
  induction n generalizing rem with
  | zero =>
    intro listed c env a hI hp hr h hq
    cases rem with
    | cons x r => simp at hn
    | nil =>
      refine ⟨?_, hq _ _ ⟨_, _, h, c, rfl, rfl, hr⟩⟩
      rw [List.eq_nil_iff_forall_not_mem]
      intro i hi
      obtain ⟨h1, o, ho, _⟩ := mem_ready.1 hi
      have hlt : i < ops.size := (Array.getElem?_eq_some_iff.1 ho).1
      have : i ∈ ([] : List Nat) := (hI.un i hlt).2 (by
        have : i < listed.size := by rw [hI.size]; exact hlt
        simpa [this] using h1)
      cases this
  | succ n ih =>
    intro listed c env a hI hp hr h hq
    refine ⟨fun hnil => ?_, fun i hi => ?_⟩
    · exfalso
      cases rem with
      | nil => simp at hn
      | cons x r =>
        have hlt := hI.lt x (by simp)
        have hun := (hI.un x hlt).1 (by simp)
        have : x ∈ Region.ready .any ops listed := by
          refine mem_ready.2 ⟨?_, ops[x], Array.getElem?_eq_getElem hlt, fun e he hb => ?_⟩
          · have : x < listed.size := by rw [hI.size]; exact hlt
            simpa [this] using hun
          · simp only [pairsOK, Bool.and_eq_true] at hp
            have h1 := hp.1
            have hx : ops.toList[x]? = some ops[x] := by simp [hlt]
            rw [hx] at h1
            simp only [Bool.and_eq_true] at h1
            have hel : e.on < ops.size := by
              have := List.all_eq_true.1 h1.1 e (by simpa using he)
              simp only [Bool.and_eq_true] at this
              have := Nat.lt_of_lt_of_le (Nat.lt_succ_self _) (Nat.le_of_ble_eq_true this.1)
              simpa using this
            cases hl : listed.getD e.on false with
            | true => rfl
            | false =>
              exfalso
              have hm := (hI.un e.on hel).2 hl
              have haft : isAfter ops[x] e.on = true := by
                unfold isAfter
                refine List.any_eq_true.2 ⟨e, by simpa using he, by simp [hb]⟩
              rcases List.mem_cons.1 hm with hm | hm
              · have h2 := List.all_eq_true.1 h1.1 e (by simpa using he)
                rw [hm] at h2
                simp at h2
              · have h2 := List.all_eq_true.1 h1.2 e.on hm
                unfold pairOK at h2
                split at h2
                · simp [haft] at h2
                · cases h2
        rw [hnil] at this
        cases this
    · obtain ⟨h1, o, ho, hall⟩ := mem_ready.1 hi
      have hlt : i < ops.size := (Array.getElem?_eq_some_iff.1 ho).1
      have hll : i < listed.size := by rw [hI.size]; exact hlt
      have hun : listed.getD i false = false := by simpa [hll] using h1
      obtain ⟨l1, l2, rfl⟩ := List.append_of_mem ((hI.un i hlt).2 hun)
      obtain ⟨hp1, hn1, hn2, hx⟩ := pairsOK_split l1 l2 hp
      have hoi : ops.toList[i]? = some o := by simpa using ho
      have hf := front hoi l1 l2 hr.wfE (fun x hxm => by
        obtain ⟨ox, oi, h3, h4, h5⟩ := hx x hxm
        rw [hoi] at h4; cases h4
        rcases h5 with h5 | h5
        · exact ⟨ox, h3, h5⟩
        · have h6 := reaches_listed hI 8 x i o ho hall h5
          have h7 := (hI.un x (hI.lt x (by simp [hxm]))).1 (by simp [hxm])
          rw [h6] at h7; cases h7) h
      simp only [aopsI, hoi] at hf
      refine wpOp_mono ?_ (aopG_sound hr ho hf)
      rintro a' w' ⟨env', s', hk, c', rfl, rfl, hr'⟩
      refine ih (l1 ++ l2) (by simp at hn ⊢; omega) _ ⟨?_, ?_, ?_, ?_⟩ hp1 hr' hk hq
      · simp [hI.size]
      · intro z oz hz hl e he hb
        by_cases hzi : z = i
        · subst hzi
          rw [ho] at hz; cases hz
          exact getD_set_true (hall e he hb)
        · rw [getD_set_ne false (Ne.symm hzi)] at hl
          exact getD_set_true (hI.closed z oz hz hl e he hb)
      · intro j hj
        by_cases hji : j = i
        · subst hji
          rw [getD_set_self hll]
          simp [hn1, hn2]
        · rw [getD_set_ne false (Ne.symm hji), ← hI.un j hj]
          simp [hji]
      · intro j hj
        refine hI.lt j ?_
        simp only [List.mem_append] at hj
        rcases hj with hj | hj <;> simp [hj]

end
end Go.Proofs.YtdeondiigpidnaaGreat.Ab
end

section
set_option linter.unusedVariables false
set_option linter.unusedSimpArgs false
/- What code may turn, and what may come of it. -/
namespace Go.Proofs.YtdeondiigpidnaaGreat.Ab
open Go
set_option linter.unusedSectionVars false
variable [Fwd]
set_option linter.unusedVariables false
set_option linter.unusedSimpArgs false

section
variable {P : Program} {H : Hints} {env : Env}

theorem Det.mono {α : Type} {p : α → Prop} {F : (α → Prop) → Prop} (hF : Det p F) {K K' : α → Prop} (h : F K) (hk : ∀ x, K x → K' x) : F K' := by
  obtain ⟨v, _, h1, h2⟩ := hF _ h
  exact h2 _ (hk _ h1)

theorem outR_mono {qc : Bool} {d : Option Nat} {op : Op} {s : Store} {K K' : Slot → Prop} (h : outR P H qc d op env s K) (hk : ∀ x, K x → K' x) : outR P H qc d op env s K' := by
  by_cases hn : ∀ o T x y T', op = .binOp o T x y T' → isNilSlice y = false
  · obtain ⟨v, _, h1, h2⟩ := outR_det hn _ h
    exact h2 _ (hk _ h1)
  · cases op with
    | binOp o T x y T' =>
      unfold outR at h ⊢
      obtain ⟨xv, hx, h⟩ := get_some h
      obtain ⟨yv, hy, h⟩ := get_some h
      simp only [hx, hy, Ab.get]
      cases hop : opK P T with
      | none => simp only [hop] at h
      | some k =>
        simp only [hop] at h ⊢
        cases k with
        | num => exact Det.mono (.must _) h fun v => hk _
        | eq k => exact Det.mono (.must _) h fun v => hk _
        | sl =>
          cases hi : isNilSlice y with
          | false => rw [hi] at h; exact h.elim
          | true =>
            rw [hi] at h
            simp only [cond_true] at h ⊢
            have hc : ∀ b, (cmpB o b fun v => K (.v v)) → cmpB o b fun v => K' (.v v) := by
              intro b; cases o <;> simp only [cmpB] <;> first | exact hk _ | exact id
            unfold nilEq at h ⊢
            cases xv with
            | sl l c => exact ⟨fun hl => hc _ (h.1 hl), fun hl b => hc _ (h.2 hl b)⟩
            | vw i s f l => exact ⟨fun hl => hc _ (h.1 hl), fun hl b => hc _ (h.2 hl b)⟩
            | _ => exact h.elim
        | agg =>
          obtain ⟨ks, hks, h⟩ := get_some h
          simp only [hks, Ab.get]
          obtain ⟨a, b, h1, h2, h3, h4, h5⟩ := h
          refine ⟨a, b, h1, h2, h3, h4, ?_⟩
          revert h5
          cases o <;> simp only [cmpB] <;> first | exact hk _ | exact id
    | _ => exact absurd (fun _ _ _ _ _ h => nomatch h) hn

theorem put_frame {o : Oper} {e : Env} {x : Slot} {i : Nat} (hi : i ∉ asgOp H o) : put H e o.dst x i = e i := by
  unfold asgOp at hi
  cases hd : o.dst with
  | none => rfl
  | some d =>
    rw [hd] at hi
    have : i ≠ d := fun h => hi (by simp [h])
    unfold Ab.put
    simp only
    cases hb : Nat.blt d H.n <;> simp only [hb, cond_true, cond_false, set_ne _ _ this]

theorem junk_frame {o : Oper} {e : Env} {d : Nat} {x : Slot} {i : Nat} (hd : o.dst = some d) (hi : i ∉ asgOp H o) : set (junkAll e (H.lr d)) d x i = e i := by
  unfold asgOp at hi
  rw [hd] at hi
  simp only [List.cons_append, List.mem_cons, List.mem_append, not_or] at hi
  rw [set_ne _ _ hi.1, junkAll_apply]
  simp [hi.2.1]

theorem aopR_all {qc : Bool} {o : Oper} {s : Store} {R R' : RCont} (h : aopR P H qc o env s R)
    (hR : ∀ f s', (∀ e i, i ∉ asgOp H o → f e i = e i) → R f s' → R' f s') : aopR P H qc o env s R' := by
  have hput : ∀ {x : Slot} {s' : Store}, R (fun env => put H env o.dst x) s' → R' (fun env => put H env o.dst x) s' := fun h => hR _ _ (fun e i hi => put_frame hi) h
  have newv : ∀ {cs : List V}, newVarR H o.dst cs s R → newVarR H o.dst cs s R' := by
    intro cs hn
    unfold newVarR at hn ⊢
    cases hd : o.dst with
    | none => rw [hd] at hn; exact hn.elim
    | some d =>
      rw [hd] at hn
      simp only at hn ⊢
      cases hb : Nat.blt d H.n with
      | false => simp [hb] at hn
      | true =>
        simp only [hb, cond_true] at hn ⊢
        cases he : H.esc d with
        | true =>
          simp only [he, cond_true] at hn ⊢
          rw [← hd] at hn ⊢
          exact fun id hid => hput (hn id hid)
        | false =>
          simp only [he, cond_false] at hn ⊢
          exact hR _ _ (fun e i hi => junk_frame hd hi) hn
  have out : ∀ {op : Op}, outR P H qc o.dst op env s (fun x => R (fun env => put H env o.dst x) s) → outR P H qc o.dst op env s (fun x => R' (fun env => put H env o.dst x) s) :=
    fun h => outR_mono h fun x hx => hput hx
  unfold aopR at h ⊢
  cases hop : o.op with
  | alloc T =>
    rw [hop] at h
    obtain ⟨z, hz, h⟩ := get_some h
    simp only [hz, Ab.get]
    exact newv h
  | box T x =>
    rw [hop] at h
    obtain ⟨n, hn, h⟩ := get_some h
    obtain ⟨z, hz, hf, h⟩ := get_some h
    simp only [hn, hz, Ab.get]
    exact ⟨hf, newv h⟩
  | store T y z =>
    rw [hop] at h
    obtain ⟨n, hn, h⟩ := get_some h
    obtain ⟨x, hx, h⟩ := get_some h
    simp only [hn, hx, Ab.get]
    unfold storeOpR at h ⊢
    have two : ∀ {b : Nat} {cs : List V} {e : Env} {i : Nat}, ((∃ t, y = .tmp t ∧ (b = t ∨ (b < H.n ∧ mem t (H.lr b) = true)))) → i ∉ asgOp H o → put H (set e b (.box cs)) o.dst .undef i = e i := by
      rintro b cs e i ⟨t, rfl, hb⟩ hi
      rw [put_frame hi, set_ne]
      rintro rfl
      apply hi
      unfold asgOp
      rw [hop]
      rcases hb with rfl | ⟨h1, h2⟩
      · simp
      · simp [h1, h2]
    cases hy : slotOf env y with
    | box cs =>
      rw [hy] at h
      cases y with
      | tmp t =>
        simp only at h ⊢
        exact ⟨h.1, h.2.1, hR _ _ (fun e i hi => two ⟨t, rfl, .inl rfl⟩ hi) h.2.2⟩
      | _ => exact h.elim
    | ref b off =>
      rw [hy] at h
      simp only at h ⊢
      cases hri : refIn H y b with
      | false => rw [hri] at h; exact h.elim
      | true =>
        rw [hri, cond_true] at h
        rw [cond_true]
        cases hb : env b with
        | box cs =>
          simp only [hb] at h ⊢
          refine ⟨h.1, h.2.1, hR _ _ (fun e i hi => two ?_ hi) h.2.2⟩
          unfold refIn at hri
          cases y with
          | tmp t =>
            simp only [Bool.and_eq_true] at hri
            exact ⟨t, rfl, .inr ⟨Nat.lt_of_lt_of_le (Nat.lt_succ_self _) (Nat.le_of_ble_eq_true hri.1), hri.2⟩⟩
          | _ => cases hri
        | _ => simp only [hb] at h
    | v p =>
      rw [hy] at h
      simp only at h ⊢
      obtain ⟨id, off, h1, h2, h⟩ := h
      refine ⟨id, off, h1, h2, ?_⟩
      rcases h with ⟨cs, h3, h4, h5⟩ | ⟨sz, l, l', h3, h4, h5, h6, h7, h8⟩
      · exact .inl ⟨cs, h3, h4, hput h5⟩
      · exact .inr ⟨sz, l, l', h3, h4, h5, h6, h7, hput h8⟩
    | elt y' off => rw [hy] at h; cases y <;> exact h.elim
    | junk => rw [hy] at h; cases y <;> exact h.elim
    | undef => rw [hy] at h; cases y <;> exact h.elim
  | range T x =>
    rw [hop] at h
    obtain ⟨v, h1, h⟩ := get_some h
    simp only [h1, Ab.get]
    unfold arange at h ⊢
    revert h
    split
    · rintro ⟨id, l, h2, h3, h4⟩
      exact ⟨id, l, h2, h3, fun it hit => hput (h4 it hit)⟩
    · exact id
  | next x str =>
    rw [hop] at h
    obtain ⟨v, h1, h⟩ := get_some h
    simp only [h1, Ab.get]
    cases str with
    | true => exact h.elim
    | false =>
      obtain ⟨i, m, cur, left, l, h2, h3, h4, h5, h6⟩ := h
      exact ⟨i, m, cur, left, l, h2, h3, h4, fun he => hput (h5 he), fun a x b he => hput (h6 a x b he)⟩
  | entry x =>
    rw [hop] at h
    obtain ⟨v, h1, i, m, y, left, l, h2, h3, h4, h5⟩ := get_some h
    simp only [h1, Ab.get]
    exact ⟨i, m, y, left, l, h2, h3, h4, hput h5⟩
  | makeMap T r =>
    rw [hop] at h
    cases r with
    | some r => exact h.elim
    | none => exact fun id hid => hput (h id hid)
  | mapUpdate T x y z =>
    rw [hop] at h
    obtain ⟨_, h1, h⟩ := get_some h
    obtain ⟨_, h2, h⟩ := get_some h
    obtain ⟨_, h3, h⟩ := get_some h
    obtain ⟨_, h4, id, l, h5, h6, h7, h8, h9⟩ := get_some h
    simp only [h1, h2, h3, h4, Ab.get]
    exact ⟨id, l, h5, h6, h7, h8, hput h9⟩
  | insert T x y z =>
    rw [hop] at h
    obtain ⟨_, h1, h⟩ := get_some h
    obtain ⟨_, h2, h⟩ := get_some h
    obtain ⟨_, h3, h⟩ := get_some h
    obtain ⟨_, h4, id, l, h5, h6, h7, h8, h9⟩ := get_some h
    simp only [h1, h2, h3, h4, Ab.get]
    exact ⟨id, l, h5, h6, h7, h8, hput h9⟩
  | call c =>
    rw [hop] at h
    cases hcl : c.callee with
    | value f =>
      simp only [hcl] at h ⊢
      cases f with
      | func f =>
        obtain ⟨args, ha, h⟩ := get_some h
        simp only [ha, Ab.get]
        cases hq : qc && H.quiet f with
        | true =>
          simp only [hq, cond_true] at h ⊢
          exact h.mono fun r s' ⟨h1, h2⟩ => ⟨h1, hput h2⟩
        | false =>
          simp only [hq, cond_false] at h ⊢
          exact h.mono fun r s' h2 => hput h2
      | tmp t =>
        obtain ⟨args, ha, h⟩ := get_some h
        obtain ⟨f, hf, g, u, v, h1, h2⟩ := get_some h
        simp only [ha, hf, Ab.get]
        exact ⟨g, u, v, h1, h2.mono fun r s' h2 => hput h2⟩
      | const t =>
        obtain ⟨args, ha, h⟩ := get_some h
        obtain ⟨f, hf, g, u, v, h1, h2⟩ := get_some h
        simp only [ha, hf, Ab.get]
        exact ⟨g, u, v, h1, h2.mono fun r s' h2 => hput h2⟩
      | global t =>
        obtain ⟨args, ha, h⟩ := get_some h
        obtain ⟨f, hf, g, u, v, h1, h2⟩ := get_some h
        simp only [ha, hf, Ab.get]
        exact ⟨g, u, v, h1, h2.mono fun r s' h2 => hput h2⟩
    | invoke r n => simp only [hcl] at h
    | builtin b =>
      cases b with
      | append =>
        simp only [hcl] at h ⊢
        obtain ⟨args, ha, h⟩ := get_some h
        simp only [ha, Ab.get]
        split at h
        · rename_i xv yv T0 T1 heq0
          obtain ⟨e, h1, h⟩ := get_some h
          obtain ⟨e', h2, h⟩ := get_some h
          obtain ⟨sz, h3, h⟩ := get_some h
          obtain ⟨by', h4, h⟩ := get_some h
          obtain ⟨z, h5, h⟩ := get_some h
          simp only [h1, h2, h3, h4, h5, Ab.get]
          revert h
          cases hc : (by'.ble 8192 && z.cells.length.beq sz) with
          | true =>
            simp only [cond_true]
            intro h
            obtain ⟨l, l', a1, a2, a3, a4, a5, a6⟩ := h
            refine ⟨l, l', a1, a2, a3, a4, a5, ?_⟩
            cases xv with
            | sl l1 c =>
              obtain ⟨a6, a7⟩ := a6
              refine ⟨fun h => hput (a6 h), fun h => ?_⟩
              obtain ⟨b1, b2, b3⟩ := a7 h
              exact ⟨fun hc t ht => hput (b1 hc t ht), fun t ht => ⟨(b2 t ht).1, fun t' ht' => hput ((b2 t ht).2 t' ht')⟩, b3⟩
            | vw i s f n =>
              obtain ⟨b1, b2, b3, b4⟩ := a6
              exact ⟨b1, b2, fun h => hput (b3 h), fun h id hid => hput (b4 h id hid)⟩
            | _ => exact a6.elim
          | false => exact fun h => h.elim
        · exact h.elim
      | delete =>
        simp only [hcl] at h ⊢
        obtain ⟨args, ha, h⟩ := get_some h
        simp only [ha, Ab.get]
        split at h
        · obtain ⟨_, h1, id, l, h5, h6, h7, h8, h9⟩ := get_some h
          simp only [h1, Ab.get]
          exact ⟨id, l, h5, h6, h7, h8, hput h9⟩
        · exact h.elim
      | _ => simp only [hcl] at h ⊢; exact out h
  | _ => rw [hop] at h; exact out h

end
end Go.Proofs.YtdeondiigpidnaaGreat.Ab
end

section
set_option linter.unusedVariables false
set_option linter.unusedSimpArgs false
/- What code may turn: the whole code. -/
namespace Go.Proofs.YtdeondiigpidnaaGreat.Ab
open Go
set_option linter.unusedSectionVars false
variable [Fwd]
set_option linter.unusedVariables false
set_option linter.unusedSimpArgs false

section
variable {P : Program} {H : Hints} {env : Env}

theorem aopG_all {qc : Bool} {ops : List Oper} {o : Oper} {s : Store} {K K' : Cont} (h : aopG P H qc ops o env s K)
    (hK : ∀ e s', (∀ i, i ∉ asgOp H o → e i = env i) → K e s' → K' e s') : aopG P H qc ops o env s K' := by
  have run : aop P H qc o env s K → aop P H qc o env s K' := fun h => aopR_all h fun f s' hf hk => hK _ _ (fun i hi => hf env i hi) hk
  have skip : K (put H env o.dst .undef) s → K' (put H env o.dst .undef) s := fun hk => hK _ _ (fun i hi => put_frame hi) hk
  rcases aopG_cases h with ⟨hg, h⟩ | ⟨j, want, d, hg, hd, h⟩
  · exact aopG_of (.inl ⟨hg, run h⟩)
  · refine aopG_of (.inr ⟨j, want, d, hg, hd, ?_⟩)
    rcases h with ⟨he, h⟩ | ⟨he, h⟩ | ⟨he, h⟩
    · exact .inl ⟨he, skip h⟩
    · exact .inr (.inl ⟨he, run h⟩)
    · exact .inr (.inr ⟨he, skip h⟩)

theorem asgOps_mem {ops : List Oper} {o : Oper} (h : o ∈ ops) {i : Nat} (hi : i ∈ asgOp H o) : i ∈ asgOps H ops := by
  induction ops with
  | nil => cases h
  | cons x r ih =>
    simp only [asgOps, List.mem_append]
    rcases List.mem_cons.1 h with rfl | h
    · exact .inl hi
    · exact .inr (ih h)

theorem aops_all {qc : Bool} {ops : List Oper} {A : List Nat} : ∀ (l : List Oper) {env : Env} {s : Store} {K K' : Cont}, (∀ o ∈ l, ∀ i ∈ asgOp H o, i ∈ A) → aops P H qc ops l env s K →
    (∀ e s', (∀ i, i ∉ A → e i = env i) → K e s' → K' e s') → aops P H qc ops l env s K'
  | [], env, s, K, K', hA, h, hK => hK _ _ (fun _ _ => rfl) h
  | o :: r, env, s, K, K', hA, h, hK => by
    unfold aops at h ⊢
    refine aopG_all h fun e s' he hk => aops_all r (fun o ho => hA o (by simp [ho])) hk fun e' s'' he' hk' => hK _ _ (fun i hi => ?_) hk'
    rw [he' i hi, he i fun h => hi (hA o (by simp) i h)]

theorem pick_mem {ops : List Oper} : ∀ {l : List Nat} {o : Oper}, o ∈ Ab.pick ops l → o ∈ ops
  | [], o, h => by cases h
  | i :: r, o, h => by
    unfold Ab.pick at h
    split at h
    · rename_i o' ho
      rcases List.mem_cons.1 h with rfl | h
      · exact List.mem_of_getElem? ho
      · exact pick_mem h
    · exact pick_mem h

theorem ordered_mem {id : Nat} {ops : List Oper} {o : Oper} (h : o ∈ ordered H id ops) : o ∈ ops := by
  unfold ordered at h
  split at h
  · exact h
  · exact pick_mem h

theorem setVs_base {env env' : Env} {vs : List V} : ∀ {cl : List Nat} {i : Nat} {t : Nat}, t ∈ cl → setVs H env vs cl i t = setVs H env' vs cl i t
  | [], i, t, h => by cases h
  | u :: r, i, t, h => by
    simp only [setVs]
    by_cases htu : t = u
    · subst htu; rw [set_same, set_same]
    · rw [set_ne _ _ htu, set_ne _ _ htu]
      exact setVs_base ((List.mem_cons.1 h).resolve_left htu)

theorem setVs_ne {env : Env} {vs : List V} : ∀ {cl : List Nat} {i : Nat} {t : Nat}, t ∉ cl → setVs H env vs cl i t = env t
  | [], i, t, h => rfl
  | u :: r, i, t, h => by
    simp only [List.mem_cons, not_or] at h
    simp only [setVs]
    rw [set_ne _ _ h.1, setVs_ne h.2]

theorem getVs_spec {env' : Env} : ∀ (cl : List Nat) (K : List V → Prop), getVs H env' cl K → ∃ vs, K vs ∧ (∀ K2 : List V → Prop, K2 vs → getVs H env' cl K2) ∧
    ∀ (pre : List V) (base : Env) (t : Nat), t ∈ cl → setVs H base (pre ++ vs) cl pre.length t = env' t
  | [], K, h => ⟨[], h, fun _ h => h, fun _ _ _ ht => by cases ht⟩
  | u :: r, K, h => by
    unfold getVs at h
    have one : ∃ v, getVs H env' r (fun vs => K (v :: vs)) ∧ (∀ K2 : V → Prop, K2 v → getV H env' u K2) ∧ (bif H.bx u then Slot.box v.cells else .v v) = env' u := by
      unfold getV at h ⊢
      cases hb : H.bx u <;> cases he : env' u <;> simp only [hb, he] at h ⊢
      · exact ⟨_, h, fun _ h => h, rfl⟩
      · exact ⟨_, h, fun _ h => h, rfl⟩
    obtain ⟨v, h1, h2, h3⟩ := one
    obtain ⟨vs, h4, h5, h6⟩ := getVs_spec r _ h1
    refine ⟨v :: vs, h4, fun K2 hk => ?_, fun pre base t ht => ?_⟩
    · unfold getVs; exact h2 _ (h5 _ hk)
    · simp only [setVs]
      by_cases htu : t = u
      · subst htu
        rw [set_same]
        have : nth (pre ++ v :: vs) pre.length = v := by simp [nth]
        rw [this]; exact h3
      · rw [set_ne _ _ htu]
        have := h6 (pre ++ [v]) base t ((List.mem_cons.1 ht).resolve_left htu)
        simpa using this

/-- where ways meet, every slot that is told is as it was found -/
theorem headEnv_of {env env' : Env} {A cl : List Nat} {vs : List V} (hv : ∀ (base : Env) (t : Nat), t ∈ cl → setVs H base vs cl 0 t = env' t)
    (hA : ∀ i, i ∉ A → env' i = env i) (t : Nat) : (t ∈ cl → headEnv H env A cl vs t = env' t) ∧ (t ∉ A → headEnv H env A cl vs t = env' t) ∧
      (headEnv H env A cl vs t = .junk ∨ headEnv H env A cl vs t = env' t) := by
  have h1 : t ∈ cl → headEnv H env A cl vs t = env' t := fun ht => hv _ t ht
  have h2 : t ∉ cl → headEnv H env A cl vs t = bif mem t A then .junk else env t := fun ht => by unfold headEnv; rw [setVs_ne ht]
  have h3 : t ∉ A → headEnv H env A cl vs t = env' t := fun ht => by
    by_cases hc : t ∈ cl
    · exact h1 hc
    · rw [h2 hc]
      have : mem t A = false := by
        cases hm : mem t A with
        | false => rfl
        | true => exact absurd (mem_iff.1 hm) ht
      rw [this, hA t ht]; rfl
  refine ⟨h1, h3, ?_⟩
  by_cases hc : t ∈ cl
  · exact .inr (h1 hc)
  · rw [h2 hc]
    cases hm : mem t A with
    | true => exact .inl rfl
    | false => right; rw [hA t fun h => by rw [mem_iff.2 h] at hm; cases hm]; rfl

/-- what may come of code: it turns its own slots alone -/
theorem awp_all : ∀ (code : Code) {Q Q' : Post} {env : Env} {s : Store}, awp P H code Q env s →
    (∀ e env' s', (∀ i, i ∉ asg H code → env' i = env i) → Q e env' s' → Q' e env' s') → awp P H code Q' env s
  | .skip, Q, Q', env, s, h, hq => hq _ _ _ (fun _ _ => rfl) h
  | .label _, Q, Q', env, s, h, hq => hq _ _ _ (fun _ _ => rfl) h
  | .exit _, Q, Q', env, s, h, hq => hq _ _ _ (fun _ _ => rfl) h
  | .ret, Q, Q', env, s, h, hq => hq _ _ _ (fun _ _ => rfl) h
  | .goto _, Q, Q', env, s, h, hq => h.elim
  | .rangeFunc _ _ _ _, Q, Q', env, s, h, hq => h.elim
  | .region id ops draw, Q, Q', env, s, h, hq => by
    unfold awp at h ⊢
    cases draw with
    | true =>
      simp only [cond_true] at h ⊢
      exact aops_all _ (fun o ho i hi => asgOps_mem (ordered_mem ho) hi) h fun e s' he hk => hq _ _ _ he hk
    | false =>
      simp only [cond_false] at h ⊢
      exact aops_all _ (fun o ho i hi => asgOps_mem ho hi) h fun e s' he hk => hq _ _ _ he hk
  | .seq a b, Q, Q', env, s, h, hq => by
    have plain : awp P H a (thenQ (awp P H b Q) Q) env s → awp P H a (thenQ (awp P H b Q') Q') env s := fun h =>
      awp_all a h fun e env' s' he hk => by
        cases e with
        | normal =>
          refine awp_all b hk fun e env'' s'' he' hk' => hq _ _ _ (fun i hi => ?_) hk'
          simp only [asg, List.mem_append, not_or] at hi
          rw [he' i hi.2, he i hi.1]
        | exit id => exact hq _ _ _ (fun i hi => he i (by simp only [asg, List.mem_append, not_or] at hi; exact hi.1)) hk
        | ret => exact hq _ _ _ (fun i hi => he i (by simp only [asg, List.mem_append, not_or] at hi; exact hi.1)) hk
    unfold awp at h ⊢
    revert h
    cases orElse (firstR b) none with
    | none => exact plain
    | some j =>
      simp only
      cases H.join j with
      | none => exact plain
      | some cl =>
        simp only
        intro h
        refine awp_all a h fun e env' s' he hk => ?_
        cases e with
        | normal =>
          obtain ⟨vs, h1, h2, h3⟩ := getVs_spec cl _ hk
          refine h2 _ (awp_all b h1 fun e env'' s'' he' hk' => hq _ _ _ (fun i hi => ?_) hk')
          simp only [asg, List.mem_append, not_or] at hi
          rw [he' i hi.2, (headEnv_of (vs := vs) (fun base t ht => h3 [] base t ht) he i).2.1 hi.1, he i hi.1]
        | exit id => exact hq _ _ _ (fun i hi => he i (by simp only [asg, List.mem_append, not_or] at hi; exact hi.1)) hk
        | ret => exact hq _ _ _ (fun i hi => he i (by simp only [asg, List.mem_append, not_or] at hi; exact hi.1)) hk
  | .cond c a b, Q, Q', env, s, h, hq => by
    unfold awp at h ⊢
    obtain ⟨v, hv, h⟩ := get_some h
    simp only [hv, Ab.get]
    obtain ⟨t, rfl, h1, h2⟩ := gcond_bool h
    have ha := fun (h : awp P H a Q env s) => awp_all a (Q' := Q') h fun e env' s' he hk => hq _ _ _ (fun i hi => he i (by simp only [asg, List.mem_append, not_or] at hi; exact hi.1)) hk
    have hb := fun (h : awp P H b Q env s) => awp_all b (Q' := Q') h fun e env' s' he hk => hq _ _ _ (fun i hi => he i (by simp only [asg, List.mem_append, not_or] at hi; exact hi.2)) hk
    cases t with
    | true => exact ha (h1 rfl)
    | false => exact hb (h2 rfl)
  | .block id c, Q, Q', env, s, h, hq => by
    unfold awp at h ⊢
    refine awp_all c h fun e env' s' he hk => ?_
    cases e with
    | normal => exact hq _ _ _ he hk
    | ret => exact hq _ _ _ he hk
    | exit i =>
      simp only at hk ⊢
      cases hi : Nat.beq i id <;> simp only [hi, cond_true, cond_false] at hk ⊢ <;> exact hq _ _ _ he hk
  | .scope c, Q, Q', env, s, h, hq => by
    unfold awp at h ⊢
    exact awp_all c h fun e env' s' he hk => hq _ _ _ he hk
  | .loop c, Q, Q', env, s, h, hq => by
    unfold awp at h ⊢
    cases hf : firstR c with
    | none => rw [hf] at h; exact h.elim
    | some j =>
      rw [hf] at h
      simp only at h ⊢
      obtain ⟨vs, h1, h2, h3⟩ := getVs_spec _ _ h
      refine h2 _ fun X hX => ?_
      have hinv : ∀ i, i ∉ asg H c → headEnv H env (asg H c) (H.carry j) vs i = env i := fun i hi =>
        (headEnv_of (vs := vs) (fun base t ht => h3 [] base t ht) (fun _ _ => rfl) i).2.1 hi
      refine h1 (fun vs s => (∀ i, i ∉ asg H c → headEnv H env (asg H c) (H.carry j) vs i = env i) → X vs s) (fun vs s hF hinv => ?_) hinv
      refine hX _ _ (awp_all c hF fun e env' s' he hk => ?_)
      have he' : ∀ i, i ∉ asg H c → env' i = env i := fun i hi => (he i hi).trans (hinv i hi)
      cases e with
      | normal =>
        obtain ⟨vs', k1, k2, k3⟩ := getVs_spec _ _ hk
        refine k2 _ (k1 fun i hi => ?_)
        rw [(headEnv_of (vs := vs') (fun base t ht => k3 [] base t ht) he' i).2.1 hi, he' i hi]
      | exit id => exact hq _ _ _ he' hk
      | ret => exact hq _ _ _ he' hk

end
end Go.Proofs.YtdeondiigpidnaaGreat.Ab
end

section
set_option linter.unusedVariables false
set_option linter.unusedSimpArgs false
/- Soundness of code. -/
namespace Go.Proofs.YtdeondiigpidnaaGreat.Ab
open Go
set_option linter.unusedSectionVars false
variable [Fwd]
set_option linter.unusedVariables false
set_option linter.unusedSimpArgs false

def orderOf (H : Hints) (id : Nat) (ops : List Oper) : List Nat := match H.order id with | none => List.range ops.length | some l => l

def okCode (H : Hints) : Code → Bool
  | .region id ops draw => bif draw then Nat.beq (orderOf H id ops.toList).length ops.size && okOrder H ops.toList (orderOf H id ops.toList) else true
  | .seq a b => okCode H a && okCode H b
  | .cond _ a b => okCode H a && okCode H b
  | .block _ c => okCode H c
  | .loop c => okCode H c
  | .scope c => okCode H c
  | _ => true

def Wp (H : Hints) (c0 : Ctx) (Q : Post) : Exit → Act → World → Prop
  | .normal => Next H c0 (Q .normal)
  | .exit i => Next H c0 (Q (.exit i))
  | .ret => Next H c0 (Q .ret)
  | _ => fun _ _ => False

section
variable {P : Program} {H : Hints} {c0 c : Ctx} {env : Env} {a : Act} {K : Cont}

theorem Step.same {w' : World} (hR : R c) (h : w'.heap = c.w.heap) (ho : w'.os = c.w.os) (hp : Onw c.w w') : Step c0 c { c with w := w' } :=
  Step.of_evo hR (Evo.same h ho hp) (hR.same h) rfl

theorem RelC.weaken {env' : Env} (hr : RelC H c0 c env' a) (h : ∀ t, env t = .junk ∨ env t = env' t) : RelC H c0 c env a where
  nsub := hr.nsub
  nnew := hr.nnew
  r := hr.r
  evo := hr.evo
  envs := by
    obtain ⟨blk, h1, h2⟩ := hr.envs
    have key : ∀ t cs, env t = .box cs → env' t = .box cs := fun t cs ht => by
      rcases h t with h3 | h3
      · rw [ht] at h3; cases h3
      · rw [← h3]; exact ht
    refine ⟨blk, fun t => ?_, fun t t' cs cs' e e' => h2 t t' cs cs' (key _ _ e) (key _ _ e')⟩
    rcases h t with h3 | h3
    · rw [h3]; trivial
    · rw [h3]; exact h1 t
  defers := hr.defers
  size := hr.size

theorem draw_sound (hm : P.follows .mixedOrders = true) {id : Nat} {ops : Array Oper} {l : List Nat} {Q : Exit → Act → World → Prop}
    (hlen : l.length = ops.size) (hok : okOrder H ops.toList l = true) (hr : RelC H c0 c env a)
    (h : aopsI P H true ops.toList l env c.s K) (hq : ∀ a w, Next H c0 K a w → Q .normal a w) : (Code.region id ops true).wp P Q a c.w := by
  refine wp_region_any hm ?_
  have hr' := hr.step (Step.same (c0 := c0) (w' := { c.w with drawn := c.w.drawn + 1 }) hr.r rfl rfl ⟨rfl, rfl, fun _ => Nat.le_succ _⟩)
  unfold okOrder at hok
  rw [Bool.and_eq_true] at hok
  rw [← hlen]
  have hlt : ∀ (l : List Nat), pairsOK H ops.toList l = true → ∀ i ∈ l, i < ops.size := by
    intro l
    induction l with
    | nil => intro _ i hi; cases hi
    | cons x r ih =>
      intro hp i hi
      simp only [pairsOK, Bool.and_eq_true] at hp
      rcases List.mem_cons.1 hi with rfl | hi
      · cases ho : ops[i]? with
        | none => simp [ho] at hp
        | some o => exact (Array.getElem?_eq_some_iff.1 ho).1
      · exact ih hp.2 i hi
  refine any_sound l _ ⟨by simp [hlen], fun z o hz hl => ?_, fun i hi => ?_, hlt l hok.1⟩ hok.1 hr' h hq
  · exfalso
    rcases Nat.lt_or_ge z l.length with h1 | h1
    · simp [h1] at hl
    · simp [h1] at hl
  · have h1 := mem_iff.1 (List.all_eq_true.1 hok.2 i (by simpa using hi))
    simp [h1, hlen, hi]

theorem awp_sound (hm : P.follows .mixedOrders = true) : ∀ (code : Code) {Q : Post} {c : Ctx} {env : Env} {a : Act}, okCode H code = true → RelC H c0 c env a →
    awp P H code Q env c.s → code.wp P (Wp H c0 Q) a c.w
  | .skip, Q, c, env, a, ok, hr, h => wp_skip ⟨_, _, h, c, rfl, rfl, hr⟩
  | .label _, Q, c, env, a, ok, hr, h => wp_label ⟨_, _, h, c, rfl, rfl, hr⟩
  | .exit _, Q, c, env, a, ok, hr, h => wp_exit ⟨_, _, h, c, rfl, rfl, hr⟩
  | .ret, Q, c, env, a, ok, hr, h => wp_ret ⟨_, _, h, c, rfl, rfl, hr⟩
  | .goto _, Q, c, env, a, ok, hr, h => h.elim
  | .rangeFunc _ _ _ _, Q, c, env, a, ok, hr, h => h.elim
  | .region id ops draw, Q, c, env, a, ok, hr, h => by
    unfold awp at h
    cases draw with
    | false => exact region_sound hr h fun a w h => h
    | true =>
      simp only [cond_true, okCode, Bool.and_eq_true] at h ok
      refine draw_sound hm (Nat.eq_of_beq_eq_true ok.1) ok.2 hr (K := Q .normal) ?_ fun a w h => h
      rw [← aops_pick]
      unfold ordered at h
      unfold orderOf
      cases ho : H.order id with
      | none => rw [ho] at h; rw [pick_all]; exact h
      | some l => rw [ho] at h; exact h
  | .seq x y, Q, c, env, a, ok, hr, h => by
    simp only [okCode, Bool.and_eq_true] at ok
    have plain : awp P H x (thenQ (awp P H y Q) Q) env c.s → (Code.seq x y).wp P (Wp H c0 Q) a c.w := fun h => by
      refine wp_seq (wp_mono (awp_sound hm x ok.1 hr h) fun e a w he => ?_)
      cases e with
      | normal =>
        obtain ⟨env', s', hk, c', rfl, rfl, hr'⟩ := he
        exact awp_sound hm y ok.2 hr' hk
      | exit i => exact he
      | ret => exact he
      | _ => exact he.elim
    unfold awp at h
    revert h
    cases orElse (firstR y) none with
    | none => exact plain
    | some j =>
      simp only
      cases H.join j with
      | none => exact plain
      | some cl =>
        simp only
        intro h
        have h := awp_all x (Q' := fun e env' s' => (∀ i, i ∉ asg H x → env' i = env i) ∧ thenQ (fun env' s' => getVs H env' cl fun vs => awp P H y Q (headEnv H env (asg H x) cl vs) s') Q e env' s') h
          fun e env' s' he hk => ⟨he, hk⟩
        refine wp_seq (wp_mono (awp_sound hm x ok.1 hr h) fun e a w he => ?_)
        cases e with
        | normal =>
          obtain ⟨env', s', ⟨hf, hk⟩, c', rfl, rfl, hr'⟩ := he
          obtain ⟨vs, h1, h2, h3⟩ := getVs_spec cl _ hk
          exact awp_sound hm y ok.2 (hr'.weaken fun t => (headEnv_of (vs := vs) (fun base t ht => h3 [] base t ht) hf t).2.2) h1
        | exit i => obtain ⟨env', s', ⟨hf, hk⟩, hr'⟩ := he; exact ⟨env', s', hk, hr'⟩
        | ret => obtain ⟨env', s', ⟨hf, hk⟩, hr'⟩ := he; exact ⟨env', s', hk, hr'⟩
        | _ => exact he.elim
  | .cond x y z, Q, c, env, a, ok, hr, h => by
    simp only [okCode, Bool.and_eq_true] at ok
    unfold awp at h
    obtain ⟨v, hv, h⟩ := get_some h
    obtain ⟨t, rfl, h1, h2⟩ := gcond_bool h
    have hx := opnd_rep hr hv
    simp only [rep] at hx
    refine wp_cond_split hx (fun ht => ?_) (fun ht => ?_)
    · exact awp_sound hm y ok.1 hr (h1 ht)
    · exact awp_sound hm z ok.2 hr (h2 (by simp [ht]))
  | .block id x, Q, c, env, a, ok, hr, h => by
    unfold awp at h
    refine wp_block (wp_mono (awp_sound hm x ok hr h) fun e a w he => ?_)
    cases e with
    | normal => exact he
    | ret => exact he
    | exit i =>
      obtain ⟨env', s', hk, hr'⟩ := he
      unfold Exit.inBlock
      simp only at hk ⊢
      by_cases hi : i = id
      · subst hi
        simp only [if_true]
        exact ⟨env', s', by simpa using hk, hr'⟩
      · simp only [hi, if_false]
        have : Nat.beq i id = false := by
          cases hb : Nat.beq i id with
          | false => rfl
          | true => exact absurd (Nat.eq_of_beq_eq_true hb) hi
        rw [this] at hk
        exact ⟨env', s', hk, hr'⟩
    | _ => exact he.elim
  | .scope x, Q, c, env, a, ok, hr, h => by
    unfold awp at h
    refine wp_scope_straight (wp_mono (awp_sound hm x ok hr h) fun e a w he => ?_)
    cases e <;> first | exact he | exact he.elim
  | .loop x, Q, c, env, a, ok, hr, h => by
    unfold awp at h
    revert h
    cases firstR x with
    | none => exact fun h => h.elim
    | some j =>
      simp only
      intro h
      obtain ⟨vs, h1, h2, h3⟩ := getVs_spec _ _ h
      intro b k cs
      have key := h1 (fun vs s => ∀ (c : Ctx) (a : Act), c.s = s → RelC H c0 c (headEnv H env (asg H x) (H.carry j) vs) a → (∀ i, i ∉ asg H x → headEnv H env (asg H x) (H.carry j) vs i = env i) →
          ∃ e a' w', Wp H c0 Q e a' w' ∧ Arrives P (lone (b.at a (.code x :: .inLoop x :: k)) cs c.w) b k cs e a' w') ?_ c a rfl
        (hr.weaken fun t => (headEnv_of (vs := vs) (fun base t ht => h3 [] base t ht) (fun _ _ => rfl) t).2.2)
        (fun i hi => (headEnv_of (vs := vs) (fun base t ht => h3 [] base t ht) (fun _ _ => rfl) i).2.1 hi)
      · obtain ⟨e, a', w', hq, harr⟩ := key
        exact ⟨e, a', w', hq, .of_steps (.one step_loop) harr⟩
      · rintro vs s hF c a rfl hr hinv
        have hF := awp_all x (Q' := fun e env' s' => (∀ i, i ∉ asg H x → env' i = env i) ∧ _) hF fun e env' s' he hk => ⟨fun i hi => (he i hi).trans (hinv i hi), hk⟩
        obtain ⟨e, a₁, w₁, hq, harr⟩ := awp_sound hm x ok hr hF b (.inLoop x :: k) cs
        cases e with
        | normal =>
          obtain ⟨env', s', ⟨hf, hk⟩, c', rfl, rfl, hr'⟩ := hq
          obtain ⟨vs', k1, k2, k3⟩ := getVs_spec _ _ hk
          have hh := headEnv_of (H := H) (vs := vs') (fun base t ht => k3 [] base t ht) hf
          obtain ⟨e₂, a₂, w₂, hq₂, harr₂⟩ := k1 c' a₁ rfl (hr'.weaken fun t => (hh t).2.2) (fun i hi => ((hh i).2.1 hi).trans (hf i hi))
          exact ⟨e₂, a₂, w₂, hq₂, .of_steps (Steps.trans harr (.one step_inLoop)) harr₂⟩
        | exit i => obtain ⟨env', s', ⟨hf, hk⟩, hr'⟩ := hq; exact ⟨.exit i, a₁, w₁, ⟨env', s', hk, hr'⟩, .pass (x := .inLoop x) rfl (fun _ _ => .inl (by simp)) harr⟩
        | ret => obtain ⟨env', s', ⟨hf, hk⟩, hr'⟩ := hq; exact ⟨.ret, a₁, w₁, ⟨env', s', hk, hr'⟩, .pass (x := .inLoop x) rfl (fun _ _ => .inl (by simp)) harr⟩
        | goto l => exact hq.elim
        | panic ch => exact hq.elim
        | outgrown => exact hq.elim

end
end Go.Proofs.YtdeondiigpidnaaGreat.Ab
end

section
set_option linter.unusedVariables false
set_option linter.unusedSimpArgs false
/- Soundness of functions: contracts from their abstract meaning. -/
namespace Go.Proofs.YtdeondiigpidnaaGreat.Ab
open Go
set_option linter.unusedSectionVars false
variable [Fwd]
set_option linter.unusedVariables false
set_option linter.unusedSimpArgs false

/-- what stands for the one stands for the other -/
def Wk (x y : V) : Prop := ∀ c v, rep c x v → rep c y v
theorem Wk.refl (x : V) : Wk x x := fun _ _ h => h
theorem Wk.trans {x y z : V} (h : Wk x y) (h' : Wk y z) : Wk x z := fun c v hx => h' c v (h c v hx)
theorem Wk.cap (l : List V) (k : Cap) : Wk (.sl l k) (.sl l .any) := fun c v h => by
  simp only [rep] at h ⊢
  obtain ⟨vs, a, n, cap, h1, h2, h3⟩ := h
  exact ⟨vs, a, n, cap, h1, h2, h3.len, h3.le, by simp, h3.row, h3.size, by simp, by simp⟩

def WkL : List V → List V → Prop
  | [], [] => True
  | x :: r, y :: t => Wk x y ∧ WkL r t
  | _, _ => False
theorem WkL.refl : ∀ (l : List V), WkL l l
  | [] => trivial
  | x :: r => ⟨.refl x, .refl r⟩
theorem WkL.rep {c : Ctx} : ∀ {l l' : List V} {vs : List Value}, WkL l l' → repL c l vs → repL c l' vs
  | [], [], vs, _, h => h
  | x :: r, y :: t, vs, hw, h => by
    simp only [repL] at h ⊢
    obtain ⟨v, ys, rfl, h1, h2⟩ := h
    exact ⟨v, ys, rfl, hw.1 c v h1, hw.2.rep h2⟩
  | [], _ :: _, _, h, _ => h.elim
  | _ :: _, [], _, h, _ => h.elim
theorem Wk.agg {l l' : List V} (h : WkL l l') : Wk (.agg l) (.agg l') := fun c v hr => by
  simp only [Ab.rep] at hr ⊢
  obtain ⟨vs, h1, h2⟩ := hr
  exact ⟨vs, h.rep h1, h2⟩
theorem Wk.tup {l l' : List V} (h : WkL l l') : Wk (.tup l) (.tup l') := fun c v hr => by
  simp only [Ab.rep] at hr ⊢
  obtain ⟨vs, h1, h2⟩ := hr
  exact ⟨vs, h.rep h1, h2⟩
theorem Wk.sl {l l' : List V} {k : Cap} (h : WkL l l') : Wk (.sl l k) (.sl l' k) := fun c v hr => by
  simp only [Ab.rep] at hr ⊢
  obtain ⟨vs, a, n, cap, h1, h2⟩ := hr
  exact ⟨vs, a, n, cap, h.rep h1, h2⟩

/-- what stands for the one stands for the other, where the store is turned without memory -/
def Fz (s s2 : Store) (r r2 : V) : Prop := ∀ c v, c.s = s → R c → rep c r v → ∃ c', c'.w = c.w ∧ c'.N = c.N ∧ Evo c c' ∧ R c' ∧ c'.s = s2 ∧ rep c' r2 v
theorem Fz.of {s s2 : Store} {r r2 : V} (h : Wk r r2) (hs : s2.le s) : Fz s s2 r r2 := fun c v hc hR hr => by
  subst hc
  exact ⟨{ c with s := s2 }, rfl, rfl, Evo.less hs, hR.less hs, rfl, rep_ext (Ext.less hs) _ _ (h c v hr)⟩
theorem Fz.trans {s s2 s3 : Store} {r r2 r3 : V} (h : Fz s s2 r r2) (h' : Fz s2 s3 r2 r3) : Fz s s3 r r3 := fun c v hc hR hr => by
  obtain ⟨c1, a1, a2, a3, a4, a5, a6⟩ := h c v hc hR hr
  obtain ⟨c2, b1, b2, b3, b4, b5, b6⟩ := h' c1 v a5 a4 a6
  exact ⟨c2, b1.trans a1, b2.trans a2, Evo.trans a4 a3 b3 (fun i hi => by rw [a2]; exact hi), b4, b5, b6⟩

theorem nil_sl (c : Ctx) (ad : Option Addr) : rep c (.sl [] .any) (.slice ad 0 0) := by
  simp only [rep]
  exact ⟨[], ad, 0, 0, by simp [repL], rfl, ⟨rfl, Nat.le_refl _, by simp, .inl rfl, ⟨0, by simp⟩, by simp, by simp⟩⟩

/-- what was written in place is written no more -/
theorem Fz.freeze {s : Store} {id sz off len : Nat} {l : List V} (hs : s id = some (.arr sz l)) (hl : off + len ≤ l.length) : Fz s (s.del id) (.vw id sz off len) (.sl ((l.drop off).take len) .any) := by
  intro c v hc hR hr
  subst hc
  refine ⟨{ c with s := c.s.del id }, rfl, rfl, Evo.less (del_le _ _), hR.less (del_le _ _), rfl, ?_⟩
  simp only [rep] at hr
  rcases hr with ⟨rfl, ad, rfl⟩ | ⟨b, e, cap, sh, g1, rfl, h0, h4, h5, h6⟩
  · simpa using nil_sl _ ad
  · obtain ⟨b', e', g2, hN, vs, k, T, h7, h8, h9, h10⟩ := hR.obj id _ hs
    rw [g1] at g2; cases g2
    have hL := repL_length h7
    have hev : Ext c { c with s := c.s.del id } := Ext.less (del_le _ _)
    simp only [rep]
    have hcs : ∀ v ∈ (vs.drop off).take len, v.cells.size = sz := fun v hv => h8 v (List.mem_of_mem_drop (List.mem_of_mem_take hv))
    refine ⟨(vs.drop off).take len, _, len, cap, repL_ext hev _ _ (repL_take len (repL_drop off h7)), rfl, ⟨by simp; omega, h4, by simp, .inr ⟨b, e + off * sz, rfl, fun i v hi => ⟨?_, hN, fun id' o e2 ho hg => ?_⟩⟩, ⟨sz, hcs⟩, by simp, by simp⟩⟩
    · rw [flat_take (fun v hv => h8 v (List.mem_of_mem_drop hv)), flat_drop h8, List.getElem?_take, List.getElem?_drop] at hi
      split at hi
      · have := h10 _ _ hi
        simp only [World.cell?, h9]
        rw [← Nat.add_assoc] at this
        exact this
      · cases hi
    · have ho' := del_le _ _ _ _ ho
      have := hR.sep id' id o _ b e2 e ho' hs hg g1
      subst this
      simp [Store.del] at ho

/-- nobody goes through a map that may be written -/
def Iters (s : Store) : Prop := ∀ i m cur left, s i = some (.iter m cur left) → ∀ l, s m ≠ some (.map l)
/-- there is a memory for it -/
def SOk (s : Store) : Prop := ∃ c : Ctx, R c ∧ c.s = s
theorem SOk.iters {s : Store} (h : SOk s) : Iters s := by
  obtain ⟨c, hR, rfl⟩ := h
  intro i m cur left hi l
  obtain ⟨b, e, _, _, _, h2, _⟩ := hR.obj i _ hi
  exact h2 l

/-- a map that was gone through may be written again, where nobody goes through it any more -/
theorem Fz.back {s s2 : Store} {r r2 : V} (hw : Wk r r2) (hs : ∀ i o, s2 i = some o → s i = some o ∨ ∃ l, o = .map l ∧ s i = some (.mapr l)) (hi : Iters s2) : Fz s s2 r r2 := by
  intro c v hc hR hr
  subst hc
  have hx : Ext c { c with s := s2 } := by
    refine ⟨fun _ _ h => h, Nat.le_refl _, fun b i hb him => ⟨⟨him.1, fun id o e ho hg => ?_⟩, rfl⟩, fun _ _ => rfl, fun t sz ht hst => ?_⟩
    · rcases hs id o ho with h | ⟨l, rfl, h⟩
      · exact him.2 id o e h hg
      · obtain ⟨⟨_, h1⟩, _⟩ := him.2 id _ e h hg
        cases h1
    · rcases hs t _ hst with h | ⟨l, h, _⟩
      · exact h
      · cases h
  have hR2 : R { c with s := s2 } := by
    refine ⟨fun id o ho => ?_, fun i j o1 o2 b e1 e2 h1 h2 g1 g2 => ?_, hR.nb, hR.gb, hR.fin⟩
    · rcases hs id o ho with h | ⟨l, rfl, h⟩
      · obtain ⟨b, e, h1, h2, h3⟩ := hR.obj id o h
        refine ⟨b, e, h1, h2, ?_⟩
        cases o with
        | cells cs => obtain ⟨a1, vs, T, a2, a3⟩ := h3; exact ⟨a1, vs, T, repL_ext hx _ _ a2, a3⟩
        | arr sz l => obtain ⟨vs, k, T, a1, a2, a3, a4⟩ := h3; exact ⟨vs, k, T, repL_ext hx _ _ a1, a2, a3, a4⟩
        | map l => obtain ⟨a1, es, k, a2, a3, a4⟩ := h3; exact ⟨a1, es, k, a2, repM_ext hx _ _ a3, a4⟩
        | mapr l => obtain ⟨a1, es, k, a2, a3, a4⟩ := h3; exact ⟨a1, es, k, a2, repM_ext hx _ _ a3, a4⟩
        | tip sz => exact h3
        | iter m cur left =>
          obtain ⟨a1, a2, bm, since, seen, a3, a4, a5⟩ := h3
          refine ⟨a1, hi id m cur left ho, bm, since, seen, a3, a4, fun l hl => ?_⟩
          rcases hs m _ hl with h' | ⟨_, h', _⟩
          · obtain ⟨es, a6, a7, a8⟩ := a5 l h'
            exact ⟨es, a6, repM_ext hx _ _ a7, fun x hx' => let ⟨y, k1, k2, k3, k4⟩ := a8 x hx'; ⟨y, k1, k2, rep_ext hx _ _ k3, rep_ext hx _ _ k4⟩⟩
          · cases h'
      · obtain ⟨b, e, h1, h2, a1, es, k, a2, a3, a4⟩ := hR.obj id _ h
        exact ⟨b, e, h1, h2, a1, es, k, a2, repM_ext hx _ _ a3, a4⟩
    · have f : ∀ k ok, s2 k = some ok → ∃ ok', c.s k = some ok' := fun k ok hk => by
        rcases hs k ok hk with h | ⟨l, _, h⟩ <;> exact ⟨_, h⟩
      obtain ⟨_, f1⟩ := f i o1 h1
      obtain ⟨_, f2⟩ := f j o2 h2
      exact hR.sep i j _ _ b e1 e2 f1 f2 g1 g2
  exact ⟨{ c with s := s2 }, rfl, rfl, ⟨hx, fun _ _ _ => rfl, rfl, .refl _⟩, hR2, rfl, rep_ext hx _ _ (hw c v hr)⟩

def okFn (H : Hints) (fn : Func) : Bool := Nat.ble H.n fn.ntmps && match fn.body with | some c => okCode H c | none => false

section
variable {P : Program} {H : Hints} {c0 c : Ctx} {env : Env} {a : Act}

theorem run_aloadVar {T : TypeId} {k : TK} {p : V} {pv : Value} {K' : V → Prop} (hR : R c) (hk : tk P T = some k) (hp : rep c p pv) (h : aload k p c.s K') :
    ∃ b e x v, pv = .pointer (some ⟨b, e, none⟩) ∧ (loadVar T ⟨b, e, none⟩).run P c.w = .ok v c.w ∧ rep c x v ∧ K' x := by
  obtain ⟨id, off, ob, cs, rfl, h1, h2, x, h3, h4⟩ := h
  simp only [rep] at hp
  obtain ⟨b, e, g1, rfl⟩ := hp
  obtain ⟨b', e', g2, _, hob⟩ := hR.obj id ob h1
  rw [g1] at g2; cases g2
  obtain ⟨vs, h5, h6⟩ := objCells_rep h2 hob
  obtain ⟨v, h7, h8⟩ := run_rd hk h3 h5 h6
  exact ⟨b, e + off, x, v, rfl, h7, h8, h4⟩

theorem resV_sound {r : ResultVar} {K' : V → Prop} (hr : RelC H c0 c env a) (h : resV P env c.s r K') :
    ∃ x v, ((match r with
      | .tmp t => pure (a.tmps.getD t undef)
      | .cell b t => do loadVar t (← asAddr (a.tmps.getD b undef)) : Sem Value)).run P c.w = .ok v c.w ∧ rep c x v ∧ K' x := by
  cases r with
  | tmp t =>
    obtain ⟨x, h1, h2⟩ := get_some h
    exact ⟨x, a.tmps.getD t undef, by simp, opnd_rep (x := .tmp t) hr h1, h2⟩
  | cell b t =>
    obtain ⟨k, hk, h⟩ := get_some h
    obtain ⟨blk, he⟩ := hr.envs
    have hs := he.slot b
    cases hb : env b with
    | box cs =>
      rw [hb] at hs
      simp only [hb] at h
      obtain ⟨x, h1, h2⟩ := h
      obtain ⟨vs, h3, h4⟩ := boxAt_cells hs.2
      obtain ⟨v, h5, h6⟩ := run_rd hk h1 h3 h4
      simp only [Nat.zero_add] at h5
      refine ⟨x, v, ?_, h6, h2⟩
      simp only [hs.1, Sem.run_bind]
      simpa [asAddr] using h5
    | v p =>
      rw [hb] at hs
      simp only [hb] at h
      obtain ⟨b', e, x, v, h1, h2, h3, h4⟩ := run_aloadVar hr.r hk hs h
      refine ⟨x, v, ?_, h3, h4⟩
      simp only [h1, Sem.run_bind]
      simpa [asAddr] using h2
    | _ => simp only [hb] at h

theorem resVs_sound (hr : RelC H c0 c env a) : ∀ (rs : List ResultVar) {K' : List V → Prop}, resVs P env c.s rs K' →
    ∃ xs vs, (rs.mapM (m := Sem) fun
      | .tmp t => pure (a.tmps.getD t undef)
      | .cell b t => do loadVar t (← asAddr (a.tmps.getD b undef))).run P c.w = .ok vs c.w ∧ repL c xs vs ∧ K' xs
  | [], K', h => ⟨[], [], by simp, by simp [repL], h⟩
  | r :: t, K', h => by
    obtain ⟨x, v, h1, h2, h3⟩ := resV_sound hr h
    obtain ⟨xs, vs, h4, h5, h6⟩ := resVs_sound hr t h3
    refine ⟨x :: xs, v :: vs, ?_, by simp only [repL]; exact ⟨v, vs, rfl, h2, h5⟩, h6⟩
    rw [List.mapM_cons, Sem.run_bind, h1]
    simp only [Result.andThen_ok, Sem.run_bind, h4, Sem.run_pure]

theorem one_rep {xs : List V} {vs : List Value} (h : repL c xs vs) : rep c (Ab.one xs) (if h : vs.toArray.size = 1 then vs.toArray[0] else .tuple vs.toArray) := by
  have hl := repL_length h
  unfold Ab.one
  split
  · rename_i x
    simp only [repL] at h
    obtain ⟨y, ys, rfl, h1, rfl⟩ := h
    simpa using h1
  · rename_i hne
    have : ¬ vs.toArray.size = 1 := fun h1 => by
      simp at h1
      rw [hl] at h1
      obtain ⟨x, rfl⟩ := List.length_eq_one_iff.1 h1
      exact hne x rfl
    rw [dif_neg this]
    simp only [rep]
    exact ⟨vs, h, rfl⟩

theorem results_sound {fn : Func} {K : V → Store → Prop} (hr : RelC H c0 c env a) (h : resVs P env c.s fn.results.toList fun vs => K (Ab.one vs) c.s) :
    ∃ x v, (results fn a.tmps).run P c.w = .ok v c.w ∧ rep c x v ∧ K x c.s := by
  obtain ⟨xs, vs, h1, h2, h3⟩ := resVs_sound hr _ h
  refine ⟨_, _, ?_, one_rep h2, h3⟩
  unfold results
  rw [Array.mapM_eq_mapM_toList, Sem.run_bind, map_eq_pure_bind, Sem.run_bind]
  refine Eq.trans (congrArg (fun r => (Result.andThen (Result.andThen r _) _)) h1) ?_
  simp only [Result.andThen_ok, Sem.run_pure]

theorem AC_of_afunF (hm : P.follows .mixedOrders = true) {f : FuncId} {fn : Func} {args : List V} {s : Store} {K Q : V → Store → Prop} (hf : P.funcs[f]? = some fn) (hc : callable P f = true)
    (hok : okFn H fn = true) (h : SOk s → afun P H fn args s K) (hk : ∀ r s', K r s' → ∃ r2 s2, Fz s' s2 r r2 ∧ Q r2 s2) : AC P f args s Q := by
  refine ⟨hc, fun c hcs hR cargs ha => ?_⟩
  have h := h ⟨c, hR, hcs⟩
  unfold okFn at hok
  rw [Bool.and_eq_true] at hok
  unfold afun at h
  cases hb : fn.body with
  | none => rw [hb] at h; exact h.elim
  | some code =>
    rw [hb] at h hok
    simp only at h hok
    cases hn : Nat.ble args.length H.n with
    | false => rw [hn] at h; exact h.elim
    | true =>
      rw [hn, cond_true] at h
      have hlen := repL_length ha
      have hn1 := Nat.le_of_ble_eq_true hn
      have hn2 := Nat.le_of_ble_eq_true hok.1
      refine calls_of_wp hf hb ?_
      have hrel : RelC H c c (envOf args) { tmps := cargs.toArray ++ Array.replicate (fn.ntmps - cargs.toArray.size) undef, defers := [] } := by
        refine ⟨fun _ h => h, fun _ h => .inl h, hR, Evo.refl c, ⟨fun _ => 0, fun t => ?_, fun t t' cs cs' e e' => ?_⟩, rfl, ?_⟩
        · unfold envOf
          cases ht : args[t]? with
          | none => trivial
          | some x =>
            obtain ⟨v, h1, h2⟩ := repL_get ha ht
            have hlt : t < cargs.length := (List.getElem?_eq_some_iff.1 h1).1
            have : (cargs.toArray ++ Array.replicate (fn.ntmps - cargs.toArray.size) undef).getD t undef = v := by
              rw [Array.getD_eq_getD_getElem?, Array.getElem?_append_left (by simpa using hlt)]
              simp [h1]
            simp only [this]
            exact h2
        · unfold envOf at e
          split at e <;> cases e
        · simp; omega
      subst hcs
      have hw := awp_sound hm code hok.2 hrel h
      refine wp_mono hw fun e a w he => ?_
      have fin : ∀ {env' : Env} {s' : Store}, (resVs P env' s' fn.results.toList fun vs => K (Ab.one vs) s') → Rel H c env' s' a w →
          a.defers = [] ∧ ∃ v, (results fn a.tmps).run P w = .ok v w ∧ ∃ cr r c', Ending.returned v = .returned cr ∧ c'.w = w ∧ c'.N = c.N ∧ Evo c c' ∧ R c' ∧ rep c' r cr ∧ Q r c'.s := by
        rintro env' s' hres ⟨c', rfl, rfl, hr⟩
        obtain ⟨x, v, h1, h2, h3⟩ := results_sound hr hres
        obtain ⟨r2, s2, h4, h6⟩ := hk _ _ h3
        have hR1 : R { c' with N := c.N } := hr.r.lessN hr.nsub
        obtain ⟨c2, g1, g2, g3, g4, rfl, g6⟩ := h4 { c' with N := c.N } v rfl hR1 (rep_ext (Ext.lessN hr.nsub) _ _ h2)
        exact ⟨hr.defers, v, h1, v, r2, c2, rfl, g1, g2, Evo.trans hR1 hr.evo g3 (fun _ h => h), g4, g6, h6⟩
      cases e with
      | normal => obtain ⟨env', s', hk', hr'⟩ := he; exact fin hk' hr'
      | ret => obtain ⟨env', s', hk', hr'⟩ := he; exact fin hk' hr'
      | exit i => obtain ⟨env', s', hk', hr'⟩ := he; exact hk'.elim
      | _ => exact he.elim


theorem AC_of_afun (hm : P.follows .mixedOrders = true) {f : FuncId} {fn : Func} {args : List V} {s : Store} {K Q : V → Store → Prop} (hf : P.funcs[f]? = some fn) (hc : callable P f = true)
    (hok : okFn H fn = true) (h : afun P H fn args s K) (hk : ∀ r s', K r s' → ∃ r2 s2, Wk r r2 ∧ s2.le s' ∧ Q r2 s2) : AC P f args s Q :=
  AC_of_afunF hm hf hc hok (fun _ => h) fun r s' h => let ⟨r2, s2, h1, h2, h3⟩ := hk r s' h; ⟨r2, s2, .of h1 h2, h3⟩

/-- a call where what is handed over is looked at in another way -/
theorem AC.conv {f : FuncId} {args args' : List V} {s s' : Store} {Q : V → Store → Prop}
    (h : ∀ c cargs, c.s = s → R c → repL c args cargs → ∃ c', c'.w = c.w ∧ c'.N = c.N ∧ Evo c c' ∧ R c' ∧ c'.s = s' ∧ repL c' args' cargs) (hA : AC P f args' s' Q) : AC P f args s Q :=
  ⟨hA.1, fun c hc hR cargs ha => by
    obtain ⟨c1, a1, a2, a3, a4, a5, a6⟩ := h c cargs hc hR ha
    have := hA.2 c1 a5 a4 cargs a6
    rw [a1] at this
    refine this.mono ?_
    rintro e w' ⟨cr, r, c2, b1, b2, b3, b4, b5, b6, b7⟩
    exact ⟨cr, r, c2, b1, b2, b3.trans a2, Evo.trans a4 a3 b4 (fun i hi => by rw [a2]; exact hi), b5, b6, b7⟩⟩

end
end Go.Proofs.YtdeondiigpidnaaGreat.Ab
end

section
set_option linter.unusedVariables false
set_option linter.unusedSimpArgs false
/- The typed reading: what an operation gives has the shape of its type; nothing is asked that the shapes tell already. -/
namespace Go.Proofs.YtdeondiigpidnaaGreat.Ab
open Go
set_option linter.unusedSectionVars false
variable [Fwd]
set_option linter.unusedVariables false
set_option linter.unusedSimpArgs false

/-- what one cell holds -/
inductive Sc where
  | any
  | bool
  | int (k : IntKind)
  | str
  | sl
  | ptr
  | map
  | vw
inductive ShA where
  | sc (s : Sc)
  | agg (l : List Sc)
inductive Sh where
  | a (x : ShA)
  | tup (l : List ShA)

structure Shapes where
  carry : Nat → List ShA
  res : Nat → Option Sh

def shS (P : Program) (t : TypeId) : Sc :=
  match P.underlying t with
  | some .bool => .bool
  | some (.int k) => .int k
  | some .string => .str
  | some (.slice _) => .sl
  | some (.pointer _) => .ptr
  | some (.map _ _) => .map
  | _ => .any
def shF (P : Program) : Nat → TypeId → List Sc
  | 0, _ => []
  | f + 1, t => match P.underlying t with
    | some (.struct fs) => fs.toList.flatMap fun x => shF P f x.type
    | _ => [shS P t]
def shA (P : Program) (t : TypeId) : ShA :=
  match P.underlying t with
  | some (.struct _) => .agg (shF P 10 t)
  | some (.array _ _) => .sc .any
  | _ => .sc (shS P t)
def shT (P : Program) (t : TypeId) : Sh :=
  match P.underlying t with
  | some (.tuple ts) => .tup (ts.toList.map (shA P))
  | _ => .a (shA P t)

/-- the shape of a variable's cells -/
def boxSh : ShA → ShA
  | .sc s => .agg [s]
  | x => x

/-- what has a shape -/
def opS : Sc → (V → Prop) → Prop
  | .bool, K => ∃ b, K (.bool b)
  | .int k, K => ∃ n, K (.int k n)
  | .str, K => ∃ s, K (.str s)
  | .sl, K => ∃ l c, K (.sl l c)
  | .ptr, K => ∃ i, K (.ptr i 0)
  | .map, K => ∃ i, K (.map i)
  | .vw, K => ∃ i z o n, K (.vw i z o n)
  | .any, K => ∃ x, K x
def opSs : List Sc → (List V → Prop) → Prop
  | [], K => K []
  | s :: r, K => opS s fun x => opSs r fun t => K (x :: t)
def opA : ShA → (V → Prop) → Prop
  | .sc s, K => opS s K
  | .agg l, K => opSs l fun vs => K (.agg vs)
def opL : List ShA → (List V → Prop) → Prop
  | [], K => K []
  | s :: r, K => opA s fun x => opL r fun t => K (x :: t)
def opn (sh : Sh) (r : V) (K : V → Prop) : Prop :=
  match sh with
  | .a (.sc .any) => K r
  | .a x => opA x fun v => r = v ∧ K v
  | .tup l => opL l fun vs => r = .tup vs ∧ K (.tup vs)

theorem opS_ex {s : Sc} {K : V → Prop} (h : opS s K) : ∃ v, K v := by
  cases s <;> unfold opS at h
  all_goals first
    | (obtain ⟨_, _, _, _, h⟩ := h; exact ⟨_, h⟩)
    | (obtain ⟨_, _, h⟩ := h; exact ⟨_, h⟩)
    | (obtain ⟨_, h⟩ := h; exact ⟨_, h⟩)
theorem opSs_ex : ∀ {l : List Sc} {K : List V → Prop}, opSs l K → ∃ v, K v
  | [], K, h => ⟨_, h⟩
  | s :: r, K, h => by
    unfold opSs at h
    obtain ⟨_, h⟩ := opS_ex h
    obtain ⟨_, h⟩ := opSs_ex h
    exact ⟨_, h⟩
theorem opA_ex {s : ShA} {K : V → Prop} (h : opA s K) : ∃ v, K v := by
  cases s <;> unfold opA at h
  · exact opS_ex h
  · obtain ⟨_, h⟩ := opSs_ex h; exact ⟨_, h⟩
theorem opL_ex : ∀ {l : List ShA} {K : List V → Prop}, opL l K → ∃ v, K v
  | [], K, h => ⟨_, h⟩
  | s :: r, K, h => by
    unfold opL at h
    obtain ⟨_, h⟩ := opA_ex h
    obtain ⟨_, h⟩ := opL_ex h
    exact ⟨_, h⟩
theorem opn_k {sh : Sh} {r : V} {K : V → Prop} (h : opn sh r K) : K r := by
  unfold opn at h
  split at h
  · exact h
  · obtain ⟨_, h⟩ := opA_ex h; rw [h.1]; exact h.2
  · obtain ⟨_, h⟩ := opL_ex h; rw [h.1]; exact h.2

/-- a value that has come to be -/
def tval (v : V) (K : V → Prop) : Prop := K v
def tvals (v : List V) (K : List V → Prop) : Prop := K v
def tnat (v : Nat) (K : Nat → Prop) : Prop := K v
def tif (b : Bool) (K : Prop) : Prop := bif b then K else False
theorem tif_ok {b : Bool} {K : Prop} (h : tif b K) : b = true ∧ K := by cases b <;> first | exact h.elim | exact ⟨rfl, h⟩

def tcond (want : Bool) (g : V) (A B : Prop) : Prop := match g with | .bool b => (bif (bif want then b else !b) then A else B) | _ => False
theorem tcond_ok {want : Bool} {g : V} {A B A' B' : Prop} (h : tcond want g A B) (ha : A → A') (hb : B → B') : gcond want g A' B' := by
  unfold tcond at h
  split at h
  · rename_i b; unfold gcond; cases b <;> cases want <;> first | exact ha h | exact hb h
  · exact h.elim

def tcells (k : TK) (x : V) (K : List V → Prop) : Prop :=
  match k with
  | .sc => tif x.one (K [x])
  | .ag n => match x with | .agg l => tif (Nat.beq l.length n && l.all V.one) (K l) | _ => False

theorem one_cells {x : V} (h : x.one = true) : x.cells = [x] ∧ x.cells.all V.one = true := by
  cases x <;> first | (simp [V.one] at h; done) | exact ⟨rfl, by simp [V.cells, V.one]⟩
theorem tcells_ok {k : TK} {x : V} {K : List V → Prop} (h : tcells k x K) : x.cells.all V.one = true ∧ K x.cells := by
  unfold tcells at h
  split at h
  · obtain ⟨h1, h2⟩ := tif_ok h
    rw [(one_cells h1).1]
    exact ⟨by simp [h1], h2⟩
  · split at h
    · obtain ⟨h1, h2⟩ := tif_ok h
      rw [Bool.and_eq_true] at h1
      exact ⟨h1.2, h2⟩
    · exact h.elim

def trd (k : TK) (cs : List V) (off : Nat) (K : V → Prop) : Prop :=
  match k with
  | .sc => get cs[off]? fun v => tif v.one (K v)
  | .ag n => tif (Nat.ble (off + n) cs.length && cs.all V.one) (K (.agg ((cs.drop off).take n)))
theorem trd_ok {k : TK} {cs : List V} {off : Nat} {K : V → Prop} (h : trd k cs off K) : must (rd k cs off) K := by
  unfold trd at h
  unfold rd
  cases k with
  | sc =>
    obtain ⟨v, h1, h⟩ := get_some h
    obtain ⟨h2, h3⟩ := tif_ok h
    exact ⟨v, by simp [h1, h2], h3⟩
  | ag n =>
    obtain ⟨h1, h3⟩ := tif_ok h
    rw [Bool.and_eq_true] at h1
    exact ⟨_, by simp only [Nat.le_of_ble_eq_true h1.1, h1.2, and_self, if_true], h3⟩

def tplacesOf (P : Program) : List Field → Option (List (Nat × Nat × TK))
  | [] => some []
  | f :: r => match sizeT P f.type, tk P f.type, tplacesOf P r with
    | some n, some k, some l => some ((f.offset, n, k) :: l)
    | _, _, _ => none
def tplacesT (P : Program) (t : TypeId) : Option (List (Nat × Nat × TK)) :=
  match P.underlying t with
  | some (.struct fs) => tplacesOf P fs.toList
  | _ => none
def tparts (pl : List (Nat × Nat × TK)) (env : Env) : List (Nat × Operand) → Option (List (Nat × Nat × TK × V))
  | [] => some []
  | (i, x) :: r => match pl[i]?, opnd env x, tparts pl env r with
    | some (off, n, k), some v, some l => some ((off, n, k, v) :: l)
    | _, _, _ => none
def tfill : List (Nat × Nat × TK × V) → List V → (List V → Prop) → Prop
  | [], cs, K => K cs
  | (off, n, k, x) :: r, cs, K => tcells k x fun xs => tif (Nat.beq xs.length n && Nat.ble (off + n) cs.length) (tvals (wr cs off xs) fun cs => tfill r cs K)
theorem tfill_ok : ∀ {l : List (Nat × Nat × TK × V)} {cs : List V} {K : List V → Prop}, tfill l cs K → must (fillV (l.map fun x => (x.1, x.2.1, x.2.2.2)) cs) K
  | [], cs, K, h => ⟨cs, rfl, h⟩
  | (off, n, k, x) :: r, cs, K, h => by
    unfold tfill at h
    obtain ⟨h1, h2⟩ := tcells_ok h
    obtain ⟨h3, h4⟩ := tif_ok h2
    rw [Bool.and_eq_true] at h3
    obtain ⟨v, h5, h6⟩ := tfill_ok h4
    refine ⟨v, ?_, h6⟩
    simp only [List.map_cons, fillV, Nat.eq_of_beq_eq_true h3.1, h1, Nat.le_of_ble_eq_true h3.2, and_self, if_true]
    exact h5

theorem tplacesOf_ok {P : Program} : ∀ {fs : List Field} {l : List (Nat × Nat × TK)}, tplacesOf P fs = some l → placesOf P fs = some (l.map fun x => (x.1, x.2.1))
  | [], l, h => by cases h; rfl
  | f :: r, l, h => by
    unfold tplacesOf at h
    split at h
    · rename_i n k l' h1 h2 h3
      cases h
      unfold placesOf
      simp only [h1, tplacesOf_ok h3, List.map_cons]
    · cases h
theorem tplacesT_ok {P : Program} {t : TypeId} {l : List (Nat × Nat × TK)} (h : tplacesT P t = some l) : placesT P t = some (l.map fun x => (x.1, x.2.1)) := by
  unfold tplacesT at h
  unfold placesT
  split at h
  · rename_i fs hu; rw [hu]; exact tplacesOf_ok h
  · cases h
theorem tparts_ok {pl : List (Nat × Nat × TK)} {env : Env} : ∀ {ps : List (Nat × Operand)} {l : List (Nat × Nat × TK × V)}, tparts pl env ps = some l →
    parts (pl.map fun x => (x.1, x.2.1)) env ps = some (l.map fun x => (x.1, x.2.1, x.2.2.2))
  | [], l, h => by cases h; rfl
  | (i, x) :: r, l, h => by
    unfold tparts at h
    split at h
    · rename_i off n k v l' h1 h2 h3
      cases h
      unfold parts
      simp only [List.getElem?_map, h1, Option.map_some, h2, tparts_ok h3, List.map_cons]
    · cases h

def tfitAll (k : TK) (sz : Nat) : List V → Prop → Prop
  | [], K => K
  | x :: r, K => tcells k x fun xs => tif (Nat.beq xs.length sz) (tfitAll k sz r K)
theorem tfitAll_ok {k : TK} {sz : Nat} : ∀ {l : List V} {K : Prop}, tfitAll k sz l K → allFit sz l ∧ K
  | [], K, h => ⟨trivial, h⟩
  | x :: r, K, h => by
    unfold tfitAll at h
    obtain ⟨h1, h2⟩ := tcells_ok h
    obtain ⟨h3, h4⟩ := tif_ok h2
    obtain ⟨h5, h6⟩ := tfitAll_ok h4
    exact ⟨⟨⟨Nat.eq_of_beq_eq_true h3, h1⟩, h5⟩, h6⟩

def tload (k : TK) (sh : Sh) (p : V) (s : Store) (K : V → Prop) : Prop :=
  match p with
  | .ptr id off => ∃ o cs x, s id = some o ∧ objCells o = some cs ∧ rd k cs off = some x ∧ opn sh x K
  | _ => False
theorem tload_ok {k : TK} {sh : Sh} {p : V} {s : Store} {K : V → Prop} (h : tload k sh p s K) : aload k p s K := by
  unfold tload at h
  split at h
  · rename_i id off
    obtain ⟨o, cs, x, h1, h2, h3, h4⟩ := h
    exact ⟨id, off, o, cs, rfl, h1, h2, x, h3, opn_k h4⟩
  · exact h.elim

def tbin (op : BinOp) (x y : V) (K : V → Prop) : Prop :=
  match op, x, y with
  | .add, .str a, .str b => a.size + b.size ≤ 9223372036854775807 ∧ K (.str (a ++ b))
  | op, x, y => get (abin op x y) K
theorem tbin_ok {op : BinOp} {x y : V} {K : V → Prop} (h : tbin op x y K) : must (abin op x y) K := by
  unfold tbin at h
  split at h
  · rename_i a b
    exact ⟨_, by simp [abin, strBin, h.1], h.2⟩
  · exact get_some h

def teq (k : EK) (x y : V) (K : Bool → Prop) : Prop := get (eqV k x y) K
def tcmp (op : BinOp) (b : Bool) (K : V → Prop) : Prop := match op with | .eql => K (.bool b) | .neq => K (.bool !b) | _ => False
theorem teq_ok {k : EK} {op : BinOp} {x y : V} {K : V → Prop} (h : teq k x y fun b => tcmp op b K) : must (aeq k op x y) K := by
  obtain ⟨b, h1, h2⟩ := get_some h
  unfold tcmp at h2
  split at h2
  · exact ⟨_, by simp [aeq, h1], h2⟩
  · exact ⟨_, by simp [aeq, h1], h2⟩
  · exact h2.elim
theorem tcmp_ok {op : BinOp} {b : Bool} {K : V → Prop} (h : tcmp op b K) : cmpB op b K := by
  unfold tcmp at h
  unfold cmpB
  split at h <;> first | exact h | exact h.elim
def tnil (x : V) (K : Bool → Prop) : Prop := match x with | .sl l _ => ∀ b, (l ≠ [] → b = false) → K b | .vw _ _ _ len => ∀ b, (len ≠ 0 → b = false) → K b | _ => False
theorem tnil_ok {x : V} {K K' : Bool → Prop} (h : tnil x K) (hk : ∀ b, K b → K' b) : nilEq x K' := by
  unfold tnil at h
  split at h
  · exact ⟨fun hl => hk _ (h false fun _ => rfl), fun hl b => hk _ (h b fun hn => absurd hl hn)⟩
  · exact ⟨fun hl => hk _ (h false fun _ => rfl), fun hl b => hk _ (h b fun hn => absurd hl hn)⟩
  · exact h.elim
def taggEq (ks : List SK) (x y : V) (K : Bool → Prop) : Prop := match x, y with | .agg a, .agg b => tif (hasSKs ks a && hasSKs ks b) (K (keqL a b)) | _, _ => False
theorem taggEq_ok {ks : List SK} {x y : V} {K K' : Bool → Prop} (h : taggEq ks x y K) (hk : ∀ b, K b → K' b) : aeqS ks x y K' := by
  unfold taggEq at h
  split at h
  · obtain ⟨h1, h2⟩ := tif_ok h
    rw [Bool.and_eq_true] at h1
    exact ⟨_, _, rfl, rfl, h1.1, h1.2, hk _ h2⟩
  · exact h.elim

def tun (op : UnOp) (x : V) (K : V → Prop) : Prop := get (aun op x) K
def tconv (src dst : Option TypeDesc) (x : V) (K : V → Prop) : Prop :=
  match src, dst, x with
  | some (.int _), some (.int k), .int _ n => K (.int k (k.wrap n))
  | some .string, some .string, .str b => K (.str b)
  | _, _, _ => False
def tidx (sz : Nat) (sh : Sh) (x i : V) (K : Slot → Prop) : Prop :=
  match x, i with
  | .sl l _, .int _ n => 0 ≤ n ∧ ∃ e, l[n.toNat]? = some e ∧ opn sh e fun e => tif (Nat.beq e.cells.length sz) (K (.elt e 0))
  | .vw id sz' off len, .int _ n => sz' = sz ∧ 0 ≤ n ∧ n < len ∧ K (.v (.ptr id ((off + n.toNat) * sz)))
  | _, _ => False
theorem tidx_ok {sz : Nat} {sh : Sh} {x i : V} {K : Slot → Prop} (h : tidx sz sh x i K) : aidx sz x i K := by
  unfold tidx at h
  split at h
  · obtain ⟨h1, e, h2, h3⟩ := h
    obtain ⟨h4, h5⟩ := tif_ok (opn_k h3)
    exact ⟨_, _, e, rfl, h1, h2, Nat.eq_of_beq_eq_true h4, h5⟩
  · obtain ⟨h1, h2, h3, h4⟩ := h
    exact ⟨_, _, h1, rfl, h2, h3, h4⟩
  · exact h.elim
def tidxS (x i : V) (K : V → Prop) : Prop :=
  match x, i with
  | .str s, .int _ n => 0 ≤ n ∧ ∃ b, s[n.toNat]? = some b ∧ K (.int .u8 b.toNat)
  | _, _ => False
theorem tidxS_ok {x i : V} {K : V → Prop} (h : tidxS x i K) : aidxS x i K := by
  unfold tidxS at h
  split at h
  · obtain ⟨h1, e, h2, h3⟩ := h
    exact ⟨_, _, _, e, rfl, rfl, h1, h2, h3⟩
  · exact h.elim

def tbounds (n : Nat) (lo hi : Option V) (K : Nat → Nat → Prop) : Prop :=
  match lo, hi with
  | none, none => K 0 n
  | some (.int _ a), none => 0 ≤ a ∧ a ≤ n ∧ K a.toNat n
  | none, some (.int _ b) => 0 ≤ b ∧ b ≤ n ∧ K 0 b.toNat
  | some (.int _ a), some (.int _ b) => 0 ≤ a ∧ a ≤ b ∧ b ≤ n ∧ K a.toNat b.toNat
  | _, _ => False
theorem tbounds_ok {n : Nat} {lo hi : Option V} {K K' : Nat → Nat → Prop} (h : tbounds n lo hi K) (hk : ∀ a b : Nat, (∀ v, hi = some v → ∃ k, v = .int k b) → K a b → K' a b) : bounds n lo hi K' := by
  unfold tbounds at h
  split at h
  · exact ⟨0, n, rfl, rfl, Nat.zero_le _, Nat.le_refl _, hk _ _ (fun _ h => nomatch h) h⟩
  · rename_i k a
    obtain ⟨h1, h2, h3⟩ := h
    have e : ((a.toNat : Nat) : Int) = a := Int.toNat_of_nonneg h1
    exact ⟨a.toNat, n, ⟨k, by rw [e]⟩, rfl, by omega, Nat.le_refl _, hk _ _ (fun _ h => nomatch h) h3⟩
  · rename_i k a
    obtain ⟨h1, h2, h3⟩ := h
    have e : ((a.toNat : Nat) : Int) = a := Int.toNat_of_nonneg h1
    exact ⟨0, a.toNat, rfl, ⟨k, by rw [e]⟩, Nat.zero_le _, by omega, hk _ _ (fun v h => by cases h; exact ⟨k, by rw [e]⟩) h3⟩
  · rename_i k a k' b
    obtain ⟨h1, h2, h3, h4⟩ := h
    have e : ((a.toNat : Nat) : Int) = a := Int.toNat_of_nonneg h1
    have e' : ((b.toNat : Nat) : Int) = b := Int.toNat_of_nonneg (by omega)
    exact ⟨a.toNat, b.toNat, ⟨k, by rw [e]⟩, ⟨k', by rw [e']⟩, by omega, by omega, hk _ _ (fun v h => by cases h; exact ⟨k', by rw [e']⟩) h4⟩
  · exact h.elim
def tslS (x : V) (lo hi : Option V) (K : V → Prop) : Prop := match x with | .str s => tbounds s.size lo hi fun a b => K (.str (s.extract a b)) | _ => False
theorem tslS_ok {x : V} {lo hi : Option V} {K : V → Prop} (h : tslS x lo hi K) : aslS x lo hi K := by
  unfold tslS at h
  split at h
  · exact ⟨_, rfl, tbounds_ok h fun _ _ _ h => h⟩
  · exact h.elim
def tsl (sz : Nat) (x : V) (lo hi mx : Option V) (K : V → Prop) : Prop :=
  match x with
  | .sl l c => (∀ e ∈ l, e.cells.length = sz) ∧ tbounds l.length lo hi fun a b =>
    (match mx with | none => True | some v => v = (match hi with | some h => h | none => .nilp)) ∧ K (.sl ((l.take b).drop a) (bif mx.isSome then .full else .any))
  | .vw id sz' off len => sz' = sz ∧ tbounds len lo hi fun a b =>
    (match mx with | none => True | some v => v = (match hi with | some h => h | none => .nilp)) ∧ K (.vw id sz (off + a) (b - a))
  | _ => False
theorem tsl_ok {sz : Nat} {x : V} {lo hi mx : Option V} {K : V → Prop} (hm : (mx.isSome && hi.isNone) = false) (h : tsl sz x lo hi mx K) : asl sz x lo hi mx K := by
  unfold tsl at h
  split at h
  · refine ⟨h.1, tbounds_ok h.2 fun a b hb h => ?_⟩
    cases mx with
    | none => exact ⟨trivial, h.2⟩
    | some v =>
      cases hi with
      | none => simp at hm
      | some w =>
        simp only at h
        refine ⟨?_, h.2⟩
        rw [h.1]
        exact hb w rfl
  · refine ⟨h.1, tbounds_ok h.2 fun a b hb h => ?_⟩
    cases mx with
    | none => exact ⟨trivial, h.2⟩
    | some v =>
      cases hi with
      | none => simp at hm
      | some w =>
        simp only at h
        refine ⟨?_, h.2⟩
        rw [h.1]
        exact hb w rfl
  · exact h.elim

def tthe (s : Store) (m : V) (K : List (V × V) → Prop) : Prop :=
  match m with
  | .nilmap => K []
  | .map id => ∃ l, (s id = some (.map l) ∨ s id = some (.mapr l)) ∧ K l
  | _ => False
theorem tthe_ok {s : Store} {m : V} {K : List (V × V) → Prop} (h : tthe s m K) : ∃ l, theMap s m l ∧ K l := by
  unfold tthe at h
  split at h
  · exact ⟨[], .inl ⟨rfl, rfl⟩, h⟩
  · rename_i id
    obtain ⟨l, h1, h2⟩ := h
    exact ⟨l, .inr ⟨id, rfl, h1⟩, h2⟩
  · exact h.elim
def tlook (kk : KK) (z : V) (ok : Bool) (sh : Sh) (m k : V) (s : Store) (K : V → Prop) : Prop :=
  tif (hasKK kk k) (tthe s m fun l => (∀ e ∈ l, hasKK kk e.1 = true) ∧ ∃ v, (mlook l k).getD z = v ∧ opn sh v fun v => tval (bif ok then .tup [v, .bool (mlook l k).isSome] else v) K)
theorem tlook_ok {kk : KK} {z : V} {ok : Bool} {sh : Sh} {m k : V} {s : Store} {K : V → Prop} (h : tlook kk z ok sh m k s K) : alook kk z ok m k s K := by
  obtain ⟨h1, h⟩ := tif_ok h
  obtain ⟨l, h2, h3, v, rfl, h4⟩ := tthe_ok h
  refine ⟨l, h2, h1, h3, ?_⟩
  have := opn_k h4
  unfold tval at this
  cases hm : mlook l k <;> cases ok <;> simpa [hm] using this
def tmput (kk : KK) (m k x : V) (s : Store) (K : Store → Prop) : Prop :=
  match m with
  | .map id => tif (hasKK kk k) (∃ l, s id = some (.map l) ∧ (∀ e ∈ l, hasKK kk e.1 = true) ∧ K (s.upd id (.map (mput l k x))))
  | _ => False
theorem tmput_ok {kk : KK} {m k x : V} {s : Store} {K : Store → Prop} (h : tmput kk m k x s K) : amput kk m k x s K := by
  unfold tmput at h
  split at h
  · rename_i id
    obtain ⟨h1, l, h2, h3, h4⟩ := tif_ok h
    exact ⟨id, l, rfl, h2, h1, h3, h4⟩
  · exact h.elim
def tmdel (kk : KK) (m k : V) (s : Store) (K : Store → Prop) : Prop :=
  match m with
  | .map id => tif (hasKK kk k) (∃ l, s id = some (.map l) ∧ (∀ e ∈ l, hasKK kk e.1 = true) ∧ K (s.upd id (.map (mdel l k))))
  | _ => False
theorem tmdel_ok {kk : KK} {m k : V} {s : Store} {K : Store → Prop} (h : tmdel kk m k s K) : amdel kk m k s K := by
  unfold tmdel at h
  split at h
  · rename_i id
    obtain ⟨h1, l, h2, h3, h4⟩ := tif_ok h
    exact ⟨id, l, rfl, h2, h1, h3, h4⟩
  · exact h.elim

/-- a map is gone through -/
def trange (d : Option TypeDesc) (m : V) (s : Store) (K : V → Store → Prop) : Prop :=
  match d, m with
  | some (.map _ _), .map id => ∃ l, s id = some (.map l) ∧ ∀ it, s it = none → K (.ptr it 0) ((s.upd id (.mapr l)).upd it (.iter id none l))
  | _, _ => False
theorem trange_ok {d : Option TypeDesc} {m : V} {s : Store} {K : V → Store → Prop} (h : trange d m s K) : arange d m s K := by
  unfold trange at h
  split at h
  · obtain ⟨l, h1, h2⟩ := h; exact ⟨_, l, rfl, h1, h2⟩
  · exact h.elim
def tnext (it : V) (s : Store) (K : V → Store → Prop) : Prop :=
  match it with
  | .ptr i 0 => ∃ m cur left l, s i = some (.iter m cur left) ∧ s m = some (.mapr l) ∧ (left = [] → K (.tup [.bool false]) s) ∧
    ∀ a k v b, left = a ++ (k, v) :: b → K (.tup [.bool true, k, v]) (s.upd i (.iter m (some (k, v)) (a ++ b)))
  | _ => False
theorem tnext_ok {it : V} {s : Store} {K : V → Store → Prop} (h : tnext it s K) : anext it s K := by
  unfold tnext at h
  split at h
  · obtain ⟨m, cur, left, l, h1, h2, h3, h4⟩ := h
    exact ⟨_, m, cur, left, l, rfl, h1, h2, h3, fun a x b he => h4 a x.1 x.2 b he⟩
  · exact h.elim
def tentry (sh : Sh) (it : V) (s : Store) (K : V → Prop) : Prop :=
  match it with
  | .ptr i 0 => ∃ m k v left l, s i = some (.iter m (some (k, v)) left) ∧ s m = some (.mapr l) ∧ opn sh (.tup [k, v]) K
  | _ => False
theorem tentry_ok {sh : Sh} {it : V} {s : Store} {K : V → Prop} (h : tentry sh it s K) : aentry it s K := by
  unfold tentry at h
  split at h
  · obtain ⟨m, k, v, left, l, h1, h2, h3⟩ := h
    exact ⟨_, m, (k, v), left, l, rfl, h1, h2, opn_k h3⟩
  · exact h.elim

def tlen (d : Option TypeDesc) (x : V) (s : Store) (K : V → Prop) : Prop :=
  match d with
  | some (.slice _) => match x with | .sl l _ => K (.int .i64 l.length) | .vw _ _ _ len => K (.int .i64 len) | _ => False
  | some .string => match x with | .str b => K (.int .i64 b.size) | _ => False
  | some (.map _ _) => tthe s x fun l => K (.int .i64 l.length)
  | _ => False
theorem tlen_ok {d : Option TypeDesc} {x : V} {s : Store} {K : V → Prop} (h : tlen d x s K) : alen d x s K := by
  unfold tlen at h
  unfold alen
  split at h
  · exact h
  · split at h
    · exact ⟨_, rfl, h⟩
    · exact h.elim
  · obtain ⟨l, h1, h2⟩ := tthe_ok h; exact ⟨l, h1, h2⟩
  · exact h.elim

/-- what append gives -/
def appOut (sz : Nat) (l' : List V) (c : Cap) (s : Store) (c2 : Cap) (s2 : Store) : Prop :=
  (l' = [] ∧ c2 = c ∧ s2 = s) ∨ (l' ≠ [] ∧ ∃ t, s t = none ∧ c2 = .tip t ∧ ((c = .full ∧ s2 = s.upd t (.tip sz)) ∨ ∃ t0, c = .tip t0 ∧ s2 = (s.del t0).upd t (.tip sz)))
def growable (sz : Nat) (c : Cap) (s : Store) : Prop := c = .full ∨ ∃ t, c = .tip t ∧ s t = some (.tip sz)
def tapp (sz : Nat) (l : List V) (c : Cap) (l' : List V) (s : Store) (K : List V → Cap → Store → Prop) : Prop :=
  l.length + l'.length ≤ 4294967296 ∧ (∀ e ∈ l, e.cells.length = sz) ∧ allFit sz l' ∧ (l' ≠ [] → growable sz c s) ∧ ∀ c2 s2, appOut sz l' c s c2 s2 → K (l ++ l') c2 s2
/-- append to what is written in place -/
def tappW (sz : Nat) (x y : V) (s : Store) (K : Nat → Nat → Store → Prop) : Prop :=
  match x with
  | .vw id sz' off len => ∃ l l', slc s x = some l ∧ slc s y = some l' ∧ l.length + l'.length ≤ 4294967296 ∧ (∀ e ∈ l, e.cells.length = sz) ∧ allFit sz l' ∧ 0 < sz ∧ (sz' = 0 ∨ (sz' = sz ∧ ∃ l0, s id = some (.arr sz l0))) ∧ l' ≠ [] ∧
      ∀ id', s id' = none → K id' (l.length + l'.length) ((vwDel s id sz').upd id' (.arr sz (l ++ l')))
  | _ => False
def tappV (sz : Nat) (x y : V) (s : Store) (K : V → Store → Prop) : Prop :=
  match x, y with
  | .sl l c, .sl l' _ => tapp sz l c l' s fun l2 c2 s2 => K (.sl l2 c2) s2
  | .vw id sz' off len, .sl (a :: r) c => tappW sz (.vw id sz' off len) (.sl (a :: r) c) s fun id' n s' => K (.vw id' sz 0 n) s'
  | .vw id sz' off len, y => (slc s y = some [] ∧ (∃ l, slc s (.vw id sz' off len) = some l ∧ l.length ≤ 4294967296 ∧ (∀ e ∈ l, e.cells.length = sz)) ∧ 0 < sz ∧ (sz' = 0 ∨ (sz' = sz ∧ ∃ l0, s id = some (.arr sz l0))) ∧ K (.vw id sz' off len) s) ∨
      tappW sz (.vw id sz' off len) y s fun id' n s' => K (.vw id' sz 0 n) s'
  | _, _ => False
theorem tappV_ok {sz : Nat} {x y : V} {s : Store} {K : V → Store → Prop} (h : tappV sz x y s K) : aapp sz x y s K := by
  unfold tappV at h
  split at h
  · rename_i l c l' c'
    obtain ⟨h1, h2, h3, h4, h5⟩ := h
    refine ⟨l, l', rfl, rfl, h1, h2, h3, fun hl => ?_, fun hl => ⟨fun hc t ht => ?_, fun t hc => ⟨?_, fun t' ht' => ?_⟩, ?_⟩⟩
    · subst hl
      have := h5 c s (.inl ⟨rfl, rfl, rfl⟩)
      simpa using this
    · exact h5 _ _ (.inr ⟨hl, t, ht, rfl, .inl ⟨hc, rfl⟩⟩)
    · rcases h4 hl with h | ⟨t', h, h'⟩
      · rw [hc] at h; cases h
      · rw [hc] at h; cases h; exact h'
    · exact h5 _ _ (.inr ⟨hl, t', ht', rfl, .inr ⟨t, hc, rfl⟩⟩)
    · rcases h4 hl with h | ⟨t', h, h'⟩ <;> rw [h] <;> simp
  · rename_i id sz' off len a r c
    obtain ⟨l, l', h1, h2, h3, h4, h5, h6, h7, h8, h9⟩ := h
    exact ⟨l, l', h1, h2, h3, h4, h5, h6, h7, fun h => absurd h h8, fun _ => h9⟩
  · rename_i id sz' off len y _
    rcases h with ⟨h1, ⟨l, h2, h3, h4⟩, h5, h6, h7⟩ | h
    · exact ⟨l, [], h2, h1, by simpa using h3, h4, trivial, h5, h6, fun _ => h7, fun h => absurd rfl h⟩
    · obtain ⟨l, l', h1, h2, h3, h4, h5, h6, h7, h8, h9⟩ := h
      exact ⟨l, l', h1, h2, h3, h4, h5, h6, h7, fun h => absurd h h8, fun _ => h9⟩
  · exact h.elim

/-- what an object is behind a write -/
def putO (s : Store) (id off n : Nat) (xs : List V) (o : Obj) : Prop :=
  (∃ cs, s id = some (.cells cs) ∧ off + n ≤ cs.length ∧ o = .cells (wr cs off xs)) ∨
  ∃ sz l l', s id = some (.arr sz l) ∧ 0 < n ∧ off + n ≤ (l.flatMap V.cells).length ∧ l'.flatMap V.cells = wr (l.flatMap V.cells) off xs ∧ (∀ e ∈ l', e.cells.length = sz) ∧ o = .arr sz l'
def tpart (H : Hints) (env : Env) (x : Operand) (dst : Option Nat) (off : Nat) (K : Slot → Prop) : Prop :=
  match x, slotOf env x, dst with
  | .tmp k, .box _, some d => tif (mem d (H.lr k)) (K (.ref k off))
  | _, .ref k o, some d => tif (mem d (H.lr k)) (K (.ref k (o + off)))
  | _, .elt e o, _ => K (.elt e (o + off))
  | _, .v (.ptr id o), _ => K (.v (.ptr id (o + off)))
  | _, _, _ => False
theorem tpart_ok {H : Hints} {env : Env} {x : Operand} {dst : Option Nat} {off : Nat} {K : Slot → Prop} (h : tpart H env x dst off K) : partAddr H env x dst off K := by
  unfold tpart at h
  unfold partAddr
  cases hs : slotOf env x with
  | v p => rw [hs] at h; cases p <;> cases x <;> first | exact ⟨_, _, rfl, h⟩ | exact h.elim
  | box cs => rw [hs] at h; cases x <;> cases dst <;> first | exact h | exact h.elim
  | ref k o => rw [hs] at h; cases x <;> cases dst <;> first | exact h | exact h.elim
  | elt k o => rw [hs] at h; cases x <;> first | exact h | exact h.elim
  | junk => rw [hs] at h; cases x <;> first | exact h | exact h.elim
  | undef => rw [hs] at h; cases x <;> first | exact h | exact h.elim
def tnilOut (H : Hints) (dst : Option Nat) (x : Operand) (env : Env) (K : Slot → Prop) : Prop :=
  match x, slotOf env x with
  | .tmp k, .box _ => tpart H env (.tmp k) dst 0 K
  | x, .ref _ _ => tpart H env x dst 0 K
  | _, .elt e off => K (.elt e off)
  | _, .v p => tif (notNil p) (K (.v p))
  | _, _ => False
theorem tnilOut_ok {H : Hints} {env : Env} {x : Operand} {dst : Option Nat} {K : Slot → Prop} (h : tnilOut H dst x env K) : nilOut H dst x env K := by
  unfold tnilOut at h
  unfold nilOut
  cases hs : slotOf env x with
  | v p => rw [hs] at h; cases x <;> exact tif_ok h
  | box cs => rw [hs] at h; cases x <;> first | exact tpart_ok h | exact h.elim
  | ref k o => rw [hs] at h; cases x <;> exact tpart_ok h
  | elt k o => rw [hs] at h; cases x <;> exact h
  | junk => rw [hs] at h; cases x <;> exact h.elim
  | undef => rw [hs] at h; cases x <;> exact h.elim

end Go.Proofs.YtdeondiigpidnaaGreat.Ab
end

section
set_option linter.unusedVariables false
set_option linter.unusedSimpArgs false
/- The typed reading of operations and of code, and that it is enough. -/
namespace Go.Proofs.YtdeondiigpidnaaGreat.Ab
open Go
set_option linter.unusedSectionVars false
variable [Fwd]
set_option linter.unusedVariables false
set_option linter.unusedSimpArgs false

def tmax (x y : V) (K : V → Prop) : Prop := match x, y with | .int k a, .int k' b => tif (decide (k = k')) (K (.int k (max a b))) | _, _ => False
def tmin (x y : V) (K : V → Prop) : Prop := match x, y with | .int k a, .int k' b => tif (decide (k = k')) (K (.int k (min a b))) | _, _ => False
theorem tmax_ok {x y : V} {K : V → Prop} (h : tmax x y K) : ∃ k a b, x = .int k a ∧ y = .int k b ∧ K (.int k (if b > a then b else a)) := by
  unfold tmax at h
  split at h
  · rename_i k a k' b
    obtain ⟨h2, hk⟩ := tif_ok h
    have := of_decide_eq_true h2
    subst this
    have e : (if b > a then b else a) = max a b := by simp only [Int.max_def]; split <;> split <;> omega
    exact ⟨_, _, _, rfl, rfl, by rw [e]; exact hk⟩
  · exact h.elim
theorem tmin_ok {x y : V} {K : V → Prop} (h : tmin x y K) : ∃ k a b, x = .int k a ∧ y = .int k b ∧ K (.int k (if b < a then b else a)) := by
  unfold tmin at h
  split at h
  · rename_i k a k' b
    obtain ⟨h2, hk⟩ := tif_ok h
    have := of_decide_eq_true h2
    subst this
    have e : (if b < a then b else a) = min a b := by simp only [Int.min_def]; split <;> split <;> omega
    exact ⟨_, _, _, rfl, rfl, by rw [e]; exact hk⟩
  · exact h.elim

def tout (P : Program) (H : Hints) (qc : Bool) (dst : Option Nat) (op : Op) (env : Env) (s : Store) (K : Slot → Prop) : Prop :=
  match op with
  | .move x | .assign x => get (opnd env x) fun v => tval (toVw (muD H dst) v) fun v => K (.v v)
  | .pick c a b => get (opnd env c) fun c => tcond true c (get (opnd env a) fun v => K (.v v)) (get (opnd env b) fun v => K (.v v))
  | .build T ps => get (tplacesT P T) fun pl => get (zeroT P T) fun z => get (tparts pl env ps.toList) fun l => tfill l z.cells fun cs => tval (.agg cs) fun v => K (.v v)
  | .buildSlice T n ps => get (elemT P T) fun e => get (zeroT P e) fun _ => get (tk P e) fun k => get (sizeT P e) fun sz => get (elems env 0 ps.toList) fun l =>
      tif (Nat.ble (n * sz) 16777216 && Nat.beq l.length n) (tfitAll k sz l (tval (.sl l .full) fun v => K (.v v)))
  | .load T a => get (tk P T) fun k =>
      match slotOf env a with
      | .box cs => trd k cs 0 fun v => tval v fun v => K (.v v)
      | .ref b off => match env b with | .box cs => trd k cs off fun v => tval v fun v => K (.v v) | _ => False
      | .elt x off => trd k x.cells off fun v => tval v fun v => K (.v v)
      | .v p => tif (!(qc && isLc H a)) (tload k (shT P T) p s fun v => K (.v v))
      | _ => False
  | .nilCheck x => tnilOut H dst x env K
  | .binOp op T x y _ => get (opnd env x) fun xv => get (opnd env y) fun yv =>
      match opK P T with
      | some .num => tbin op xv yv fun v => tval v fun v => K (.v v)
      | some (.eq k) => teq k xv yv fun b => tcmp op b fun v => tval v fun v => K (.v v)
      | some .sl => tif (isNilSlice y) (tnil xv fun b => tcmp op b fun v => tval v fun v => K (.v v))
      | some .agg => get (aggEq P T) fun ks => taggEq ks xv yv fun b => tcmp op b fun v => tval v fun v => K (.v v)
      | none => False
  | .unOp op _ x => get (opnd env x) fun x => tun op x fun v => tval v fun v => K (.v v)
  | .convert src dst x => get (opnd env x) fun x => tconv (P.underlying src) (P.underlying dst) x fun v => tval v fun v => K (.v v)
  | .makeInterface T x => get (opnd env x) fun x =>
      match P.underlying T with
      | some (.interface _) | none => False
      | some _ => K (.v (.iface T x))
  | .makeFunc fn a b => get (opnds env a.toList) fun a => get (opnds env b.toList) fun b => K (.v (.fn fn a b))
  | .slice T x lo hi mx => get (opnd env x) fun x => get (opndO env lo) fun lo => get (opndO env hi) fun hi => get (opndO env mx) fun mx =>
      match P.underlying T with
      | some .string => tif (!mx.isSome) (tslS x lo hi fun v => tval v fun v => K (.v v))
      | some (.slice e) => get (sizeT P e) fun sz => tif (!(mx.isSome && hi.isNone)) (tsl sz x lo hi mx fun v => tval v fun v => K (.v v))
      | _ => False
  | .fieldAddr T x f => get (fieldT P T f) fun tf => get (sizeT P tf.1) fun n => tif (!Nat.beq n 0) (tpart H env x dst tf.2 K)
  | .field T x f => get (opnd env x) fun x => get (fieldT P T f) fun tf => get (tk P tf.1) fun k => match x with | .agg cs => trd k cs tf.2 fun v => tval v fun v => K (.v v) | _ => False
  | .indexAddr T x i => get (opnd env i) fun i =>
      match P.underlying T with
      | some (.slice e) => get (sizeT P e) fun sz => get (opnd env x) fun x => tidx sz (.a (shA P e)) x i K
      | some (.array len e) => get (sizeT P e) fun sz => match i with
        | .int k n => 0 ≤ n ∧ n < len ∧ tpart H env x dst (n.toNat * sz) K
        | _ => False
      | _ => False
  | .index T x i => get (opnd env i) fun i => get (opnd env x) fun x =>
      match P.underlying T with
      | some .string => tidxS x i fun v => K (.v v)
      | _ => False
  | .lookup T m k ok => get (opnd env m) fun m => get (opnd env k) fun k => get (mapT P T) fun t =>
      match P.underlying T with
      | some (.map _ e) => match t with | (kk, z) => tlook kk z ok (.a (shA P e)) m k s fun v => K (.v v)
      | _ => False
  | .extract t i => get (opnd env t) fun t => match t with | .tup l => get l[i]? fun v => K (.v v) | _ => False
  | .call c => get (opnds env c.args.toList) fun args =>
      match c.callee with
      | .builtin b => match b, args, c.argTypes.toList with
        | .len, [x], T :: _ => tlen (P.underlying T) x s fun v => K (.v v)
        | .max, [x, y], _ => tmax x y fun v => K (.v v)
        | .min, [x, y], _ => tmin x y fun v => K (.v v)
        | _, _, _ => False
      | _ => False
  | _ => False

/-- the shape of what a call gives -/
def shR (P : Program) (S : Shapes) (f : Nat) (T : TypeId) : Sh := match S.res f with | some sh => sh | none => shT P T

/-- a call of a function that is a value -/
def tcallv (P : Program) (S : Shapes) (T : TypeId) (f : V) (args : List V) (s : Store) (K : V → Store → Prop) : Prop :=
  ∃ g a b, f = .fn (.func g) a b ∧ AC P g (a ++ args ++ b) s fun r s' => opn (shT P T) r fun r => K r s'
theorem tcallv_ok {P : Program} {S : Shapes} {T : TypeId} {f : V} {args : List V} {s : Store} {K : V → Store → Prop} (h : tcallv P S T f args s K) : acall P f args s K := by
  obtain ⟨g, a, b, h1, h2⟩ := h
  exact ⟨g, a, b, h1, h2.mono fun _ _ h => opn_k h⟩

def tnewR (H : Hints) (dst : Option Nat) (cs : List V) (s : Store) (R : RCont) : Prop :=
  match dst with
  | none => False
  | some d => tif (Nat.blt d H.n)
      (bif H.esc d then ∀ id, s id = none → R (fun env => put H env dst (.v (.ptr id 0))) (s.upd id (.cells cs))
      else R (fun env => set (junkAll env (H.lr d)) d (.box cs)) s)

/-- what a write does to the store -/
def tput (s : Store) (id off n : Nat) (xs : List V) (K : Store → Prop) : Prop :=
  ∃ o, putO s id off n xs o ∧ K (s.upd id o)
def tstore (H : Hints) (o : Oper) (n : Nat) (xs : List V) (a : Operand) (env : Env) (s : Store) (R : RCont) : Prop :=
  match a, slotOf env a with
  | .tmp b, .box cs => tif (Nat.beq xs.length cs.length) (R (fun env => put H (set env b (.box xs)) o.dst .undef) s)
  | a, .ref b off => tif (refIn H a b) (match env b with
    | .box cs => tif (Nat.ble (off + n) cs.length) (tvals (wr cs off xs) fun cs => R (fun env => put H (set env b (.box cs)) o.dst .undef) s)
    | _ => False)
  | _, .v p => match p with
    | .ptr id off => tput s id off n xs fun s' => R (fun env => put H env o.dst .undef) s'
    | _ => False
  | _, _ => False

def taopR (P : Program) (H : Hints) (S : Shapes) (qc : Bool) (o : Oper) (env : Env) (s : Store) (R : RCont) : Prop :=
  match o.op with
  | .alloc T => get (zeroT P T) fun z => tvals z.cells fun cs => tnewR H o.dst cs s R
  | .box T x => get (sizeT P T) fun n => get (tk P T) fun k => get (opnd env x) fun x => tcells k x fun xs => tif (Nat.beq xs.length n) (tnewR H o.dst xs s R)
  | .store T a x => get (sizeT P T) fun n => get (tk P T) fun k => get (opnd env x) fun x => tcells k x fun xs => tif (Nat.beq xs.length n) (tstore H o n xs a env s R)
  | .range T x => get (opnd env x) fun x => trange (P.underlying T) x s fun v s' => R (fun env => put H env o.dst (.v v)) s'
  | .next x str => get (opnd env x) fun x => tif (!str) (tnext x s fun v s' => R (fun env => put H env o.dst (.v v)) s')
  | .entry x => get (opnd env x) fun x => tentry (.a (.sc .any)) x s fun v => R (fun env => put H env o.dst (.v v)) s
  | .makeMap _ r => match r with
      | none => ∀ id, s id = none → R (fun env => put H env o.dst (.v (.map id))) (s.upd id (.map []))
      | some _ => False
  | .mapUpdate T m k x | .insert T m k x => get (opnd env m) fun m => get (opnd env k) fun k => get (opnd env x) fun x => get (mapT P T) fun t => match t with | (kk, _) => tmput kk m k x s fun s' => R (fun env => put H env o.dst .undef) s'
  | .call c =>
      match c.callee with
      | .value (.func f) => get (opnds env c.args.toList) fun args =>
          bif qc && H.quiet f then AC P f args s (fun r s' => s.le s' ∧ opn (shR P S f o.type) r fun r => R (fun env => put H env o.dst (.v r)) s')
          else AC P f args s fun r s' => opn (shR P S f o.type) r fun r => R (fun env => put H env o.dst (.v r)) s'
      | .value f => get (opnds env c.args.toList) fun args => get (opnd env f) fun f => tcallv P S o.type f args s fun r s' => R (fun env => put H env o.dst (.v r)) s'
      | .invoke _ _ => False
      | .builtin .append => get (opnds env c.args.toList) fun args => match args, c.argTypes.toList with
        | [x, y], [T, T'] => get (elemT P T) fun e => get (elemT P T') fun _ => get (sizeT P e) fun sz => get (bytesT P e) fun by' => get (zeroT P e) fun z =>
            tif (Nat.ble by' 8192 && Nat.beq z.cells.length sz) (tappV sz x y s fun r s' => R (fun env => put H env o.dst (.v r)) s')
        | _, _ => False
      | .builtin .delete => get (opnds env c.args.toList) fun args => match args, c.argTypes.toList with
        | [m, k], T :: _ => get (mapT P T) fun t => match t with | (kk, _) => tmdel kk m k s fun s' => R (fun env => put H env o.dst .undef) s'
        | _, _ => False
      | .builtin _ => tout P H qc o.dst o.op env s fun x => R (fun env => put H env o.dst x) s
  | _ => tout P H qc o.dst o.op env s fun x => R (fun env => put H env o.dst x) s

def taop (P : Program) (H : Hints) (S : Shapes) (qc : Bool) (o : Oper) (env : Env) (s : Store) (K : Cont) : Prop := taopR P H S qc o env s (contOf env K)
def taopG (P : Program) (H : Hints) (S : Shapes) (qc : Bool) (ops : List Oper) (o : Oper) (env : Env) (s : Store) (K : Cont) : Prop :=
  match o.guard with
  | none => taop P H S qc o env s K
  | some (j, want) => match dstAt ops j with
    | none => False
    | some d => match env d with
      | .undef => K (put H env o.dst .undef) s
      | .v g => tcond want g (taop P H S qc o (set env d (.v (.bool want))) s K) (K (put H (set env d (.v (.bool !want))) o.dst .undef) s)
      | _ => False
def taops (P : Program) (H : Hints) (S : Shapes) (qc : Bool) (ops : List Oper) : List Oper → Env → Store → Cont → Prop
  | [], env, s, K => K env s
  | o :: r, env, s, K => taopG P H S qc ops o env s fun env s => taops P H S qc ops r env s K

def tawp (P : Program) (H : Hints) (S : Shapes) : Code → Post → Cont
  | .skip, Q, env, s => Q .normal env s
  | .label _, Q, env, s => Q .normal env s
  | .region id ops draw, Q, env, s =>
    bif draw then taops P H S true ops.toList (ordered H id ops.toList) env s (Q .normal) else taops P H S false ops.toList ops.toList env s (Q .normal)
  | .seq a b, Q, env, s =>
    match firstR b with
    | none => tawp P H S a (thenQ (tawp P H S b Q) Q) env s
    | some j => match H.join j with
      | none => tawp P H S a (thenQ (tawp P H S b Q) Q) env s
      | some cl => ∃ J : List V → Store → Prop, (∀ vs s, J vs s → opL (S.carry j) fun us => vs = us ∧ tawp P H S b Q (headEnv H env (asg H a) cl us) s) ∧
          tawp P H S a (thenQ (fun env' s' => getVs H env' cl fun vs => tvals vs fun vs => J vs s') Q) env s
  | .cond c a b, Q, env, s => get (opnd env c) fun c => tcond true c (tawp P H S a Q env s) (tawp P H S b Q env s)
  | .block id c, Q, env, s => tawp P H S c (fun e env s => match e with | .exit i => bif Nat.beq i id then Q .normal env s else Q (.exit i) env s | e => Q e env s) env s
  | .loop c, Q, env, s =>
    match firstR c with
    | none => False
    | some j => getVs H env (H.carry j) fun vs => tvals vs fun vs =>
      lfp (fun X vs s => opL (S.carry j) fun us => vs = us ∧ tawp P H S c (thenQ (fun env' s' => getVs H env' (H.carry j) fun vs' => tvals vs' fun vs' => X vs' s') Q) (headEnv H env (asg H c) (H.carry j) us) s) vs s
  | .exit id, Q, env, s => Q (.exit id) env s
  | .ret, Q, env, s => Q .ret env s
  | .scope c, Q, env, s => tawp P H S c Q env s
  | _, _, _, _ => False

def tresV (P : Program) (env : Env) (s : Store) : ResultVar → (V → Prop) → Prop
  | .tmp t, K => get (opnd env (.tmp t)) K
  | .cell a T, K => get (tk P T) fun k => match env a with
    | .box cs => trd k cs 0 fun v => tval v K
    | .v p => tload k (shT P T) p s K
    | _ => False
def tresVs (P : Program) (env : Env) (s : Store) : List ResultVar → (List V → Prop) → Prop
  | [], K => K []
  | x :: r, K => tresV P env s x fun v => tresVs P env s r fun vs => K (v :: vs)
def tbodyQ (P : Program) (rs : List ResultVar) (K : V → Store → Prop) : Post
  | .exit _, _, _ => False
  | _, env, s => tresVs P env s rs fun vs => K (Ab.one vs) s
def tfun (P : Program) (H : Hints) (S : Shapes) (fn : Func) (args : List V) (s : Store) (K : V → Store → Prop) : Prop :=
  match fn.body with
  | some c => tif (Nat.ble args.length H.n) (tawp P H S c (tbodyQ P fn.results.toList K) (envOf args) s)
  | none => False

section
variable {P : Program} {H : Hints} {S : Shapes} {env : Env}

theorem tout_ok {qc : Bool} {d : Option Nat} {op : Op} {s : Store} {K : Slot → Prop} (h : tout P H qc d op env s K) : outR P H qc d op env s K := by
  unfold tout at h
  unfold outR
  cases op with
  | move x => exact h
  | assign x => exact h
  | pick c a b =>
    obtain ⟨v, h1, h⟩ := get_some h
    simp only [h1, Ab.get]
    exact tcond_ok h id id
  | build T ps =>
    obtain ⟨pl, h1, h⟩ := get_some h
    obtain ⟨z, h2, h⟩ := get_some h
    obtain ⟨l, h3, h⟩ := get_some h
    simp only [tplacesT_ok h1, h2, tparts_ok h3, Ab.get]
    exact tfill_ok h
  | buildSlice T n ps =>
    obtain ⟨e, h1, h⟩ := get_some h
    obtain ⟨z, h2, h⟩ := get_some h
    obtain ⟨k, h3, h⟩ := get_some h
    obtain ⟨sz, h4, h⟩ := get_some h
    obtain ⟨l, h5, h⟩ := get_some h
    obtain ⟨h6, h⟩ := tif_ok h
    simp only [h1, h2, h4, h5, Ab.get, h6, cond_true]
    exact tfitAll_ok h
  | load T a =>
    obtain ⟨k, h1, h⟩ := get_some h
    simp only [h1, Ab.get]
    revert h
    cases slotOf env a with
    | box cs => exact trd_ok
    | ref b off => intro h; cases hb : env b <;> simp only [hb] at h ⊢ <;> exact trd_ok h
    | elt x off => exact trd_ok
    | v p =>
      intro h
      obtain ⟨h2, h⟩ := tif_ok h
      rw [Bool.not_eq_true'] at h2
      simp only [h2, cond_false]
      exact tload_ok h
    | junk => exact id
    | undef => exact id
  | nilCheck x => exact tnilOut_ok h
  | binOp op T x y T' =>
    obtain ⟨xv, h1, h⟩ := get_some h
    obtain ⟨yv, h2, h⟩ := get_some h
    simp only [h1, h2, Ab.get]
    revert h
    cases opK P T with
    | none => exact id
    | some k =>
      cases k with
      | num => exact tbin_ok
      | eq k => exact teq_ok
      | sl =>
        intro h
        obtain ⟨h3, h⟩ := tif_ok h
        simp only [h3, cond_true]
        exact tnil_ok h fun b => tcmp_ok
      | agg =>
        intro h
        obtain ⟨ks, h3, h⟩ := get_some h
        simp only [h3]
        exact taggEq_ok h fun b => tcmp_ok
  | unOp op T x =>
    obtain ⟨xv, h1, h⟩ := get_some h
    simp only [h1, Ab.get]
    exact get_some h
  | convert src dst x =>
    obtain ⟨xv, h1, h⟩ := get_some h
    simp only [h1, Ab.get]
    unfold tconv at h
    split at h
    · rename_i a b hs hd
      simp only [hs, hd]
      exact ⟨_, _, rfl, h⟩
    · rename_i hs hd
      simp only [hs, hd]
      exact ⟨_, rfl, h⟩
    · exact h.elim
  | makeInterface T x => exact h
  | makeFunc f a b => exact h
  | slice T x lo hi mx =>
    obtain ⟨_, h1, h⟩ := get_some h
    obtain ⟨_, h2, h⟩ := get_some h
    obtain ⟨_, h3, h⟩ := get_some h
    obtain ⟨m, h4, h⟩ := get_some h
    simp only [h1, h2, h3, h4, Ab.get]
    revert h
    split
    · rename_i hu
      intro h
      obtain ⟨h5, h⟩ := tif_ok h
      rw [Bool.not_eq_true'] at h5
      simp only [hu, h5, cond_false]
      exact tslS_ok h
    · rename_i hu
      intro h
      obtain ⟨sz, h5, h⟩ := get_some h
      obtain ⟨h6, h⟩ := tif_ok h
      rw [Bool.not_eq_true'] at h6
      simp only [hu, h5, h6, cond_false]
      exact tsl_ok h6 h
    · exact False.elim
  | fieldAddr T x f =>
    obtain ⟨_, h1, h⟩ := get_some h
    obtain ⟨_, h2, h⟩ := get_some h
    obtain ⟨h3, h⟩ := tif_ok h
    rw [Bool.not_eq_true'] at h3
    simp only [h1, h2, h3, Ab.get, cond_false]
    exact tpart_ok h
  | field T x f =>
    obtain ⟨v, h1, h⟩ := get_some h
    obtain ⟨_, h2, h⟩ := get_some h
    obtain ⟨_, h3, h⟩ := get_some h
    simp only [h1, h2, h3, Ab.get]
    cases v <;> first | exact ⟨_, rfl, trd_ok h⟩ | exact h.elim
  | indexAddr T x i =>
    obtain ⟨iv, h1, h⟩ := get_some h
    simp only [h1, Ab.get]
    revert h
    split
    · rename_i hu
      intro h
      obtain ⟨_, h2, h⟩ := get_some h
      obtain ⟨_, h3, h⟩ := get_some h
      simp only [hu, h2, h3]
      exact tidx_ok h
    · rename_i hu
      intro h
      obtain ⟨_, h2, h⟩ := get_some h
      simp only [hu, h2]
      cases iv <;> first | exact ⟨_, _, rfl, h.1, h.2.1, tpart_ok h.2.2⟩ | exact h.elim
    · exact False.elim
  | index T x i =>
    obtain ⟨iv, h1, h⟩ := get_some h
    obtain ⟨xv, h2, h⟩ := get_some h
    simp only [h1, h2, Ab.get]
    revert h
    split
    · rename_i hu; simp only [hu]; exact tidxS_ok
    · exact fun h => h.elim
  | lookup T m k ok =>
    obtain ⟨_, h1, h⟩ := get_some h
    obtain ⟨_, h2, h⟩ := get_some h
    obtain ⟨_, h3, h⟩ := get_some h
    simp only [h1, h2, h3, Ab.get]
    revert h
    split
    · exact tlook_ok
    · exact fun h => h.elim
  | extract t i =>
    obtain ⟨v, h1, h⟩ := get_some h
    simp only [h1, Ab.get]
    cases v <;> first | exact ⟨_, rfl, get_some h⟩ | exact h.elim
  | call c =>
    obtain ⟨args, h1, h⟩ := get_some h
    simp only [h1, Ab.get]
    revert h
    cases c.callee with
    | value f => exact id
    | invoke r n => exact id
    | builtin b =>
      simp only
      split
      · rename_i heq
        intro h
        simp only [heq]
        exact tlen_ok h
      · exact fun h => tmax_ok h
      · exact fun h => tmin_ok h
      · exact fun h => h.elim
  | _ => exact h

theorem tnewR_ok {d : Option Nat} {cs : List V} {s : Store} {R : RCont} (h : tnewR H d cs s R) : newVarR H d cs s R := by
  unfold tnewR at h
  unfold newVarR
  cases d with
  | none => exact h
  | some d =>
    obtain ⟨h1, h⟩ := tif_ok h
    simp only [h1, cond_true]
    exact h

theorem tstore_ok {o : Oper} {n : Nat} {x : V} {a : Operand} {s : Store} {R : RCont} (hf : fits x n) (h : tstore H o n x.cells a env s R) : storeOpR H o n x a env s R := by
  unfold tstore at h
  unfold storeOpR
  cases hs : slotOf env a with
  | box cs =>
    rw [hs] at h
    cases a with
    | tmp b =>
      obtain ⟨h1, h⟩ := tif_ok h
      exact ⟨hf, Nat.eq_of_beq_eq_true h1, h⟩
    | _ => exact h.elim
  | ref b off =>
    rw [hs] at h
    cases a with
    | tmp t =>
      obtain ⟨h1, h⟩ := tif_ok h
      simp only [h1, cond_true]
      cases hb : env b <;> simp only [hb] at h ⊢
      obtain ⟨h2, h⟩ := tif_ok h
      exact ⟨hf, Nat.le_of_ble_eq_true h2, h⟩
    | _ => exact absurd (tif_ok h).1 (by simp [refIn])
  | v p =>
    rw [hs] at h
    cases p with
    | ptr id off =>
      obtain ⟨ob, hp, h3⟩ := (show ∃ ob, putO s id off n x.cells ob ∧ R (fun env => put H env o.dst .undef) (s.upd id ob) from by cases a <;> exact h)
      have : astore n (.ptr id off) x s fun s' => R (fun env => put H env o.dst .undef) s' := by
        refine ⟨id, off, rfl, hf, ?_⟩
        rcases hp with ⟨cs, h1, h2, rfl⟩ | ⟨sz, l, l', h1, h2, h4, h5, h6, rfl⟩
        · exact .inl ⟨cs, h1, h2, h3⟩
        · exact .inr ⟨sz, l, l', h1, h2, h4, h5, h6, h3⟩
      cases a <;> exact this
    | _ => cases a <;> exact h.elim
  | elt _ _ => rw [hs] at h; cases a <;> exact h.elim
  | junk => rw [hs] at h; cases a <;> exact h.elim
  | undef => rw [hs] at h; cases a <;> exact h.elim

theorem taopR_ok {qc : Bool} {o : Oper} {s : Store} {R : RCont} (h : taopR P H S qc o env s R) : aopR P H qc o env s R := by
  unfold taopR at h
  unfold aopR
  cases hop : o.op with
  | alloc T =>
    rw [hop] at h
    obtain ⟨z, h1, h⟩ := get_some h
    simp only [h1, Ab.get]
    exact tnewR_ok h
  | box T x =>
    rw [hop] at h
    obtain ⟨n, h1, h⟩ := get_some h
    obtain ⟨k, h2, h⟩ := get_some h
    obtain ⟨v, h3, h⟩ := get_some h
    obtain ⟨h4, h⟩ := tcells_ok h
    obtain ⟨h5, h⟩ := tif_ok h
    simp only [h1, h3, Ab.get]
    exact ⟨⟨Nat.eq_of_beq_eq_true h5, h4⟩, tnewR_ok h⟩
  | store T a x =>
    rw [hop] at h
    obtain ⟨n, h1, h⟩ := get_some h
    obtain ⟨k, h2, h⟩ := get_some h
    obtain ⟨v, h3, h⟩ := get_some h
    obtain ⟨h4, h⟩ := tcells_ok h
    obtain ⟨h5, h⟩ := tif_ok h
    simp only [h1, h3, Ab.get]
    exact tstore_ok ⟨Nat.eq_of_beq_eq_true h5, h4⟩ h
  | range T x =>
    rw [hop] at h
    obtain ⟨v, h1, h⟩ := get_some h
    simp only [h1, Ab.get]
    exact trange_ok h
  | next x str =>
    rw [hop] at h
    obtain ⟨v, h1, h⟩ := get_some h
    obtain ⟨h2, h⟩ := tif_ok h
    rw [Bool.not_eq_true'] at h2
    simp only [h1, Ab.get, h2, cond_false]
    exact tnext_ok h
  | entry x =>
    rw [hop] at h
    obtain ⟨v, h1, h⟩ := get_some h
    simp only [h1, Ab.get]
    exact tentry_ok h
  | makeMap T r => rw [hop] at h; exact h
  | mapUpdate T x y z =>
    rw [hop] at h
    obtain ⟨_, h1, h⟩ := get_some h
    obtain ⟨_, h2, h⟩ := get_some h
    obtain ⟨_, h3, h⟩ := get_some h
    obtain ⟨_, h4, h⟩ := get_some h
    simp only [h1, h2, h3, h4, Ab.get]
    exact tmput_ok h
  | insert T x y z =>
    rw [hop] at h
    obtain ⟨_, h1, h⟩ := get_some h
    obtain ⟨_, h2, h⟩ := get_some h
    obtain ⟨_, h3, h⟩ := get_some h
    obtain ⟨_, h4, h⟩ := get_some h
    simp only [h1, h2, h3, h4, Ab.get]
    exact tmput_ok h
  | call c =>
    rw [hop] at h
    cases hcl : c.callee with
    | value f =>
      simp only [hcl] at h ⊢
      have val : ∀ {f : Operand}, (get (opnds env c.args.toList) fun args => get (opnd env f) fun f => tcallv P S o.type f args s fun r s' => R (fun env => put H env o.dst (.v r)) s') →
          get (opnds env c.args.toList) fun args => get (opnd env f) fun f => acall P f args s fun r s' => R (fun env => put H env o.dst (.v r)) s' := by
        intro f h
        obtain ⟨args, h1, h⟩ := get_some h
        obtain ⟨f, h2, h⟩ := get_some h
        simp only [h1, h2, Ab.get]
        exact tcallv_ok h
      cases f with
      | func f =>
        obtain ⟨args, h1, h⟩ := get_some h
        simp only [h1, Ab.get]
        revert h
        cases qc && H.quiet f with
        | true => simp only [cond_true]; exact fun h => h.mono fun _ _ h => ⟨h.1, opn_k h.2⟩
        | false => simp only [cond_false]; exact fun h => h.mono fun _ _ h => opn_k h
      | tmp t => exact val h
      | const t => exact val h
      | global t => exact val h
    | invoke r n => simp only [hcl] at h
    | builtin b =>
      cases b with
      | append =>
        simp only [hcl] at h ⊢
        obtain ⟨args, h1, h⟩ := get_some h
        simp only [h1, Ab.get]
        split at h
        · rename_i heq
          obtain ⟨_, h1, h⟩ := get_some h
          obtain ⟨_, h2, h⟩ := get_some h
          obtain ⟨_, h3, h⟩ := get_some h
          obtain ⟨_, h4, h⟩ := get_some h
          obtain ⟨_, h5, h⟩ := get_some h
          obtain ⟨h6, h⟩ := tif_ok h
          simp only [heq, h1, h2, h3, h4, h5, h6, cond_true]
          exact tappV_ok h
        · exact h.elim
      | delete =>
        simp only [hcl] at h ⊢
        obtain ⟨args, h1, h⟩ := get_some h
        simp only [h1, Ab.get]
        split at h
        · rename_i heq
          obtain ⟨_, h2, h⟩ := get_some h
          simp only [heq, h2]
          exact tmdel_ok h
        · exact h.elim
      | _ =>
        simp only [hcl] at h ⊢
        exact tout_ok h
  | _ =>
    rw [hop] at h
    exact tout_ok h

theorem taopG_ok {qc : Bool} {ops : List Oper} {o : Oper} {s : Store} {K : Cont} (h : taopG P H S qc ops o env s K) : aopG P H qc ops o env s K := by
  unfold taopG at h
  unfold aopG
  cases hg : o.guard with
  | none => rw [hg] at h; exact taopR_ok h
  | some g =>
    obtain ⟨j, want⟩ := g
    rw [hg] at h
    simp only at h ⊢
    cases hd : dstAt ops j with
    | none => rw [hd] at h; exact h.elim
    | some d =>
      simp only [hd] at h ⊢
      cases he : env d <;> simp only [he] at h ⊢
      · exact h
      · exact tcond_ok h taopR_ok id

theorem taops_ok {qc : Bool} {ops : List Oper} : ∀ {l : List Oper} {env : Env} {s : Store} {K : Cont}, taops P H S qc ops l env s K → aops P H qc ops l env s K
  | [], env, s, K, h => h
  | o :: r, env, s, K, h => by
    unfold taops at h
    unfold aops
    exact aopG_all (taopG_ok h) fun e s' _ hk => taops_ok hk

theorem opL_eq {l : List ShA} {vs : List V} {K : List V → Prop} (h : opL l fun us => vs = us ∧ K us) : K vs := by
  obtain ⟨us, rfl, h⟩ := opL_ex h; exact h

theorem tawp_ok : ∀ (code : Code) {Q : Post} {env : Env} {s : Store}, tawp P H S code Q env s → awp P H code Q env s
  | .skip, Q, env, s, h => h
  | .label _, Q, env, s, h => h
  | .exit _, Q, env, s, h => h
  | .ret, Q, env, s, h => h
  | .goto _, Q, env, s, h => h
  | .rangeFunc _ _ _ _, Q, env, s, h => h
  | .region id ops draw, Q, env, s, h => by
    unfold tawp at h
    unfold awp
    cases draw <;> exact taops_ok h
  | .seq a b, Q, env, s, h => by
    have plain : tawp P H S a (thenQ (tawp P H S b Q) Q) env s → awp P H a (thenQ (awp P H b Q) Q) env s := fun h =>
      awp_all a (tawp_ok a h) fun e env' s' _ hk => by
        cases e with
        | normal => exact tawp_ok b hk
        | _ => exact hk
    unfold tawp at h
    unfold awp
    have e : orElse (firstR b) none = firstR b := by cases firstR b <;> rfl
    rw [e]
    revert h
    cases firstR b with
    | none => exact plain
    | some j =>
      simp only
      cases H.join j with
      | none => exact plain
      | some cl =>
        rintro ⟨J, hJ, h⟩
        refine awp_all a (tawp_ok a h) fun e env' s' _ hk => ?_
        cases e with
        | normal =>
          obtain ⟨vs, h1, h2, _⟩ := getVs_spec _ _ hk
          exact h2 _ (tawp_ok b (opL_eq (hJ _ _ h1)))
        | _ => exact hk
  | .cond c a b, Q, env, s, h => by
    unfold tawp at h
    unfold awp
    obtain ⟨v, h1, h⟩ := get_some h
    simp only [h1, Ab.get]
    exact tcond_ok h (tawp_ok a) (tawp_ok b)
  | .block id c, Q, env, s, h => by
    unfold tawp at h
    unfold awp
    exact tawp_ok c h
  | .scope c, Q, env, s, h => by
    unfold tawp at h
    unfold awp
    exact tawp_ok c h
  | .loop c, Q, env, s, h => by
    unfold tawp at h
    unfold awp
    revert h
    cases firstR c with
    | none => exact id
    | some j =>
      intro h
      obtain ⟨vs, h1, h2, _⟩ := getVs_spec _ _ h
      refine h2 _ fun X hX => h1 X fun vs s hF => hX _ _ (tawp_ok c (opL_eq hF))

theorem tresVs_ok {s : Store} : ∀ {rs : List ResultVar} {K : List V → Prop}, tresVs P env s rs K → resVs P env s rs K
  | [], K, h => h
  | r :: t, K, h => by
    unfold tresVs at h
    unfold resVs
    have mono : ∀ {K' : V → Prop}, (∀ v, tresVs P env s t (fun vs => K (v :: vs)) → K' v) → tresV P env s r (fun v => tresVs P env s t fun vs => K (v :: vs)) → resV P env s r K' := by
      intro K' hk h
      unfold tresV at h
      unfold resV
      cases r with
      | tmp t =>
        obtain ⟨v, h1, h⟩ := get_some h
        simp only [h1, Ab.get]
        exact hk _ h
      | cell a T =>
        obtain ⟨k, h1, h⟩ := get_some h
        simp only [h1, Ab.get]
        revert h
        cases env a with
        | box cs => exact fun h => let ⟨v, h1, h2⟩ := trd_ok h; ⟨v, h1, hk _ h2⟩
        | v p =>
          intro h
          obtain ⟨id, off, o, cs, h1, h2, h3, x, h4, h5⟩ := tload_ok h
          exact ⟨id, off, o, cs, h1, h2, h3, x, h4, hk _ h5⟩
        | _ => exact fun h => h.elim
    exact mono (fun v h => tresVs_ok h) h

theorem tfun_ok {fn : Func} {args : List V} {s : Store} {K : V → Store → Prop} (h : tfun P H S fn args s K) : afun P H fn args s K := by
  unfold tfun at h
  unfold afun
  revert h
  cases fn.body with
  | none => exact id
  | some c =>
    intro h
    obtain ⟨h1, h⟩ := tif_ok h
    simp only [h1, cond_true]
    refine awp_all c (tawp_ok c h) fun e env' s' _ hk => ?_
    cases e with
    | exit i => exact hk
    | normal => exact tresVs_ok hk
    | ret => exact tresVs_ok hk

/-- a contract -/
theorem AC_of_tfun (hm : P.follows .mixedOrders = true) {f : FuncId} {fn : Func} {args : List V} {s : Store} {K Q : V → Store → Prop} (hf : P.funcs[f]? = some fn) (hc : callable P f = true)
    (hok : okFn H fn = true) (h : tfun P H S fn args s K) (hk : ∀ r s', K r s' → ∃ r2 s2, Wk r r2 ∧ s2.le s' ∧ Q r2 s2) : AC P f args s Q :=
  AC_of_afun hm hf hc hok (tfun_ok h) hk
theorem AC_of_tfunF (hm : P.follows .mixedOrders = true) {f : FuncId} {fn : Func} {args : List V} {s : Store} {K Q : V → Store → Prop} (hf : P.funcs[f]? = some fn) (hc : callable P f = true)
    (hok : okFn H fn = true) (h : SOk s → tfun P H S fn args s K) (hk : ∀ r s', K r s' → ∃ r2 s2, Fz s' s2 r r2 ∧ Q r2 s2) : AC P f args s Q :=
  AC_of_afunF hm hf hc hok (fun hs => tfun_ok (h hs)) hk

end
end Go.Proofs.YtdeondiigpidnaaGreat.Ab
end

section
set_option linter.unusedVariables false
set_option linter.unusedSimpArgs false
/- The program's plain things, as Lean's own, and the values that stand for them. -/
namespace Go.Proofs.YtdeondiigpidnaaGreat.Ab
open Go

abbrev Bytes := List UInt8
def bs (l : Bytes) : ByteArray := ⟨l.toArray⟩

structure Cmd where
  client : Int
  seq : Int
  op : Int
  path : Bytes
  value : Bytes
  version : Int
  a : Int
  b : Int
  deriving DecidableEq
def Cmd.enc (c : Cmd) : V := .agg [.int .i64 c.client, .int .i64 c.seq, .int .i64 c.op, .str (bs c.path), .str (bs c.value), .int .i64 c.version, .int .i64 c.a, .int .i64 c.b]
structure Reply where
  err : Int
  value : Bytes
  version : Int
  names : List Bytes
  deriving DecidableEq
def vstr (b : Bytes) : V := .str (bs b)
def Reply.cells (r : Reply) (k : Cap) : List V := [.int .i64 r.err, .str (bs r.value), .int .i64 r.version, .sl (r.names.map vstr) k]
def Reply.enc (r : Reply) (k : Cap) : V := .agg (r.cells k)
structure Entry where
  path : Bytes
  value : Bytes
  version : Int
  deriving DecidableEq
def Entry.enc (e : Entry) : V := .agg [.str (bs e.path), .str (bs e.value), .int .i64 e.version]
structure Sess where
  client : Int
  seq : Int
  reply : Reply
  deriving DecidableEq
def Sess.enc (e : Sess) : V := .agg [.int .i64 e.client, .int .i64 e.seq, .int .i64 e.reply.err, .str (bs e.reply.value), .int .i64 e.reply.version, .sl (e.reply.names.map vstr) .any]
def strs (l : List Bytes) (k : Cap) : V := .sl (l.map vstr) k

/- texts -/
theorem bs_size (l : Bytes) : (bs l).size = l.length := by simp [bs, ByteArray.size]
theorem ByteArray_ext' {a b : ByteArray} (h : a.data = b.data) : a = b := by cases a; cases b; simp at h; rw [h]
theorem toList_loop (b : ByteArray) : ∀ (n i : Nat) (r : List UInt8), b.size - i = n → ByteArray.toList.loop b i r = r.reverse ++ b.data.toList.drop i := by
  intro n
  induction n with
  | zero =>
    intro i r h
    unfold ByteArray.toList.loop
    have : ¬ i < b.size := by omega
    simp only [this, if_false]
    rw [List.drop_eq_nil_of_le (by have : b.data.toList.length = b.size := rfl; omega)]; simp
  | succ n ih =>
    intro i r h
    unfold ByteArray.toList.loop
    have hi : i < b.size := by omega
    simp only [hi, if_true]
    rw [ih (i + 1) _ (by omega)]
    have hi' : i < b.data.toList.length := hi
    rw [List.drop_eq_getElem_cons hi']
    have : b.get! i = b.data.toList[i] := by
      have hi2 : i < b.data.size := hi
      show b.data[i]! = _
      rw [getElem!_pos b.data i hi2]; rfl
    simp [this]
theorem toList_data (b : ByteArray) : b.toList = b.data.toList := by
  unfold ByteArray.toList
  rw [toList_loop b _ 0 [] rfl]; simp
theorem bs_toList (l : Bytes) : (bs l).toList = l := by rw [toList_data]; simp [bs]
theorem bs_data (b : ByteArray) : bs b.data.toList = b := ByteArray_ext' (by simp [bs])
theorem bs_append (a b : Bytes) : bs a ++ bs b = bs (a ++ b) := ByteArray_ext' (by simp [bs, ByteArray.data_append])
theorem bs_extract (a : Bytes) (i j : Nat) : (bs a).extract i j = bs ((a.take j).drop i) := ByteArray_ext' (by
  simp [bs, ByteArray.data_extract, List.drop_take])
theorem bs_get (a : Bytes) (i : Nat) : (bs a)[i]? = a[i]? := by
  by_cases h : i < a.length
  · have h' : i < (bs a).size := by rw [bs_size]; exact h
    rw [getElem?_pos _ i h', getElem?_pos _ i h]
    rfl
  · have h' : ¬ i < (bs a).size := by rw [bs_size]; exact h
    rw [getElem?_neg _ i h', getElem?_neg _ i h]
theorem bs_inj {a b : Bytes} (h : bs a = bs b) : a = b := by
  have := congrArg ByteArray.toList h
  simpa [bs_toList] using this
theorem mk_bs (l : Bytes) : ByteArray.mk l.toArray = bs l := rfl
theorem bs_empty : ByteArray.mk #[] = bs [] := rfl
theorem bs_slash : ByteArray.mk #[47] = bs [47] := rfl

end Go.Proofs.YtdeondiigpidnaaGreat.Ab
end

section
set_option linter.unusedVariables false
set_option linter.unusedSimpArgs false
/- Rules for contracts. -/
namespace Go.Proofs.YtdeondiigpidnaaGreat.Ab
open Go
set_option linter.unusedSectionVars false
variable [Fwd]
set_option linter.unusedVariables false

theorem Store.le.refl (s : Store) : s.le s := fun _ _ h => h
theorem Store.le.trans {a b c : Store} (h : a.le b) (h' : b.le c) : a.le c := fun i o x => h' i o (h i o x)

/-- a call that gives a value, and leaves the store as it was -/
def PAC (P : Program) (f : FuncId) (args : List V) (s : Store) (v : V) : Prop := AC P f args s fun r s' => s' = s ∧ r = v
theorem PAC.use {P : Program} {f : FuncId} {args : List V} {s : Store} {v : V} {Q : V → Store → Prop} (h : PAC P f args s v) (hq : Q v s) : AC P f args s Q :=
  AC.mono h fun r s' ⟨h1, h2⟩ => by subst h1; subst h2; exact hq
/-- what is to be shown at the end of such a function -/
def Kp (s : Store) (v : V) : V → Store → Prop := fun r s' => s.le s' ∧ Wk r v
theorem Kp.mk {s : Store} {v : V} : Kp s v v s := ⟨.refl s, .refl v⟩
theorem Kp.of {s : Store} {v r : V} (h : r = v) : Kp s v r s := by subst h; exact Kp.mk

theorem PAC_of {P : Program} {H : Hints} {S : Shapes} (hm : P.follows .mixedOrders = true) {f : FuncId} {fn : Func} {args : List V} {s : Store} {v : V} (hf : P.funcs[f]? = some fn) (hc : callable P f = true)
    (hok : okFn H fn = true) (h : tfun P H S fn args s (Kp s v)) : PAC P f args s v :=
  AC_of_tfun hm hf hc hok h fun r s' ⟨h1, h2⟩ => ⟨v, s, h2, h1, rfl, rfl⟩

theorem lfp_rule {F : (List V → Store → Prop) → List V → Store → Prop} (I : List V → Store → Prop) (μ : List V → Store → Nat)
    (h : ∀ vs s, I vs s → ∀ X : List V → Store → Prop, (∀ vs' s', I vs' s' → μ vs' s' < μ vs s → X vs' s') → F X vs s) {vs : List V} {s : Store} (hi : I vs s) : lfp F vs s := by
  intro X hX
  have key : ∀ n vs s, μ vs s = n → I vs s → X vs s := by
    intro n
    induction n using Nat.strongRecOn with
    | _ n ih => intro vs s hn hi; exact hX _ _ (h vs s hi X fun vs' s' hi' hlt => ih _ (hn ▸ hlt) vs' s' rfl hi')
  exact key _ _ _ rfl hi

/-- a loop of n rounds by a number that goes up; what is told of the rounds hangs on the number alone -/
theorem lfp_up {F : (List V → Store → Prop) → List V → Store → Prop} (n : Nat) (I : Nat → List V → Store → Prop)
    (h : ∀ i vs s, i ≤ n → I i vs s → ∀ X : List V → Store → Prop, (i < n → ∀ vs' s', I (i + 1) vs' s' → X vs' s') → F X vs s) {vs : List V} {s : Store} (hi : I 0 vs s) : lfp F vs s := by
  intro X hX
  have key : ∀ k i vs s, n - i = k → i ≤ n → I i vs s → X vs s := by
    intro k
    induction k with
    | zero => intro i vs s hk hn hi; exact hX _ _ (h i vs s hn hi X fun hlt => absurd hlt (by omega))
    | succ k ih => intro i vs s hk hn hi; exact hX _ _ (h i vs s hn hi X fun hlt vs' s' hi' => ih (i + 1) vs' s' (by omega) (by omega) hi')
  exact key _ 0 _ _ rfl (Nat.zero_le _) hi

theorem cond_iff {b : Bool} {A B : Prop} : (bif b then A else B) ↔ (b = true → A) ∧ (b = false → B) := by cases b <;> simp
theorem cond_of {b : Bool} {A B : Prop} (h1 : b = true → A) (h2 : b = false → B) : bif b then A else B := by cases b <;> first | exact h1 rfl | exact h2 rfl

theorem wrap_small {n : Int} (h : -9223372036854775808 ≤ n ∧ n ≤ 9223372036854775807) : IntKind.i64.wrap n = n := by rw [IntKind.wrap_i64]; omega

theorem map_get {α : Type} {f : α → V} {l : List α} {i : Nat} {x : α} (h : l[i]? = some x) : (l.map f)[i]? = some (f x) := by simp [h]

/-- the store with marks of the function's own -/
structure Own (s0 : Store) (sz : Nat) (c : Cap) (s : Store) : Prop where
  le : s0.le s
  cap : c = .full ∨ ∃ t, c = .tip t ∧ s0 t = none ∧ s t = some (.tip sz)
theorem Own.full {s : Store} {sz : Nat} : Own s sz .full s := ⟨.refl s, .inl rfl⟩
theorem Own.grow {s0 s : Store} {sz : Nat} {c : Cap} (h : Own s0 sz c s) : growable sz c s := by
  rcases h.cap with h | ⟨t, h1, h2, h3⟩
  · exact .inl h
  · exact .inr ⟨t, h1, h3⟩
theorem Own.out {s0 s s2 : Store} {sz : Nat} {c c2 : Cap} {l' : List V} (h : Own s0 sz c s) (ho : appOut sz l' c s c2 s2) : Own s0 sz c2 s2 := by
  rcases ho with ⟨_, rfl, rfl⟩ | ⟨_, t, h1, rfl, h2⟩
  · exact h
  · have ht : s0 t = none := by
      cases hs : s0 t with
      | none => rfl
      | some o => have := h.le t o hs; rw [h1] at this; cases this
    rcases h2 with ⟨rfl, rfl⟩ | ⟨t0, rfl, rfl⟩
    · refine ⟨fun i o hi => ?_, .inr ⟨t, rfl, ht, by simp [Store.upd]⟩⟩
      have hne : i ≠ t := fun e => by subst e; rw [ht] at hi; cases hi
      simp [Store.upd, hne, h.le i o hi]
    · refine ⟨fun i o hi => ?_, .inr ⟨t, rfl, ht, by simp [Store.upd]⟩⟩
      have hne : i ≠ t := fun e => by subst e; rw [ht] at hi; cases hi
      have hn0 : i ≠ t0 := fun e => by
        subst e
        rcases h.cap with h | ⟨t', h1, h2, _⟩
        · cases h
        · cases h1; rw [h2] at hi; cases hi
      simp [Store.upd, Store.del, hne, hn0, h.le i o hi]
theorem Own.less {s0 s s2 : Store} {sz : Nat} {c : Cap} (h : Own s0 sz c s) : s0.le s := h.le

theorem tapp_own {s0 s : Store} {sz : Nat} {c : Cap} {l l' : List V} {K : List V → Cap → Store → Prop} (h : Own s0 sz c s) (hl : l.length + l'.length ≤ 4294967296)
    (he : ∀ e ∈ l, e.cells.length = sz) (hf : allFit sz l') (hk : ∀ c2 s2, Own s0 sz c2 s2 → K (l ++ l') c2 s2) : tapp sz l c l' s K :=
  ⟨hl, he, hf, fun _ => h.grow, fun c2 s2 ho => hk c2 s2 (h.out ho)⟩
theorem allFit_map {α : Type} {f : α → V} {sz : Nat} (h : ∀ x, fits (f x) sz) : ∀ (l : List α), allFit sz (l.map f)
  | [] => trivial
  | x :: r => ⟨h x, allFit_map h r⟩

theorem tif_mk {b : Bool} {K : Prop} (h : b = true) (hk : K) : tif b K := by subst h; exact hk
theorem beq_refl (n : Nat) : Nat.beq n n = true := by simp
theorem slc_part {s : Store} {id sz off n : Nat} {l : List V} (h : s id = some (.arr sz l)) (hl : off + n ≤ l.length) : slc s (.vw id sz off n) = some ((l.drop off).take n) := by
  unfold slc
  simp only [h]
  cases hb : Nat.beq n 0 with
  | true => have := Nat.eq_of_beq_eq_true hb; subst this; simp
  | false =>
    have : (Nat.beq sz sz && Nat.ble (off + n) l.length) = true := by rw [beq_refl, Nat.ble_eq_true_of_le hl]; rfl
    rw [cond_false, this, cond_true]
theorem slc_vw {s : Store} {id sz : Nat} {l : List V} (h : s id = some (.arr sz l)) : slc s (.vw id sz 0 l.length) = some l := by
  rw [slc_part h (by omega)]; simp

end Go.Proofs.YtdeondiigpidnaaGreat.Ab
end

section
set_option linter.unusedVariables false
set_option linter.unusedSimpArgs false
/- Contracts out of the library's. -/
namespace Go.Proofs.YtdeondiigpidnaaGreat.Ab
open Go Go.RowKit
set_option linter.unusedSectionVars false
variable [Fwd]
set_option linter.unusedVariables false

section
variable {P : Program} {f : FuncId} {args : List V} {s : Store} {v : V}

/-- the world has grown, and all that was there is as it was -/
theorem Ext.below {c : Ctx} {w' : World} (h : Below c.w.heap.size c.w w') : Ext c { c with w := w' } where
  g := fun _ _ h => h
  sz := h.size
  imm := fun b i hb hi => ⟨hi, by simp [World.cell?, h.block b hb]⟩
  shape := fun b hb => by simp [World.shape?, h.block b hb]
  tip := fun _ _ _ h => h
theorem R.below {c : Ctx} {w' : World} (hR : R c) (h : Below c.w.heap.size c.w w') : R { c with w := w' } where
  obj := fun id o ho => by
    obtain ⟨b, e, h1, h2, h3⟩ := hR.obj id o ho
    exact ⟨b, e, h1, h2, objRep_ext (Ext.below h) ⟨fun m l _ hl => ⟨l, hl⟩, fun m l bm e' hg hl => ⟨hl, h.block _ (hR.gb m bm e' hg)⟩⟩ (h.block _ (hR.gb id b e h1)) h3⟩
  sep := hR.sep
  nb := fun b hb => Nat.lt_of_lt_of_le (hR.nb b hb) h.size
  gb := fun id b e hb => Nat.lt_of_lt_of_le (hR.gb id b e hb) h.size
  fin := hR.fin
theorem Evo.below {c : Ctx} {w' : World} (h : Below c.w.heap.size c.w w') (hd : Fwd.on = true → c.w.drawn ≤ w'.drawn) : Evo c { c with w := w' } :=
  ⟨Ext.below h, fun b hb _ => h.block b hb, h.os, ⟨h.output, h.tape, hd⟩⟩

/-- a call that makes what is new, and lets all that there was be -/
theorem PAC_of_below (hc : callable P f = true)
    (h : ∀ (c : Ctx) (cargs : List Value), R c → c.s = s → repL c args cargs → Calls P f cargs.toArray c.w fun e w' => ∃ cv, e = .returned cv ∧ Below c.w.heap.size c.w w' ∧ (Fwd.on = true → c.w.drawn ≤ w'.drawn) ∧ rep { c with w := w' } v cv) : PAC P f args s v :=
  ⟨hc, fun c hs hR cargs ha => (h c cargs hR hs ha).mono fun e w' ⟨cv, h1, h2, hd, h3⟩ => ⟨cv, v, { c with w := w' }, h1, rfl, rfl, Evo.below h2 hd, hR.below h2, h3, hs, rfl⟩⟩

theorem PAC_of_same (hc : callable P f = true)
    (h : ∀ (c : Ctx) (cargs : List Value), R c → c.s = s → repL c args cargs → ∃ cv, rep c v cv ∧ Calls P f cargs.toArray c.w fun e w' => e = .returned cv ∧ w' = c.w) : PAC P f args s v :=
  PAC_of_below hc fun c cargs hR hs ha => by
    obtain ⟨cv, h1, h2⟩ := h c cargs hR hs ha
    refine h2.mono ?_
    rintro e w' ⟨rfl, rfl⟩
    exact ⟨cv, rfl, Below.refl _ _, fun _ => Nat.le_refl _, h1⟩

theorem repL_nil {c : Ctx} {vs : List Value} (h : repL c [] vs) : vs = [] := by simpa [repL] using h
theorem repL_cons {c : Ctx} {x : V} {r : List V} {vs : List Value} (h : repL c (x :: r) vs) : ∃ y ys, vs = y :: ys ∧ rep c x y ∧ repL c r ys := by simpa [repL] using h

theorem rep_strs {c : Ctx} {l : List Bytes} {vs : List Value} (h : repL c (l.map vstr) vs) : vs = l.map fun b => Value.string (bs b) := by
  induction l generalizing vs with
  | nil => simpa [repL] using h
  | cons b r ih =>
    obtain ⟨y, ys, rfl, h1, h2⟩ := repL_cons h
    simp only [vstr, rep] at h1
    subst h1
    rw [ih h2]; rfl
end
end Go.Proofs.YtdeondiigpidnaaGreat.Ab
end
