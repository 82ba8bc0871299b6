/- Part 3 of what the proof leans on: texts of my own, joined. It proves no statement by itself. -/
import Derived.Test.YtdeondiigpidnaaGreatM2
import Derived.Sort.Row
import Derived.Sort.Grow
import Derived.Deep.Draws
import Derived.Deep.Slices
import Derived.ChangeArms
import Derived.WideShapes
import Derived.OpenShut
import Derived.Carry
import Derived.Handed
import Derived.JoinedOf
import Derived.ProofKit
import Derived.Lib.Bytealg
import Derived.Lib.Join
import Derived.Lib.Strings
import Derived.Sort.Walk0
import Derived.Sort.Statements
import Derived.Shelf.SlSortCmp.Insertion
import Derived.Shelf.SlSortCmp.NoneTotal
import Derived.Shelf.SlIter.Collect
import Derived.Shelf.SlIterI.Collect
import Derived.Shelf.SlMaps.Clone
import Derived.Shelf.Small.Strs
import Derived.Shelf.Small.Wraps
import Derived.Shelf.SortM.Plain
import Derived.Shelf.SortM.SortNone
import Derived.Shelf.Strings.Builder1
import Derived.Shelf.Strings.Builder2
import Derived.Shelf.Strings.OnBuilder
import Derived.Shelf.Strings.Prefix
import Derived.Shelf.Strings.Search1
import Derived.Test.YtdeondiigpidnaaGreatProg
import Derived.KernelRfl

section
set_option linter.unusedVariables false
set_option linter.unusedSimpArgs false
/- What a pure comparator does to a memory; a row that is put in order. -/
namespace Go.Proofs.YtdeondiigpidnaaGreat.Ab
open Go Go.RowKit Go.Sort
set_option linter.unusedSectionVars false
set_option linter.unusedVariables false
set_option linter.unusedSimpArgs false

/-- the context that knows of nothing -/
def Ctx.bare (w : World) : Ctx := { g := fun _ => none, s := fun _ => none, N := fun _ => False, w := w }
theorem R.bare (w : World) : R (Ctx.bare w) where
  obj := fun id o h => by simp [Ctx.bare] at h
  sep := fun id id' o o' b e e' h => by simp [Ctx.bare] at h
  nb := fun b h => h.elim
  gb := fun id b e h => by simp [Ctx.bare] at h
  fin := ⟨0, fun _ _ => rfl⟩

theorem world_ext {w w' : World} (h1 : w.heap = w'.heap) (h2 : w.output = w'.output) (h3 : w.os = w'.os) (h4 : w.tape = w'.tape) (h5 : w.drawn = w'.drawn) : w = w' := by
  cases w; cases w'; simp at h1 h2 h3 h4 h5; subst h1; subst h2; subst h3; subst h4; subst h5; rfl

/-- where nothing is known of, nothing is turned -/
theorem grown_of_bare [Fwd] (hf : Fwd.on = true) {w : World} {c' : Ctx} (h : Evo (Ctx.bare w) c') : ∃ q os, c'.w = grow (w.drewN q) os := by
  refine ⟨c'.w.drawn - w.drawn, (c'.w.heap.toList.drop w.heap.size).toArray, ?_⟩
  have hd := h.output.drawn hf
  have hsz := h.ext.sz
  have hfree : ∀ b, b < w.heap.size → c'.w.heap[b]? = w.heap[b]? := fun b hb => h.free b hb fun id o e ho => by simp [Ctx.bare] at ho
  refine world_ext ?_ h.output.output h.os h.output.tape ?_
  · apply Array.ext_getElem?
    intro i
    show c'.w.heap[i]? = ((w.drewN _).heap ++ (c'.w.heap.toList.drop w.heap.size).toArray)[i]?
    have hwh : (w.drewN (c'.w.drawn - w.drawn)).heap = w.heap := rfl
    rw [hwh]
    by_cases hi : i < w.heap.size
    · rw [Array.getElem?_append_left hi, hfree i hi]
    · have e1 : (c'.w.heap.toList.drop w.heap.size).toArray[i - w.heap.size]? = c'.w.heap[i]? := by
        rw [List.getElem?_toArray, List.getElem?_drop, Array.getElem?_toList]
        congr 1; omega
      rw [Array.getElem?_append_right (by omega), e1]
  · show c'.w.drawn = w.drawn + (c'.w.drawn - w.drawn)
    have : w.drawn ≤ c'.w.drawn := hd
    omega

/-- a comparator that only looks at what it is given -/
theorem calls_of_pac [Fwd] (hf : Fwd.on = true) {P : Program} {g : FuncId} {args : List V} {r : V} (h : ∀ s, PAC P g args s r) {w : World} {cargs : List Value} (ha : repL (Ctx.bare w) args cargs) :
    Calls P g cargs.toArray w fun e w' => ∃ cr, e = .returned cr ∧ (∃ c', rep c' r cr) ∧ ∃ q os, w' = grow (w.drewN q) os := by
  refine ((h (fun _ => none)).2 (Ctx.bare w) rfl (R.bare w) cargs ha).mono ?_
  rintro e w' ⟨cr, r', c', rfl, rfl, _, h1, _, h2, _, rfl⟩
  exact ⟨cr, rfl, ⟨c', h2⟩, grown_of_bare hf h1⟩

section
variable [Fwd] {c : Ctx}
/-- a row of the store is written anew, and there is more behind -/
theorem evo_row (hR : R c) {id b e sz : Nat} {l l' : List V} {kc : Array Value} {T : TypeId} {nc : List Value} {w' : World} (hg : c.g id = some (b, e)) (hs : c.s id = some (.arr sz l)) (hb : c.w.heap[b]? = some (.cells kc T (0, 0)))
    (hn : nc.length = kc.size) (hw : Below c.w.heap.size (World.wrote c.w b (.cells nc.toArray T (0, 0))) w') (hd : Fwd.on = true → c.w.drawn ≤ w'.drawn)
    (hrep : ∃ vs, repL c l' vs ∧ (∀ v ∈ vs, v.cells.size = sz) ∧ ∀ (i : Nat) v, (flat vs)[i]? = some v → nc[e + i]? = some v) :
    ∃ c', c'.w = w' ∧ c'.N = c.N ∧ Evo c c' ∧ R c' ∧ c'.s = c.s.upd id (.arr sz l') := by
  have hlt := hR.gb id b e hg
  have hsh : (World.wrote c.w b (.cells nc.toArray T (0, 0))).shape? b = c.w.shape? b := by
    simp only [World.shape?, wrote_at hlt, hb, List.size_toArray, hn]
  let c1 := c.wrote id b (.arr sz l') (.cells nc.toArray T (0, 0))
  have e1 : Evo c c1 := Evo.wrote hg hs rfl rfl hsh
  have r1 : R c1 := by
    obtain ⟨vs, h1, h2, h3⟩ := hrep
    exact R.wrote hR hg hs rfl rfl hsh ⟨vs, nc.toArray, T, repL_ext e1.ext _ _ h1, h2, wrote_at hlt, fun i v hi => by rw [List.getElem?_toArray]; exact h3 i v hi⟩
  have hw1 : Below c1.w.heap.size c1.w w' := by
    have : c1.w.heap.size = c.w.heap.size := wrote_size
    rw [this]; exact hw
  exact ⟨{ c1 with w := w' }, rfl, rfl, Evo.trans r1 e1 (Evo.below hw1 hd) (fun _ h => h), r1.below hw1, rfl⟩
end

end Go.Proofs.YtdeondiigpidnaaGreat.Ab
end

section
set_option linter.unusedVariables false
set_option linter.unusedSimpArgs false
/- What an argument reads as, as a value of mine: whole numbers, bools, texts, structs and slices of these, to whatever depth. -/
namespace Go.Proofs.YtdeondiigpidnaaGreat.Ab
open Go Go.RowKit Go.ChangeShapes Go.WideShapes
set_option linter.unusedSectionVars false
set_option linter.unusedVariables false
set_option linter.unusedSimpArgs false

/-- the types of a value's cells -/
def leaves (P : Program) : Nat → TypeId → List TypeId
  | 0, _ => []
  | n + 1, t => match P.underlying t with
    | some (.struct fs) => fs.toList.flatMap fun f => leaves P n f.type
    | _ => [t]
def laidF (P : Program) (n : Nat) : Nat → List Field → Bool
  | _, [] => true
  | o, f :: r => f.offset == o && P.cellsOf f.type == (leaves P n f.type).length && laidF P n (o + (leaves P n f.type).length) r
def flatOk (P : Program) : Nat → TypeId → Bool
  | 0, _ => false
  | n + 1, t => match P.underlying t with
    | some (.struct fs) => laidF P n 0 fs.toList && P.cellsOf t == (fs.toList.flatMap fun f => leaves P n f.type).length && fs.toList.all fun f => flatOk P n f.type
    | some .bool => true
    | some (.int _) => true
    | some .string => true
    | some (.slice _) => true
    | _ => false
/-- may it be read? -/
def okV (P : Program) : Nat → TypeId → Bool
  | 0, _ => false
  | n + 1, t => flatOk P 10 t && match P.underlying t with
    | some (.slice e) => okV P n e && P.cellsOf e == (leaves P 10 e).length && decide (0 < P.cellsOf e)
    | some (.struct _) => (leaves P 10 t).all (okV P n)
    | _ => true
/-- a value of that type -/
def hasV (P : Program) : Nat → TypeId → V → Prop
  | 0, _, _ => False
  | n + 1, t, v => match P.underlying t with
    | some .bool => ∃ b, v = .bool b
    | some (.int k) => ∃ i, v = .int k i
    | some .string => ∃ s, v = .str s
    | some (.slice e) => ∃ l, v = .sl l .any ∧ ∀ u ∈ l, hasV P n e u
    | some (.struct _) => ∃ us, v = .agg us ∧ us.length = (leaves P 10 t).length ∧ ∀ (j : Nat) (tj : TypeId) (u : V), (leaves P 10 t)[j]? = some tj → us[j]? = some u → hasV P n tj u
    | _ => False
def mkV (P : Program) (t : TypeId) (cs : List Value) : Value :=
  match P.underlying t with
  | some (.struct _) => .agg cs.toArray
  | _ => cs.headD default

section
variable {H : Type} {enc : TypeId × Value → H} {P : Program} {w : World} {base : Nat} {spare : Nat → Bool} {held : Bool}

theorem fields_leaves {n : Nat} {cs : List Value}
    (ih : ∀ (t : TypeId) (cs : List Value) (fuel : Nat) (x : DataW H × List MemPlace), flatOk P n t = true → DataW.trod enc P w base spare held fuel t cs = some x →
      cs.length = (leaves P n t).length ∧ ∀ (j : Nat) (tj : TypeId), (leaves P n t)[j]? = some tj → ∃ c m y, cs[j]? = some c ∧ DataW.trod enc P w base spare held m tj [c] = some y) :
    ∀ (fs : List Field) (o : Nat), laidF P n o fs = true → (∀ f ∈ fs, flatOk P n f.type = true) → (∀ f ∈ fs, ∃ m y, DataW.trod enc P w base spare held m f.type ((cs.drop f.offset).take (P.cellsOf f.type)) = some y) →
      ∀ (j : Nat) (tj : TypeId), (fs.flatMap fun f => leaves P n f.type)[j]? = some tj → ∃ c m y, cs[o + j]? = some c ∧ DataW.trod enc P w base spare held m tj [c] = some y
  | [], _, _, _, _, j, tj, h => by simp at h
  | f :: r, o, h1, h2, h3, j, tj, h => by
    simp only [laidF, Bool.and_eq_true, beq_iff_eq] at h1
    obtain ⟨⟨h4, h5⟩, h6⟩ := h1
    rw [List.flatMap_cons] at h
    by_cases hj : j < (leaves P n f.type).length
    · rw [List.getElem?_append_left hj] at h
      obtain ⟨m, y, hm⟩ := h3 f (by simp)
      obtain ⟨_, h7⟩ := ih _ _ _ _ (h2 f (by simp)) hm
      obtain ⟨c, m', y', h8, h9⟩ := h7 j tj h
      refine ⟨c, m', y', ?_, h9⟩
      rw [List.getElem?_take_of_lt (by omega), List.getElem?_drop, h4] at h8
      exact h8
    · rw [List.getElem?_append_right (by omega)] at h
      obtain ⟨c, m, y, h7, h8⟩ := fields_leaves ih r _ h6 (fun g hg => h2 g (by simp [hg])) (fun g hg => h3 g (by simp [hg])) _ _ h
      refine ⟨c, m, y, ?_, h8⟩
      rwa [show o + (leaves P n f.type).length + (j - (leaves P n f.type).length) = o + j by omega] at h7

theorem read_leaves : ∀ (n : Nat) (t : TypeId) (cs : List Value) (fuel : Nat) (x : DataW H × List MemPlace), flatOk P n t = true → DataW.trod enc P w base spare held fuel t cs = some x →
      cs.length = (leaves P n t).length ∧ ∀ (j : Nat) (tj : TypeId), (leaves P n t)[j]? = some tj → ∃ c m y, cs[j]? = some c ∧ DataW.trod enc P w base spare held m tj [c] = some y
  | 0, t, cs, fuel, x, h, _ => by simp [flatOk] at h
  | n + 1, t, cs, fuel, x, h, hx => by
    have one : ∀ c, cs = [c] → leaves P (n + 1) t = [t] → cs.length = (leaves P (n + 1) t).length ∧ ∀ (j : Nat) (tj : TypeId), (leaves P (n + 1) t)[j]? = some tj → ∃ c m y, cs[j]? = some c ∧ DataW.trod enc P w base spare held m tj [c] = some y := by
      rintro c rfl hl
      rw [hl]
      refine ⟨rfl, fun j tj hj => ?_⟩
      cases j with
      | zero => simp at hj; subst hj; exact ⟨c, fuel, x, rfl, hx⟩
      | succ j => simp at hj
    unfold flatOk at h
    split at h
    · rename_i fs hu
      simp only [Bool.and_eq_true, beq_iff_eq, List.all_eq_true] at h
      obtain ⟨⟨h1, h2⟩, h3⟩ := h
      obtain ⟨xs, m, _, _, hlen, hxs, hf⟩ := DataW.trod_struct hu hx
      have hl : leaves P (n + 1) t = fs.toList.flatMap fun f => leaves P n f.type := by
        conv => lhs; unfold leaves
        rw [hu]
      rw [hl]
      refine ⟨hlen.trans h2, fun j tj hj => ?_⟩
      have := fields_leaves (fun t cs fuel x => read_leaves n t cs fuel x) fs.toList 0 h1 h3 (cs := cs) (fun f hfm => by
        obtain ⟨i, hi⟩ := List.getElem?_of_mem hfm
        have hi' : fs[i]? = some f := by simpa using hi
        have := hf i f hi'
        have hlt : i < xs.length := by rw [hxs]; exact (Array.getElem?_eq_some_iff.1 hi').1
        exact ⟨m, xs[i], this.trans (List.getElem?_eq_getElem hlt)⟩) j tj hj
      simpa using this
    · rename_i hu
      obtain ⟨b, rfl, _⟩ := DataW.trod_bool hu hx
      exact one _ rfl (by unfold leaves; rw [hu])
    · rename_i k hu
      obtain ⟨b, rfl, _⟩ := DataW.trod_int hu hx
      exact one _ rfl (by unfold leaves; rw [hu])
    · rename_i hu
      obtain ⟨b, rfl, _⟩ := DataW.trod_string hu hx
      exact one _ rfl (by unfold leaves; rw [hu])
    · rename_i e hu
      have : ∃ c, cs = [c] := by
        rcases DataW.trod_slice hu hx with ⟨h, _⟩ | ⟨a, len, cap, _, _, _, _, h, _⟩
        · exact ⟨_, h⟩
        · exact ⟨_, h⟩
      obtain ⟨c, hc⟩ := this
      exact one c hc (by unfold leaves; rw [hu])
    · cases h

theorem repL_of_get {c : Ctx} {n : Nat} {U : Nat → V} {cs : List Value} (hl : cs.length = n) (h : ∀ j, j < n → ∃ v, cs[j]? = some v ∧ rep c (U j) v) : repL c ((List.range n).map U) cs := by
  induction n generalizing U cs with
  | zero => simp at hl; subst hl; simp [repL]
  | succ n ih =>
    cases cs with
    | nil => simp at hl
    | cons x r =>
      rw [List.range_succ_eq_map, List.map_cons, List.map_map]
      simp only [repL]
      obtain ⟨v, h1, h2⟩ := h 0 (by omega)
      simp at h1; subst h1
      refine ⟨x, r, rfl, h2, ih (by simpa using hl) fun j hj => ?_⟩
      obtain ⟨v, h1, h2⟩ := h (j + 1) (by omega)
      exact ⟨v, by simpa using h1, h2⟩
theorem flat_at {sz : Nat} : ∀ {vs : List Value} {i : Nat} {v : Value}, 0 < sz → (∀ u ∈ vs, u.cells.size = sz) → (flat vs)[i]? = some v → ∃ u, vs[i / sz]? = some u ∧ u.cells[i % sz]? = some v
  | [], i, v, _, _, h => by simp [flat] at h
  | u :: r, i, v, hz, hs, h => by
    have hu := hs u (by simp)
    have e : flat (u :: r) = u.cells.toList ++ flat r := by simp [flat]
    rw [e] at h
    by_cases hi : i < sz
    · rw [List.getElem?_append_left (by simpa [hu] using hi)] at h
      exact ⟨u, by simp [Nat.div_eq_of_lt hi], by rw [Nat.mod_eq_of_lt hi]; simpa using h⟩
    · rw [List.getElem?_append_right (by simpa [hu] using hi)] at h
      have hul : u.cells.toList.length = sz := by simpa using hu
      rw [hul] at h
      obtain ⟨u', h1, h2⟩ := flat_at hz (fun x hx => hs x (by simp [hx])) h
      refine ⟨u', ?_, ?_⟩
      · have : i / sz = (i - sz) / sz + 1 := by
          rw [← Nat.add_div_right _ hz]; congr 1; omega
        rw [this]; simpa using h1
      · have : i % sz = (i - sz) % sz := by
          conv => lhs; rw [show i = (i - sz) + sz by omega, Nat.add_mod_right]
        rw [this]; exact h2

theorem cells_mkV {t : TypeId} {cs : List Value} {n fuel : Nat} {x : DataW H × List MemPlace} (hok : flatOk P (n + 1) t = true) (h : DataW.trod enc P w base spare held fuel t cs = some x) : (mkV P t cs).cells.toList = cs := by
  have hx := h
  unfold flatOk at hok
  unfold mkV
  split at hok
  · rename_i fs hu
    rw [hu]; simp [Value.cells]
  · rename_i hu
    obtain ⟨b, rfl, _⟩ := DataW.trod_bool hu hx
    rw [hu]; simp [Value.cells]
  · rename_i k hu
    obtain ⟨b, rfl, _⟩ := DataW.trod_int hu hx
    rw [hu]; simp [Value.cells]
  · rename_i hu
    obtain ⟨b, rfl, _⟩ := DataW.trod_string hu hx
    rw [hu]; simp [Value.cells]
  · rename_i e hu
    rw [hu]
    rcases DataW.trod_slice hu hx with ⟨h, _⟩ | ⟨a, len, cap, _, _, _, _, h, _⟩
    · subst h; simp [Value.cells]
    · subst h; simp [Value.cells]
  · cases hok

theorem bare_imm (b i : Nat) : (Ctx.bare w).imm b i := ⟨fun h => h.elim, fun id o e h => by simp [Ctx.bare] at h⟩

theorem read_val : ∀ (n : Nat) (t : TypeId) (cs : List Value) (fuel : Nat) (x : DataW H × List MemPlace), okV P n t = true → DataW.trod enc P w base spare held fuel t cs = some x →
    ∃ u, rep (Ctx.bare w) u (mkV P t cs) ∧ hasV P n t u
  | 0, t, cs, fuel, x, h, _ => by simp [okV] at h
  | n + 1, t, cs, fuel, x, h, hx => by
    simp only [okV, Bool.and_eq_true] at h
    obtain ⟨hfl, h⟩ := h
    have hfl0 := hfl
    unfold flatOk at hfl
    unfold hasV mkV
    split at hfl
    · rename_i fs hu
      rw [hu] at h
      simp only at h
      simp only [hu]
      obtain ⟨hlen, hat⟩ := read_leaves 10 t cs fuel x hfl0 hx
      have hall : ∀ tj ∈ leaves P 10 t, okV P n tj = true := List.all_eq_true.1 h
      have key : ∀ j : Nat, ∃ u : V, ∀ tj : TypeId, (leaves P 10 t)[j]? = some tj → ∃ c, cs[j]? = some c ∧ rep (Ctx.bare w) u c ∧ hasV P n tj u := by
        intro j
        cases hj : (leaves P 10 t)[j]? with
        | none => exact ⟨.nilp, fun tj h => by simp at h⟩
        | some tj =>
          obtain ⟨c, m, y, h1, h2⟩ := hat j tj hj
          have hmem : tj ∈ leaves P 10 t := List.mem_of_getElem? hj
          obtain ⟨u, h3, h4⟩ := read_val n tj [c] m y (hall tj hmem) h2
          refine ⟨u, fun tk hk => ?_⟩
          cases hk
          refine ⟨c, h1, ?_, h4⟩
          -- a leaf is no struct
          have hns : mkV P tj [c] = c := by
            unfold mkV
            split
            · rename_i fs' hu'
              exfalso
              cases n with
              | zero => simp [okV] at hall; exact absurd hmem (by simp [hall])
              | succ n =>
                have : ∀ (k : Nat) (s : TypeId), flatOk P k s = true → ∀ tj ∈ leaves P k s, ∀ fs', P.underlying tj ≠ some (.struct fs') := by
                  intro k
                  induction k with
                  | zero => intro s h; simp [flatOk] at h
                  | succ k ihk =>
                    intro s hs tj htj fs' e
                    unfold flatOk at hs
                    unfold leaves at htj
                    split at hs
                    · rename_i gs hg
                      rw [hg] at htj
                      simp only at htj
                      obtain ⟨f, hf1, hf2⟩ := List.mem_flatMap.1 htj
                      simp only [Bool.and_eq_true, List.all_eq_true] at hs
                      exact ihk f.type (hs.2 f hf1) tj hf2 fs' e
                    all_goals first
                      | cases hs; done
                      | (rename_i hg; rw [hg] at htj; simp at htj; subst htj; rw [hg] at e; cases e)
                exact this 10 t hfl0 tj hmem fs' hu'
            · rfl
          rwa [hns] at h3
      obtain ⟨U, hU⟩ := Classical.axiomOfChoice key
      refine ⟨.agg ((List.range cs.length).map U), ⟨cs, repL_of_get rfl fun j hj => ?_, rfl⟩, _, rfl, by simpa using hlen, fun j tj u h1 h2 => ?_⟩
      · have : j < (leaves P 10 t).length := by omega
        obtain ⟨c, h1, h2, _⟩ := hU j _ (List.getElem?_eq_getElem this)
        exact ⟨c, h1, h2⟩
      · have hj : j < cs.length := by rw [hlen]; exact (List.getElem?_eq_some_iff.1 h1).1
        rw [List.getElem?_map, List.getElem?_range hj] at h2
        simp at h2
        subst h2
        obtain ⟨_, _, _, h4⟩ := hU j tj h1
        exact h4
    · rename_i hu
      obtain ⟨b, rfl, _⟩ := DataW.trod_bool hu hx
      simp only [hu]
      exact ⟨.bool b, by simp [rep], b, rfl⟩
    · rename_i k hu
      obtain ⟨b, rfl, _⟩ := DataW.trod_int hu hx
      simp only [hu]
      exact ⟨.int k b, by simp [rep], b, rfl⟩
    · rename_i hu
      obtain ⟨b, rfl, _⟩ := DataW.trod_string hu hx
      simp only [hu]
      exact ⟨.str b, by simp [rep], b, rfl⟩
    · rename_i e hu
      rw [hu] at h
      simp only [Bool.and_eq_true, beq_iff_eq, decide_eq_true_eq] at h
      obtain ⟨⟨he, hcl⟩, hpos⟩ := h
      simp only [hu]
      have hefl : flatOk P 10 e = true := by
        cases n with
        | zero => simp [okV] at he
        | succ n => simp only [okV, Bool.and_eq_true] at he; exact he.1
      rcases DataW.trod_slice hu hx with ⟨rfl, _⟩ | ⟨a, len, cap, elems, rest, m, _, rfl, _, hb, hl, hm, hel, hat, _, _⟩
      · refine ⟨.sl [] .any, ?_, [], rfl, fun u h => by simp at h⟩
        simp only [rep, repL]
        exact ⟨[], none, 0, 0, rfl, rfl, ⟨rfl, Nat.le_refl _, nofun, .inl rfl, ⟨0, fun v h => by simp at h⟩, nofun, nofun⟩⟩
      · have key : ∀ i : Nat, ∃ ur : V × Value, i < len → rep (Ctx.bare w) ur.1 ur.2 ∧ hasV P n e ur.1 ∧ ur.2.cells.size = P.cellsOf e ∧ ∀ j, j < P.cellsOf e → w.cell? ((a.add (i * P.cellsOf e)).add j) = ur.2.cells[j]? := by
          intro i
          by_cases hi : i < len
          · have h1 := hat i hi
            have hel' : elems[i]? = some (elems[i]'(by omega)) := List.getElem?_eq_getElem (by omega)
            rw [hel'] at h1
            obtain ⟨cs', h2, h3⟩ := Option.bind_eq_some_iff.1 h1
            obtain ⟨_, h4, h5⟩ := World.cells?_some h2
            obtain ⟨u, h6, h7⟩ := read_val n e cs' m _ he h3
            have hc := cells_mkV hefl h3
            refine ⟨(u, mkV P e cs'), fun _ => ⟨h6, h7, ?_, fun j hj => ?_⟩⟩
            · rw [← Array.length_toList, hc]; exact h4
            · rw [h5 j hj, ← Array.getElem?_toList, hc]
          · exact ⟨(.nilp, default), fun h => absurd h hi⟩
        obtain ⟨U, hU⟩ := Classical.axiomOfChoice key
        have hsz : ∀ v ∈ (List.range len).map fun i => (U i).2, v.cells.size = P.cellsOf e := by
          intro v hv
          obtain ⟨i, hi, rfl⟩ := List.mem_map.1 hv
          exact (hU i (List.mem_range.1 hi)).2.2.1
        refine ⟨.sl ((List.range len).map fun i => (U i).1) .any, ?_, _, rfl, fun u hum => ?_⟩
        · simp only [rep, List.headD_cons]
          refine ⟨(List.range len).map fun i => (U i).2, some a, len, cap, repL_of_get (by simp) fun j hj => ⟨(U j).2, by simp [hj], (hU j hj).1⟩, rfl, ⟨by simp, hl, nofun, ?_, ⟨_, hsz⟩, nofun, nofun⟩⟩
          by_cases h0 : len = 0
          · exact .inl (by simp [h0])
          · right
            obtain ⟨b, off, spot⟩ := a
            have h1 := (hU 0 (by omega)).2.2.2 0 hpos
            have hsp : spot = none := by
              have h2 := (hU 0 (by omega)).2.2.1
              have h3 : (U 0).2.cells[0]? = some ((U 0).2.cells[0]'(by omega)) := Array.getElem?_eq_getElem _
              rw [h3] at h1
              simpa [Addr.add] using World.cell?_spot h1
            subst hsp
            refine ⟨b, off, rfl, fun i v hi => ⟨?_, bare_imm _ _⟩⟩
            obtain ⟨u, h2, h3⟩ := flat_at hpos hsz hi
            have hil : i / P.cellsOf e < len := by
              have := (List.getElem?_eq_some_iff.1 h2).1
              simpa using this
            rw [List.getElem?_map, List.getElem?_range hil] at h2
            simp at h2
            subst h2
            have h4 := (hU _ hil).2.2.2 (i % P.cellsOf e) (Nat.mod_lt _ hpos)
            rw [h3] at h4
            have ea : (Addr.add (Addr.add ⟨b, off, none⟩ (i / P.cellsOf e * P.cellsOf e)) (i % P.cellsOf e)) = ⟨b, off + i, none⟩ := by
              have := Nat.div_add_mod i (P.cellsOf e)
              rw [Nat.mul_comm] at this
              rw [add_plain, add_plain, Nat.add_assoc, this]
            rw [ea] at h4
            exact h4
        · obtain ⟨i, hi, rfl⟩ := List.mem_map.1 hum
          exact (hU i (List.mem_range.1 hi)).2.1
    · cases hfl
end

end Go.Proofs.YtdeondiigpidnaaGreat.Ab
end

section
set_option linter.unusedVariables false
set_option linter.unusedSimpArgs false
/- From a contract at the empty store to what a law's row asks of a call. -/
namespace Go.Proofs.YtdeondiigpidnaaGreat.Ab
open Go Go.RowKit Go.ChangeShapes Go.WideShapes
set_option linter.unusedSectionVars false
set_option linter.unusedVariables false
set_option linter.unusedSimpArgs false

def hasAll (P : Program) (n : Nat) : List TypeId → List V → Prop
  | [], us => us = []
  | t :: ts, us => ∃ u r, us = u :: r ∧ hasV P n t u ∧ hasAll P n ts r

section
variable {H : Type} {enc : TypeId × Value → H} {P : Program}

theorem mkV_ok {w : World} {r : Reach} {base n : Nat} {t : TypeId} {v : Value} (h : okV P n t = true) (hv : Value.okWide P w r base t v) : mkV P t v.cells.toList = v := by
  cases n with
  | zero => simp [okV] at h
  | succ n =>
    simp only [okV, Bool.and_eq_true] at h
    have hf := h.1
    unfold flatOk at hf
    unfold mkV
    split at hf
    · rename_i fs hu
      obtain ⟨cs, rfl, _⟩ := okWide_struct hu hv
      rw [hu]; simp [Value.cells]
    · rename_i hu
      obtain ⟨b, rfl⟩ := okWide_bool hu hv
      rw [hu]; simp [Value.cells]
    · rename_i k hu
      obtain ⟨b, rfl⟩ := okWide_int hu hv
      rw [hu]; simp [Value.cells]
    · rename_i hu
      obtain ⟨b, rfl⟩ := okWide_string hu hv
      rw [hu]; simp [Value.cells]
    · rename_i e hu
      obtain ⟨a, l, c, rfl⟩ := okWide_slice hu hv
      rw [hu]; simp [Value.cells]
    · cases hf

theorem read_all {W : World} {r : Reach} {base n : Nat} : ∀ {ts : List TypeId} {vs : List Value} {ds : List (DataW H)} {ps : List MemPlace}, (∀ t ∈ ts, okV P n t = true) →
    (∀ (j : Nat) t v, ts[j]? = some t → vs[j]? = some v → Value.okWide P W r base t v) → DataW.TrodAll enc P W 0 (fun _ => true) true ts vs ds ps → ∃ us, repL (Ctx.bare W) us vs ∧ hasAll P n ts us
  | [], vs, ds, ps, _, _, h => by
    obtain ⟨rfl, _, _⟩ := trodAll_nil h
    exact ⟨[], by simp [repL], rfl⟩
  | t :: ts, vs, ds, ps, hok, hval, h => by
    obtain ⟨v, vs', d, ds', p, q, rfl, rfl, rfl, h1, h2⟩ := trodAll_cons h
    obtain ⟨us, h3, h4⟩ := read_all (fun s hs => hok s (by simp [hs])) (fun j s u hs hu => hval (j + 1) s u (by simpa using hs) (by simpa using hu)) h2
    obtain ⟨fuel, hf⟩ := h1
    have ht := hok t (by simp)
    obtain ⟨u, h5, h6⟩ := read_val n t _ fuel _ ht hf
    rw [mkV_ok ht (hval 0 t v rfl rfl)] at h5
    exact ⟨u :: us, by simp only [repL]; exact ⟨v, vs', rfl, h5, h3⟩, u, us, rfl, h6, h4⟩

theorem below_all {W W' : World} (hl : laidOutB P = true) (hb : Below W.heap.size W W') : ∀ {ts : List TypeId} {vs : List Value} {ds : List (DataW H)} {ps : List MemPlace}, (∀ t ∈ ts, P.readableRec t = true ∧ t < P.types.size) →
    DataW.TrodAll enc P W 0 (fun _ => true) true ts vs ds ps → (∀ x ∈ ps, x.block < W.heap.size) → DataW.TrodAll enc P W' 0 (fun b => decide (b < W.heap.size)) true ts vs ds ps
  | [], vs, ds, ps, _, h, _ => by
    obtain ⟨rfl, rfl, rfl⟩ := trodAll_nil h
    exact trodAll_mk0
  | t :: ts, vs, ds, ps, hok, h, hlt => by
    obtain ⟨v, vs', d, ds', p, q, rfl, rfl, rfl, h1, h2⟩ := trodAll_cons h
    have ht := hok t (by simp)
    exact trodAll_cons_mk (Below.trod hl ht.1 ht.2 h1 hb fun x hx => hlt x (by simp [hx])) (below_all hl hb (fun s hs => hok s (by simp [hs])) h2 fun x hx => hlt x (by simp [hx]))

theorem trodAll_length {W : World} {base : Nat} {sp : Nat → Bool} {held : Bool} : ∀ {ts : List TypeId} {vs : List Value} {ds : List (DataW H)} {ps : List MemPlace}, DataW.TrodAll enc P W base sp held ts vs ds ps → ds.length = ts.length
  | [], vs, ds, ps, h => by obtain ⟨_, rfl, _⟩ := trodAll_nil h; rfl
  | t :: ts, vs, ds, ps, h => by
    obtain ⟨v, vs', d, ds', p, q, rfl, rfl, rfl, h1, h2⟩ := trodAll_cons h
    simp [trodAll_length h2]

variable [Fwd]
theorem evo_below {W : World} {c' : Ctx} (h : Evo (Ctx.bare W) c') : Below W.heap.size W c'.w :=
  ⟨h.os, h.output.tape, h.output.output, h.ext.sz, fun k hk => h.free k hk fun id o e ho => by simp [Ctx.bare] at ho⟩

/-- what a law's row asks of a call -/
theorem said_contract {f : FuncId} {fn : Func} {n : Nat} {tb : TypeId} {spec : ChangeSpec} (lo : laidOutB P = true) (hok : ∀ t ∈ fn.params.toList, okV P n t = true ∧ P.readableRec t = true ∧ t < P.types.size)
    (hr : fn.resultTypes = #[tb]) (hb : P.underlying tb = some .bool) (hvars : spec.vars = [])
    (hs : ∀ ds : List (DataW H), ds.length = fn.params.size → spec.fn H (ds ++ []) = { results := [.lit (.bool true)], args := ds, vars := [] })
    (hAC : ∀ us, hasAll P n fn.params.toList us → AC P f us (fun _ => none) fun r _ => r = .bool true)
    {W : World} {base : Nat} {args : Array Value} {ds gs : List (DataW H)} {before : List MemPlace}
    (hval : ∀ (j : Nat) t v, fn.params[j]? = some t → args[j]? = some v → Value.okWide P W .any base t v)
    (hW : DataW.Whole enc P fn.params.toList spec.vars false W args.toList ds gs before) :
    Calls P f args W fun e W' => ∃ v, e = .returned v ∧ spec.post enc P fn false true false false W args v W' := by
  have hW' := hW
  obtain ⟨p, q, hA, hV, rfl, _, _⟩ := hW
  rw [hvars] at hV
  obtain ⟨rfl, rfl⟩ := trodVars_none hV
  obtain ⟨us, h1, h2⟩ := read_all (r := .any) (base := base) (n := n) (fun t ht => (hok t ht).1) (fun j t v hj hv => hval j t v (by simpa using hj) (by simpa using hv)) hA
  have hc := (hAC us h2).2 (Ctx.bare W) rfl (R.bare W) args.toList h1
  rw [Array.toArray_toList] at hc
  refine hc.mono ?_
  rintro e W' ⟨cr, r, c', rfl, rfl, _, hE, _, hr', rfl⟩
  simp only [rep] at hr'
  subst hr'
  have hbl := evo_below hE
  have hlt : ∀ x ∈ p, x.block < W.heap.size := fun x hx => by simpa using hW'.lt x (by simp [hx])
  have e1 := hs ds (by rw [trodAll_length hA]; simp)
  refine ⟨_, rfl, ds, [], _, [], p, [], hW', ?_, ?_, ?_, hbl.frame _, fun h => by cases h⟩
  · rw [e1, hr]
    exact trodAll_mk1 ⟨1, by simp [DataW.trod, Value.cells, hb]⟩
  · rw [e1]
    exact below_all lo hbl (fun t ht => (hok t ht).2) hA hlt
  · rw [e1, hvars]; rfl
end

end Go.Proofs.YtdeondiigpidnaaGreat.Ab
end

section
set_option linter.unusedVariables false
set_option linter.unusedSimpArgs false
/- Arguments as the program's plain things. -/
namespace Go.Proofs.YtdeondiigpidnaaGreat.Ab
open Go
set_option linter.unusedVariables false
set_option linter.unusedSimpArgs false

def isStr (P : Program) (t : TypeId) : Bool := match P.underlying t with | some (.struct _) => true | _ => false
section
variable {P : Program}
theorem hasV_bool {n : Nat} {t : TypeId} {v : V} (hu : P.underlying t = some .bool) (h : hasV P (n + 1) t v) : ∃ b, v = .bool b := by
  unfold hasV at h; rw [hu] at h; exact h
theorem hasV_int {n : Nat} {t : TypeId} {k : IntKind} {v : V} (hu : P.underlying t = some (.int k)) (h : hasV P (n + 1) t v) : ∃ i, v = .int k i := by
  unfold hasV at h; rw [hu] at h; exact h
theorem hasV_str {n : Nat} {t : TypeId} {v : V} (hu : P.underlying t = some .string) (h : hasV P (n + 1) t v) : ∃ s : Bytes, v = .str (bs s) := by
  unfold hasV at h; rw [hu] at h
  obtain ⟨s, rfl⟩ := h
  exact ⟨s.data.toList, by simp [bs]⟩
theorem hasV_sl {n : Nat} {t e : TypeId} {v : V} (hu : P.underlying t = some (.slice e)) (h : hasV P (n + 1) t v) : ∃ l, v = .sl l .any ∧ ∀ u ∈ l, hasV P n e u := by
  unfold hasV at h; rw [hu] at h; exact h
theorem hasV_agg {n : Nat} {t : TypeId} {v : V} (hu : isStr P t = true) (h : hasV P (n + 1) t v) :
    ∃ us, v = .agg us ∧ us.length = (leaves P 10 t).length ∧ ∀ (j : Nat) (tj : TypeId) (u : V), (leaves P 10 t)[j]? = some tj → us[j]? = some u → hasV P n tj u := by
  unfold hasV at h
  unfold isStr at hu
  split at hu
  · rename_i fs he
    rw [he] at h; exact h
  · cases hu

theorem list_of {α : Type} {p : V → α → Prop} : ∀ {l : List V}, (∀ u ∈ l, ∃ a, p u a) → ∃ ys : List α, ys.length = l.length ∧ ∀ (i : Nat) u a, l[i]? = some u → ys[i]? = some a → p u a
  | [], _ => ⟨[], rfl, by simp⟩
  | u :: l, h => by
    obtain ⟨a, ha⟩ := h u (by simp)
    obtain ⟨ys, h1, h2⟩ := list_of (l := l) fun x hx => h x (by simp [hx])
    refine ⟨a :: ys, by simp [h1], fun i x y hx hy => ?_⟩
    cases i with
    | zero => simp at hx hy; subst hx hy; exact ha
    | succ i => simp at hx hy; exact h2 i x y hx hy
theorem map_of {α : Type} {f : α → V} {l : List V} (h : ∀ u ∈ l, ∃ a, u = f a) : ∃ ys : List α, l = ys.map f := by
  obtain ⟨ys, h1, h2⟩ := list_of (p := fun u a => u = f a) h
  refine ⟨ys, List.ext_getElem? fun i => ?_⟩
  rw [List.getElem?_map]
  cases hl : l[i]? with
  | none =>
    have : ys[i]? = none := by rw [List.getElem?_eq_none_iff] at hl ⊢; omega
    rw [this]; rfl
  | some u =>
    have : i < ys.length := by rw [h1]; exact (List.getElem?_eq_some_iff.1 hl).1
    have ha := List.getElem?_eq_getElem this
    rw [ha, h2 i u _ hl ha]; rfl

/-- a command -/
theorem cmd_of {n : Nat} {t i o s : TypeId} {v : V} (hs : isStr P t = true) (hl : leaves P 10 t = [i, i, o, s, s, i, i, i]) (hi : P.underlying i = some (.int .i64)) (ho : P.underlying o = some (.int .i64)) (hst : P.underlying s = some .string)
    (h : hasV P (n + 2) t v) : ∃ c : Cmd, v = c.enc := by
  obtain ⟨us, rfl, hlen, hat⟩ := hasV_agg hs h
  rw [hl] at hlen hat
  match us, hlen with
  | [u0, u1, u2, u3, u4, u5, u6, u7], _ =>
    obtain ⟨a0, rfl⟩ := hasV_int hi (hat 0 i u0 rfl rfl)
    obtain ⟨a1, rfl⟩ := hasV_int hi (hat 1 i u1 rfl rfl)
    obtain ⟨a2, rfl⟩ := hasV_int ho (hat 2 o u2 rfl rfl)
    obtain ⟨a3, rfl⟩ := hasV_str hst (hat 3 s u3 rfl rfl)
    obtain ⟨a4, rfl⟩ := hasV_str hst (hat 4 s u4 rfl rfl)
    obtain ⟨a5, rfl⟩ := hasV_int hi (hat 5 i u5 rfl rfl)
    obtain ⟨a6, rfl⟩ := hasV_int hi (hat 6 i u6 rfl rfl)
    obtain ⟨a7, rfl⟩ := hasV_int hi (hat 7 i u7 rfl rfl)
    exact ⟨⟨a0, a1, a2, a3, a4, a5, a6, a7⟩, rfl⟩
theorem cmds_of {n : Nat} {t e i o s : TypeId} {v : V} (hu : P.underlying t = some (.slice e)) (hs : isStr P e = true) (hl : leaves P 10 e = [i, i, o, s, s, i, i, i]) (hi : P.underlying i = some (.int .i64)) (ho : P.underlying o = some (.int .i64)) (hst : P.underlying s = some .string)
    (h : hasV P (n + 3) t v) : ∃ l : List Cmd, v = .sl (l.map Cmd.enc) .any := by
  obtain ⟨l, rfl, hall⟩ := hasV_sl hu h
  obtain ⟨cs, rfl⟩ := map_of fun u hu => cmd_of hs hl hi ho hst (hall u hu)
  exact ⟨cs, rfl⟩
end
end Go.Proofs.YtdeondiigpidnaaGreat.Ab
end

section
set_option linter.unusedVariables false
set_option linter.unusedSimpArgs false
/- Paths, in plain Lean: names, how a path is taken apart, and put together. -/
namespace Go.Proofs.YtdeondiigpidnaaGreat.Ab
open Go
set_option linter.unusedVariables false
set_option linter.unusedSimpArgs false

def nameByte (c : UInt8) : Bool := decide (97 ≤ c.toNat ∧ c.toNat ≤ 122) || decide (48 ≤ c.toNat ∧ c.toNat ≤ 57) || c.toNat == 45 || c.toNat == 95
def isName (l : Bytes) : Bool := l.all nameByte && decide (0 < l.length ∧ l.length ≤ 16)

def tw (l : Bytes) : Bytes := l.takeWhile (· != 47)
theorem tw_le (l : Bytes) : (tw l).length ≤ l.length := (List.takeWhile_prefix _).length_le
theorem tw_take (l : Bytes) : l.take (tw l).length = tw l := by
  induction l with
  | nil => rfl
  | cons c r ih =>
    unfold tw at ih ⊢
    by_cases h : (c != 47) = true
    · simp only [List.takeWhile_cons, h, if_true, List.length_cons, List.take_succ_cons, ih]
    · simp [List.takeWhile_cons, h]

theorem idx_spec (l : Bytes) : (Lib.indexByte l 47 = -1 ∧ tw l = l) ∨ (Lib.indexByte l 47 = ((tw l).length : Int) ∧ (tw l).length < l.length) := by
  induction l with
  | nil => left; simp [Lib.indexByte, tw]
  | cons c r ih =>
    unfold Lib.indexByte
    by_cases h : c = 47
    · subst h
      right
      simp [tw]
    · have h1 : (c == 47) = false := by simpa using h
      have h2 : tw (c :: r) = c :: tw r := by
        unfold tw
        rw [List.takeWhile_cons]
        simp [h]
      rw [h2]
      simp only [h1, Bool.false_eq_true, if_false]
      rcases ih with ⟨h3, h4⟩ | ⟨h3, h4⟩
      · left; simp [h3, h4]
      · right
        have h5 : (Lib.indexByte r 47 == -1) = false := by rw [h3]; simp only [beq_eq_false_iff_ne]; omega
        simp only [h5, Bool.false_eq_true, if_false, List.length_cons]
        rw [h3]
        exact ⟨rfl, by omega⟩

/-- the parts of what is left of a path, behind those that are known -/
def parts' (acc : List Bytes) : Nat → Bytes → Option (List Bytes)
  | _, [] => if acc = [] then none else some acc
  | 0, _ :: _ => none
  | f + 1, c :: r => if c = 47 ∧ acc.length < 8 ∧ isName (tw r) = true then parts' (acc ++ [tw r]) f (r.drop (tw r).length) else none
def splitP (p : Bytes) : Option (List Bytes) := if p = [47] then some [] else parts' [] p.length p

theorem parts'_fuel : ∀ (f g : Nat) (acc : List Bytes) (p : Bytes), p.length ≤ f → p.length ≤ g → parts' acc f p = parts' acc g p
  | f, g, acc, [], _, _ => by cases f <;> cases g <;> simp [parts']
  | 0, g, acc, c :: r, hf, _ => by simp at hf
  | f, 0, acc, c :: r, _, hg => by simp at hg
  | f + 1, g + 1, acc, c :: r, hf, hg => by
    simp only [parts']
    split
    · simp only [List.length_cons] at hf hg
      exact parts'_fuel f g _ _ (by simp; omega) (by simp; omega)
    · rfl

def pathOf (l : List Bytes) : Bytes := if l = [] then [47] else l.flatMap (47 :: ·)
def okNames (l : List Bytes) : Bool := decide (l.length ≤ 8) && l.all isName

theorem name_no_slash {n : Bytes} (h : isName n = true) : ∀ x ∈ n, x ≠ 47 := by
  intro x hx e
  subst e
  unfold isName at h
  rw [Bool.and_eq_true] at h
  have := List.all_eq_true.1 h.1 47 hx
  revert this; decide
theorem name_pos {n : Bytes} (h : isName n = true) : n ≠ [] := by
  rintro rfl
  revert h; decide
theorem name_len {n : Bytes} (h : isName n = true) : n.length ≤ 16 := by
  unfold isName at h
  rw [Bool.and_eq_true, decide_eq_true_eq] at h
  exact h.2.2

theorem tw_append {n r : Bytes} (h : ∀ x ∈ n, x ≠ 47) (hr : r = [] ∨ ∃ t, r = 47 :: t) : tw (n ++ r) = n := by
  induction n with
  | nil => rcases hr with rfl | ⟨t, rfl⟩ <;> simp [tw]
  | cons c n ih =>
    have hc : (c != 47) = true := by simpa using h c (by simp)
    have := ih fun x hx => h x (by simp [hx])
    unfold tw at this ⊢
    simp [List.takeWhile_cons, hc, this]

theorem parts'_path : ∀ (l acc : List Bytes) (f : Nat), (∀ n ∈ l, isName n = true) → acc.length + l.length ≤ 8 → l.length ≤ f → acc ++ l ≠ [] → parts' acc f (l.flatMap (47 :: ·)) = some (acc ++ l)
  | [], acc, f, _, _, _, hne => by
    simp only [List.append_nil] at hne
    cases f <;> simp [parts', hne]
  | n :: l, acc, 0, _, _, hf, _ => by simp at hf
  | n :: l, acc, f + 1, hl, ha, hf, hne => by
    simp only [List.length_cons] at ha hf
    have hn := hl n (by simp)
    have hr : l.flatMap (47 :: ·) = [] ∨ ∃ t, l.flatMap (fun x => (47 : UInt8) :: x) = 47 :: t := by
      cases l with
      | nil => left; rfl
      | cons m l => right; exact ⟨_, by simp; rfl⟩
    have htw := tw_append (name_no_slash hn) hr
    simp only [List.flatMap_cons, List.cons_append, parts']
    rw [htw]
    simp only [hn, true_and, and_true]
    rw [if_pos (by omega), List.drop_left]
    have := parts'_path l (acc ++ [n]) f (fun m hm => hl m (by simp [hm])) (by simp; omega) (by omega) (by simp)
    simpa using this

theorem split_path {l : List Bytes} (h : okNames l = true) : splitP (pathOf l) = some l := by
  unfold okNames at h
  rw [Bool.and_eq_true, decide_eq_true_eq] at h
  have hl := List.all_eq_true.1 h.2
  cases l with
  | nil => simp [pathOf, splitP]
  | cons n l =>
    have hn := hl n (by simp)
    have hne : n.flatMap (fun x => [x]) ≠ [] := by simpa using name_pos hn
    have h1 : pathOf (n :: l) ≠ [47] := by
      intro e
      simp [pathOf] at e
      exact name_pos hn e.1
    unfold splitP
    rw [if_neg h1]
    have h2 : pathOf (n :: l) = (n :: l).flatMap (47 :: ·) := by simp [pathOf]
    rw [h2]
    have hlen : ∀ (l : List Bytes), l.length ≤ (l.flatMap (fun x => (47 : UInt8) :: x)).length := by
      intro l
      induction l with
      | nil => simp
      | cons x r ih => rw [List.flatMap_cons, List.length_append, List.length_cons, List.length_cons]; omega
    exact parts'_path (n :: l) [] _ hl (by simpa using h.1) (hlen _) (by simp)

theorem parts'_inv : ∀ (f : Nat) (acc : List Bytes) (p : Bytes) (l : List Bytes), parts' acc f p = some l → ∃ r, l = acc ++ r ∧ p = r.flatMap (47 :: ·) ∧ (∀ n ∈ r, isName n = true) ∧ l ≠ [] ∧ (acc.length ≤ 8 → l.length ≤ 8)
  | f, acc, [], l, h => by
    have : (if acc = [] then none else some acc) = some l := by cases f <;> simpa [parts'] using h
    split at this
    · cases this
    · rename_i hne
      cases this
      exact ⟨[], by simp, by simp, by simp, hne, fun h => h⟩
  | 0, acc, c :: r, l, h => by simp [parts'] at h
  | f + 1, acc, c :: r, l, h => by
    simp only [parts'] at h
    split at h
    · rename_i hc
      obtain ⟨rfl, hlt, hn⟩ := hc
      obtain ⟨r', h1, h2, h3, h4, h5⟩ := parts'_inv f _ _ l h
      refine ⟨tw r :: r', by simp [h1], ?_, ?_, h4, fun _ => h5 (by simp; omega)⟩
      · simp only [List.flatMap_cons, ← h2, List.cons_append]
        congr 1
        have := List.take_append_drop (tw r).length r
        rw [tw_take] at this
        exact this.symm
      · intro n hm
        rcases List.mem_cons.1 hm with rfl | hm
        · exact hn
        · exact h3 n hm
    · cases h

theorem split_inv {p : Bytes} {l : List Bytes} (h : splitP p = some l) : okNames l = true ∧ p = pathOf l := by
  unfold splitP at h
  split at h
  · rename_i hp
    cases h
    subst hp
    exact ⟨by decide, by simp [pathOf]⟩
  · obtain ⟨r, h1, h2, h3, h4, h5⟩ := parts'_inv _ _ _ _ h
    simp only [List.nil_append] at h1
    subst h1
    refine ⟨?_, ?_⟩
    · unfold okNames
      rw [Bool.and_eq_true, decide_eq_true_eq]
      exact ⟨h5 (by simp), List.all_eq_true.2 h3⟩
    · simp [pathOf, h4, h2]

theorem split_iff {p : Bytes} {l : List Bytes} : splitP p = some l ↔ okNames l = true ∧ p = pathOf l :=
  ⟨split_inv, fun ⟨h1, h2⟩ => by rw [h2]; exact split_path h1⟩

def namesP (p : Bytes) : List Bytes := (splitP p).getD []
def validP (p : Bytes) : Bool := (splitP p).isSome
def depthP (p : Bytes) : Int := match splitP p with | some l => l.length | none => -1
def parentP (p : Bytes) : Bytes := if namesP p = [] then [] else pathOf (namesP p).dropLast
def lastP (p : Bytes) : Bytes := (namesP p).getLast?.getD []
def cmpNames : List Bytes → List Bytes → Int
  | [], [] => 0
  | [], _ :: _ => -1
  | _ :: _, [] => 1
  | x :: a, y :: b => if Lib.compareBytes x y ≠ 0 then Lib.compareBytes x y else cmpNames a b
def lessP (p q : Bytes) : Bool := match splitP p, splitP q with | some a, some b => decide (cmpNames a b < 0) | _, _ => false
def orderP (p q : Bytes) : Int := if lessP p q = true then -1 else if p = q then 0 else 1

theorem join_path (l : List Bytes) : 47 :: Lib.join l [47] = pathOf l := by
  cases l with
  | nil => rfl
  | cons x r =>
    rw [Lib.join_cons]
    simp [pathOf, Lib.joinTail, List.flatMap]

theorem ok_take {l : List Bytes} {n : Nat} (h : okNames l = true) : okNames (l.take n) = true := by
  unfold okNames at h ⊢
  rw [Bool.and_eq_true, decide_eq_true_eq] at h ⊢
  exact ⟨by simp; omega, List.all_eq_true.2 fun x hx => List.all_eq_true.1 h.2 x (List.mem_of_mem_take hx)⟩
theorem path_len : ∀ {l : List Bytes}, (∀ n ∈ l, isName n = true) → (l.flatMap (fun x => (47 : UInt8) :: x)).length ≤ 17 * l.length
  | [], _ => by simp
  | x :: r, h => by
    have := path_len (l := r) fun n hn => h n (by simp [hn])
    have h1 := name_len (h x (by simp))
    rw [List.flatMap_cons, List.length_append, List.length_cons, List.length_cons]
    omega
theorem pathOf_len {l : List Bytes} (h : okNames l = true) : (pathOf l).length ≤ 136 := by
  unfold okNames at h
  rw [Bool.and_eq_true, decide_eq_true_eq] at h
  unfold pathOf
  split
  · simp
  · have := path_len (l := l) (List.all_eq_true.1 h.2)
    omega
theorem names_ok (p : Bytes) : okNames (namesP p) = true := by
  unfold namesP
  cases h : splitP p with
  | none => decide
  | some l => exact (split_inv h).1

end Go.Proofs.YtdeondiigpidnaaGreat.Ab
end

section
set_option linter.unusedVariables false
set_option linter.unusedSimpArgs false
/- A directory, in plain Lean. -/
namespace Go.Proofs.YtdeondiigpidnaaGreat.Ab
open Go
set_option linter.unusedVariables false
set_option linter.unusedSimpArgs false

abbrev Dir := List Entry
def dfind (L : Dir) (p : Bytes) : Option Entry := L.find? fun e => p == e.path
def dput : Dir → Entry → Dir
  | [], e => [e]
  | x :: r, e => if e.path = x.path then e :: r else x :: dput r e
def ddel : Dir → Bytes → Dir
  | [], _ => []
  | x :: r, p => if p = x.path then r else x :: ddel r p
def dthere (L : Dir) (p : Bytes) : Bool := (dfind L p).isSome || p == [47]
def dval (L : Dir) (p : Bytes) : Bytes := ((dfind L p).map (·.value)).getD []
def dver (L : Dir) (p : Bytes) : Int := ((dfind L p).map (·.version)).getD 0
def bytesLe (a b : Bytes) : Bool := !decide (b < a)
def dnames (L : Dir) (p : Bytes) : List Bytes := ((L.filter fun e => parentP e.path == p).map fun e => lastP e.path).mergeSort bytesLe

def Cmd.right (c : Cmd) : Bool :=
  validP c.path && (!(c.op == 1 || c.op == 3 || c.op == 6) || decide (c.value.length ≤ 64)) && (!(c.op == 2 || c.op == 3 || c.op == 6) || c.path != [47])
def rep0 (err : Int) : Reply := ⟨err, [], 0, []⟩

def dset (L : Dir) (c : Cmd) : Dir × Reply :=
  let v := IntKind.i64.wrap (dver L c.path + 1)
  (dput L ⟨c.path, c.value, v⟩, ⟨0, [], v, []⟩)
def dcreate (L : Dir) (c : Cmd) : Dir × Reply :=
  if dthere L c.path = true then (L, rep0 3) else if dthere L (parentP c.path) = false then (L, rep0 2) else (dput L ⟨c.path, c.value, 1⟩, ⟨0, [], 1, []⟩)
def dremove (L : Dir) (c : Cmd) : Dir × Reply := if dnames L c.path ≠ [] then (L, rep0 4) else (ddel L c.path, rep0 0)
def dget (L : Dir) (c : Cmd) : Dir × Reply := (L, ⟨0, dval L c.path, dver L c.path, []⟩)
def dlist (L : Dir) (c : Cmd) : Dir × Reply := (L, ⟨0, [], 0, dnames L c.path⟩)
def dcas (L : Dir) (c : Cmd) : Dir × Reply := if dver L c.path ≠ c.version then (L, ⟨5, [], dver L c.path, []⟩) else dset L c
def dApply (L : Dir) (c : Cmd) : Dir × Reply :=
  if c.op < 1 ∨ 6 < c.op ∨ c.right = false then (L, rep0 1)
  else if c.op = 1 then dcreate L c
  else if dthere L c.path = false then (L, rep0 2)
  else if c.op = 2 then dremove L c
  else if c.op = 3 then dset L c
  else if c.op = 4 then dget L c
  else if c.op = 5 then dlist L c
  else dcas L c

end Go.Proofs.YtdeondiigpidnaaGreat.Ab
end

section
set_option linter.unusedVariables false
set_option linter.unusedSimpArgs false
/- Orders of texts, of names and of paths, in plain Lean. -/
namespace Go.Proofs.YtdeondiigpidnaaGreat.Ab
open Go Go.Sort Go.Proofs
set_option linter.unusedVariables false
set_option linter.unusedSimpArgs false

theorem u8_lt {a b : UInt8} : a < b ↔ a.toNat < b.toNat := UInt8.lt_iff_toNat_lt
theorem cmpB_iff : ∀ (a b : Bytes), (Lib.compareBytes a b < 0 ↔ a < b) ∧ (Lib.compareBytes a b = 0 ↔ a = b) ∧ (0 < Lib.compareBytes a b ↔ b < a)
  | [], [] => by simp [Lib.compareBytes]
  | [], y :: b => by simp [Lib.compareBytes]
  | x :: a, [] => by simp [Lib.compareBytes]
  | x :: a, y :: b => by
    obtain ⟨h1, h2, h3⟩ := cmpB_iff a b
    unfold Lib.compareBytes
    by_cases hxy : x < y
    · rw [if_pos hxy]
      have hne : x ≠ y := fun e => by subst e; exact absurd hxy (by simp [u8_lt])
      have hnl : ¬ y < x := by rw [u8_lt] at *; omega
      refine ⟨by simp [List.cons_lt_cons_iff, hxy], by simp [hne], ?_⟩
      simp [List.cons_lt_cons_iff, hnl, Ne.symm hne]
    · rw [if_neg hxy]
      by_cases hyx : y < x
      · rw [if_pos hyx]
        have hne : x ≠ y := fun e => by subst e; exact absurd hyx (by simp [u8_lt])
        refine ⟨by simp [List.cons_lt_cons_iff, hxy, hne], by simp [hne], by simp [List.cons_lt_cons_iff, hyx]⟩
      · rw [if_neg hyx]
        have he : x = y := by rw [u8_lt] at *; exact UInt8.toNat_inj.1 (by omega)
        subst he
        refine ⟨by simp [List.cons_lt_cons_iff, hxy, h1], by simp [h2], by simp [List.cons_lt_cons_iff, hxy, h3]⟩

/-- one list of texts comes ahead of another one -/
theorem cmpN_iff : ∀ (a b : List Bytes), (cmpNames a b < 0 ↔ a < b) ∧ (cmpNames a b = 0 ↔ a = b) ∧ (0 < cmpNames a b ↔ b < a)
  | [], [] => by simp [cmpNames]
  | [], y :: b => by simp [cmpNames]
  | x :: a, [] => by simp [cmpNames]
  | x :: a, y :: b => by
    obtain ⟨h1, h2, h3⟩ := cmpN_iff a b
    obtain ⟨g1, g2, g3⟩ := cmpB_iff x y
    unfold cmpNames
    by_cases hxy : Lib.compareBytes x y = 0
    · rw [if_neg (by simpa using hxy)]
      have he := g2.1 hxy
      subst he
      have hirr : ¬ x < x := List.lt_irrefl x
      refine ⟨by simp [List.cons_lt_cons_iff, hirr, h1], by simp [h2], by simp [List.cons_lt_cons_iff, hirr, h3]⟩
    · rw [if_pos hxy]
      have hne : x ≠ y := fun e => hxy (g2.2 e)
      refine ⟨by simp [List.cons_lt_cons_iff, hne, g1], by simp [hne, hxy], by simp [List.cons_lt_cons_iff, Ne.symm hne, g3]⟩

theorem names_trans {a b c : List Bytes} (h : a < b) (h' : b < c) : a < c := List.lt_trans h h'
theorem names_irrefl (a : List Bytes) : ¬ a < a := List.lt_irrefl a
theorem names_total (a b : List Bytes) : a < b ∨ a = b ∨ b < a := by
  obtain ⟨h1, h2, h3⟩ := cmpN_iff a b
  rw [← h1, ← h2, ← h3]; omega
theorem bytes_total (a b : Bytes) : a < b ∨ a = b ∨ b < a := by
  obtain ⟨h1, h2, h3⟩ := cmpB_iff a b
  rw [← h1, ← h2, ← h3]; omega

/-- what is strict and total is what the kit asks of a comparator -/
theorem swo_of {α : Type} {lt : α → α → Bool} {r : α → α → Prop} (h : ∀ x y, lt x y = true ↔ r x y) (irr : ∀ x, ¬ r x x) (tr : ∀ x y z, r x y → r y z → r x z) (tot : ∀ x y, r x y ∨ x = y ∨ r y x) : SWO lt where
  irrefl := fun x => by
    cases hx : lt x x with
    | false => rfl
    | true => exact absurd ((h x x).1 hx) (irr x)
  trans := fun x y z h1 h2 => (h x z).2 (tr _ _ _ ((h x y).1 h1) ((h y z).1 h2))
  ntrans := fun x y z h1 h2 => by
    cases hx : lt x z with
    | false => rfl
    | true =>
      exfalso
      have h3 := (h x z).1 hx
      have n1 : ¬ r x y := fun hr => by rw [(h x y).2 hr] at h1; cases h1
      have n2 : ¬ r y z := fun hr => by rw [(h y z).2 hr] at h2; cases h2
      rcases tot x y with h4 | rfl | h4
      · exact n1 h4
      · exact n2 h3
      · exact n2 (tr _ _ _ h4 h3)
theorem anti_of {α : Type} {lt : α → α → Bool} {r : α → α → Prop} (h : ∀ x y, lt x y = true ↔ r x y) (tot : ∀ x y, r x y ∨ x = y ∨ r y x) (x y : α) (h1 : lt x y = false) (h2 : lt y x = false) : x = y := by
  rcases tot x y with h4 | h4 | h4
  · rw [(h x y).2 h4] at h1; cases h1
  · exact h4
  · rw [(h y x).2 h4] at h2; cases h2

/-- a list in order is the one that there is -/
theorem sort_eq {α : Type} {le : α → α → Bool} (tr : ∀ a b c, le a b = true → le b c = true → le a c = true) (tot : ∀ a b, (le a b || le b a) = true) (anti : ∀ a b, le a b = true → le b a = true → a = b) {l l' : List α} (h : l.Perm l') :
    l.mergeSort le = l'.mergeSort le :=
  List.Perm.eq_of_pairwise (le := fun a b => le a b = true) (fun a b _ _ h1 h2 => anti a b h1 h2) (List.pairwise_mergeSort tr tot l) (List.pairwise_mergeSort tr tot l') (((List.mergeSort_perm l le).trans h).trans (List.mergeSort_perm l' le).symm)

def cmpStr (a b : Bytes) : Int := if a < b then -1 else if a = b then 0 else 1
theorem cmpStr_lt (a b : Bytes) : ltOf cmpStr a b = true ↔ a < b := by
  unfold ltOf cmpStr
  by_cases h : a < b
  · simp [h]
  · simp only [if_neg h]
    by_cases h' : a = b
    · simp only [if_pos h', h, iff_false]; simp
    · simp only [if_neg h', h, iff_false]; simp
theorem cmpStr_swo : SWO (ltOf cmpStr) := swo_of cmpStr_lt List.lt_irrefl (fun _ _ _ => List.lt_trans) bytes_total
theorem cmpStr_anti : ∀ x y, (ltOf cmpStr) x y = false → (ltOf cmpStr) y x = false → x = y := anti_of cmpStr_lt bytes_total

/-- a path that may be -/
abbrev Pth := { p : Bytes // validP p = true }
instance : Inhabited Pth := ⟨⟨[47], by decide⟩⟩
theorem names_inj {p q : Bytes} (hp : validP p = true) (hq : validP q = true) (h : namesP p = namesP q) : p = q := by
  unfold validP at hp hq
  unfold namesP at h
  obtain ⟨a, ha⟩ := Option.isSome_iff_exists.1 hp
  obtain ⟨b, hb⟩ := Option.isSome_iff_exists.1 hq
  rw [ha, hb] at h
  simp only [Option.getD_some] at h
  subst h
  rw [(split_inv ha).2, (split_inv hb).2]
theorem lessP_iff {p q : Bytes} (hp : validP p = true) (hq : validP q = true) : lessP p q = true ↔ namesP p < namesP q := by
  unfold validP at hp hq
  unfold namesP lessP
  obtain ⟨a, ha⟩ := Option.isSome_iff_exists.1 hp
  obtain ⟨b, hb⟩ := Option.isSome_iff_exists.1 hq
  rw [ha, hb]
  simp [(cmpN_iff a b).1]
def cmpPth (p q : Pth) : Int := orderP p.1 q.1
theorem cmpPth_lt (p q : Pth) : ltOf cmpPth p q = true ↔ namesP p.1 < namesP q.1 := by
  unfold ltOf cmpPth orderP
  rw [← lessP_iff p.2 q.2]
  by_cases h : lessP p.1 q.1 = true
  · simp [h]
  · simp only [if_neg h]
    by_cases h' : p.1 = q.1
    · simp only [if_pos h', h, iff_false]; simp
    · simp only [if_neg h', h, iff_false]; simp
theorem pth_total (p q : Pth) : namesP p.1 < namesP q.1 ∨ p = q ∨ namesP q.1 < namesP p.1 := by
  rcases names_total (namesP p.1) (namesP q.1) with h | h | h
  · exact .inl h
  · exact .inr (.inl (Subtype.ext (names_inj p.2 q.2 h)))
  · exact .inr (.inr h)
theorem cmpPth_swo : SWO (ltOf cmpPth) := swo_of cmpPth_lt (fun _ => names_irrefl _) (fun _ _ _ => names_trans) pth_total
theorem cmpPth_anti : ∀ x y, (ltOf cmpPth) x y = false → (ltOf cmpPth) y x = false → x = y := anti_of cmpPth_lt pth_total

end Go.Proofs.YtdeondiigpidnaaGreat.Ab
end

section
set_option linter.unusedVariables false
set_option linter.unusedSimpArgs false
/- A directory's entries in their order; sessions in theirs. -/
namespace Go.Proofs.YtdeondiigpidnaaGreat.Ab
open Go Go.Sort Go.Proofs
set_option linter.unusedVariables false
set_option linter.unusedSimpArgs false

def entLe (x y : Entry) : Bool := !decide (namesP y.path < namesP x.path)
def dsorted (L : Dir) : Dir := L.mergeSort entLe
theorem entLe_tr (a b c : Entry) (h1 : entLe a b = true) (h2 : entLe b c = true) : entLe a c = true := by
  simp only [entLe, Bool.not_eq_true', decide_eq_false_iff_not] at *
  intro h
  rcases names_total (namesP a.path) (namesP b.path) with h3 | h3 | h3
  · exact h2 (names_trans h h3)
  · rw [h3] at h; exact h2 h
  · exact h1 h3
theorem entLe_tot (a b : Entry) : (entLe a b || entLe b a) = true := by
  simp only [entLe, Bool.or_eq_true, Bool.not_eq_true', decide_eq_false_iff_not]
  rcases names_total (namesP a.path) (namesP b.path) with h3 | h3 | h3
  · exact .inl fun h => names_irrefl _ (names_trans h h3)
  · rw [h3]; exact .inl (names_irrefl _)
  · exact .inr fun h => names_irrefl _ (names_trans h h3)

theorem find_mem {L : Dir} (hn : (L.map (·.path)).Nodup) {e : Entry} (he : e ∈ L) : dfind L e.path = some e := by
  unfold dfind
  induction L with
  | nil => simp at he
  | cons x r ih =>
    simp only [List.map_cons, List.nodup_cons] at hn
    rw [List.find?_cons]
    rcases List.mem_cons.1 he with rfl | he
    · simp
    · have : (e.path == x.path) = false := by
        rw [beq_eq_false_iff_ne]
        intro h
        exact hn.1 (List.mem_map.2 ⟨e, he, h⟩)
      rw [this]
      exact ih hn.2 he
theorem lookup_all {L : Dir} (hn : (L.map (·.path)).Nodup) : (L.map (·.path)).map (fun p => (⟨p, dval L p, dver L p⟩ : Entry)) = L := by
  rw [List.map_map]
  have : ∀ l : Dir, (∀ e ∈ l, e ∈ L) → l.map ((fun p => (⟨p, dval L p, dver L p⟩ : Entry)) ∘ (·.path)) = l := by
    intro l
    induction l with
    | nil => intro _; rfl
    | cons e r ih =>
      intro h
      rw [List.map_cons, ih fun x hx => h x (by simp [hx])]
      have := find_mem hn (h e (by simp))
      simp [dval, dver, this]
  exact this L fun _ h => h

theorem path_inj {L : Dir} (hn : (L.map (·.path)).Nodup) {a b : Entry} (ha : a ∈ L) (hb : b ∈ L) (h : a.path = b.path) : a = b := by
  have h1 := find_mem hn ha
  have h2 := find_mem hn hb
  rw [h, h2] at h1
  exact (Option.some.inj h1).symm

/-- entries that stand in order are the entries in order -/
theorem dsorted_of {L E : Dir} (hv : ∀ e ∈ L, validP e.path = true) (hn : (L.map (·.path)).Nodup) (hp : E.Perm L) (hs : E.Pairwise fun a b => entLe a b = true) : E = dsorted L := by
  refine List.Perm.eq_of_pairwise (le := fun a b => entLe a b = true) (fun a b ha hb h1 h2 => ?_) hs (List.pairwise_mergeSort entLe_tr entLe_tot L) (hp.trans (List.mergeSort_perm L _).symm)
  have ha' := hp.mem_iff.1 ha
  have hb' : b ∈ L := (List.mergeSort_perm L entLe).mem_iff.1 hb
  refine path_inj hn ha' hb' (names_inj (hv a ha') (hv b hb') ?_)
  simp only [entLe, Bool.not_eq_true', decide_eq_false_iff_not] at h1 h2
  rcases names_total (namesP a.path) (namesP b.path) with h3 | h3 | h3
  · exact absurd h3 h2
  · exact h3
  · exact absurd h3 h1

theorem dsorted_paths {L : Dir} {ps : List Bytes} (hv : ∀ e ∈ L, validP e.path = true) (hn : (L.map (·.path)).Nodup) (hp : ps.Perm (L.map (·.path))) (hs : ps.Pairwise fun a b => ¬ namesP b < namesP a) :
    ps.map (fun p => (⟨p, dval L p, dver L p⟩ : Entry)) = dsorted L := by
  refine dsorted_of hv hn ?_ ?_
  · have := hp.map fun p => (⟨p, dval L p, dver L p⟩ : Entry)
    rwa [lookup_all hn] at this
  · rw [List.pairwise_map]
    refine hs.imp fun {a b} h => ?_
    simpa [entLe] using h
theorem dsorted_perm (L : Dir) : (dsorted L).Perm L := List.mergeSort_perm L _

def toP (b : Bytes) : Pth := if h : validP b = true then ⟨b, h⟩ else default
theorem toP_val (p : Pth) : toP p.1 = p := by
  unfold toP
  rw [dif_pos p.2]
theorem val_toP {b : Bytes} (h : validP b = true) : (toP b).1 = b := by unfold toP; rw [dif_pos h]
theorem toP_map {l : List Bytes} (h : ∀ b ∈ l, validP b = true) : (l.map toP).map (·.1) = l := by
  induction l with
  | nil => rfl
  | cons b r ih =>
    rw [List.map_cons, List.map_cons, ih fun x hx => h x (by simp [hx]), val_toP (h b (by simp))]

/-! sessions -/
abbrev Lasts := List Sess
def sfind (S : Lasts) (c : Int) : Option Sess := S.find? fun e => c == e.client
def sput : Lasts → Sess → Lasts
  | [], e => [e]
  | x :: r, e => if e.client = x.client then e :: r else x :: sput r e
def sseq (S : Lasts) (c : Int) : Int := ((sfind S c).map (·.seq)).getD 0
def srep (S : Lasts) (c : Int) : Reply := ((sfind S c).map (·.reply)).getD (rep0 0)
def sesLe (x y : Sess) : Bool := decide (x.client ≤ y.client)
def ssorted (S : Lasts) : Lasts := S.mergeSort sesLe
theorem sfind_mem {S : Lasts} (hn : (S.map (·.client)).Nodup) {e : Sess} (he : e ∈ S) : sfind S e.client = some e := by
  unfold sfind
  induction S with
  | nil => simp at he
  | cons x r ih =>
    simp only [List.map_cons, List.nodup_cons] at hn
    rw [List.find?_cons]
    rcases List.mem_cons.1 he with rfl | he
    · simp
    · have : (e.client == x.client) = false := by
        rw [beq_eq_false_iff_ne]
        intro h
        exact hn.1 (List.mem_map.2 ⟨e, he, h⟩)
      rw [this]
      exact ih hn.2 he
theorem slookup_all {S : Lasts} (hn : (S.map (·.client)).Nodup) : (S.map (·.client)).map (fun p => (⟨p, sseq S p, srep S p⟩ : Sess)) = S := by
  rw [List.map_map]
  have : ∀ l : Lasts, (∀ e ∈ l, e ∈ S) → l.map ((fun p => (⟨p, sseq S p, srep S p⟩ : Sess)) ∘ (·.client)) = l := by
    intro l
    induction l with
    | nil => intro _; rfl
    | cons e r ih =>
      intro h
      rw [List.map_cons, ih fun x hx => h x (by simp [hx])]
      have := sfind_mem hn (h e (by simp))
      simp [sseq, srep, this]
  exact this S fun _ h => h
theorem client_inj {S : Lasts} (hn : (S.map (·.client)).Nodup) {a b : Sess} (ha : a ∈ S) (hb : b ∈ S) (h : a.client = b.client) : a = b := by
  have h1 := sfind_mem hn ha
  have h2 := sfind_mem hn hb
  rw [h, h2] at h1
  exact (Option.some.inj h1).symm
theorem sesLe_tr (a b c : Sess) (h1 : sesLe a b = true) (h2 : sesLe b c = true) : sesLe a c = true := by simp only [sesLe, decide_eq_true_eq] at *; omega
theorem sesLe_tot (a b : Sess) : (sesLe a b || sesLe b a) = true := by simp only [sesLe, Bool.or_eq_true, decide_eq_true_eq]; omega
theorem ssorted_of {S E : Lasts} (hn : (S.map (·.client)).Nodup) (hp : E.Perm S) (hs : E.Pairwise fun a b => sesLe a b = true) : E = ssorted S := by
  refine List.Perm.eq_of_pairwise (le := fun a b => sesLe a b = true) (fun a b ha hb h1 h2 => ?_) hs (List.pairwise_mergeSort sesLe_tr sesLe_tot S) (hp.trans (List.mergeSort_perm S _).symm)
  have ha' := hp.mem_iff.1 ha
  have hb' : b ∈ S := (List.mergeSort_perm S sesLe).mem_iff.1 hb
  refine client_inj hn ha' hb' ?_
  simp only [sesLe, decide_eq_true_eq] at h1 h2
  omega
theorem ssorted_clients {S : Lasts} {ps : List Int} (hn : (S.map (·.client)).Nodup) (hp : ps.Perm (S.map (·.client))) (hs : ps.Pairwise fun a b => a ≤ b) :
    ps.map (fun p => (⟨p, sseq S p, srep S p⟩ : Sess)) = ssorted S := by
  refine ssorted_of hn ?_ ?_
  · have := hp.map fun p => (⟨p, sseq S p, srep S p⟩ : Sess)
    rwa [slookup_all hn] at this
  · rw [List.pairwise_map]
    refine hs.imp fun {a b} h => ?_
    simpa [sesLe] using h
theorem ssorted_perm (S : Lasts) : (ssorted S).Perm S := List.mergeSort_perm S _

end Go.Proofs.YtdeondiigpidnaaGreat.Ab
end

section
set_option linter.unusedVariables false
set_option linter.unusedSimpArgs false
/- A machine: a directory, and clients, in plain Lean. -/
namespace Go.Proofs.YtdeondiigpidnaaGreat.Ab
open Go
set_option linter.unusedVariables false
set_option linter.unusedSimpArgs false

def Cmd.ok (c : Cmd) : Bool := decide (0 ≤ c.client ∧ c.client ≤ 1099511627776 ∧ 1 ≤ c.seq ∧ c.seq ≤ 1099511627776)
def Cmd.control (c : Cmd) : Bool := decide (7 ≤ c.op ∧ c.op ≤ 9)

structure Mach where
  dir : Dir
  lasts : Lasts
def mApply (M : Mach) (c : Cmd) (control : Reply) : Mach × Reply :=
  if c.op = 0 then (M, rep0 0)
  else if c.ok = false then (M, rep0 1)
  else if c.seq < sseq M.lasts c.client then (M, rep0 6)
  else if sseq M.lasts c.client = c.seq then (M, srep M.lasts c.client)
  else
    let x := if c.control = true then (M.dir, control) else dApply M.dir c
    (⟨x.1, sput M.lasts ⟨c.client, c.seq, x.2⟩⟩, x.2)

def lastLess (D : Dir) (p : Bytes) : Bool := (D.getLast?.map fun x => lessP x.path p).getD true
def lastLt (S : Lasts) (c : Int) : Bool := (S.getLast?.map fun x => decide (x.client < c)).getD true
/-- may an entry come behind those? -/
def entOk (D : Dir) (e : Entry) : Bool :=
  decide (1 ≤ depthP e.path) && decide (e.value.length ≤ 64) && decide (1 ≤ e.version) && lastLess D e.path && dthere D (parentP e.path)
def dOk : Dir → List Entry → Bool
  | _, [] => true
  | D, e :: r => entOk D e && dOk (D ++ [e]) r
def sesOk (S : Lasts) (e : Sess) : Bool :=
  (Cmd.mk e.client e.seq 0 [] [] 0 0 0).ok && lastLt S e.client
def sOk : Lasts → List Sess → Bool
  | _, [] => true
  | S, e :: r => sesOk S e && sOk (S ++ [e]) r

theorem dput_new : ∀ {D : Dir} {e : Entry}, (∀ x ∈ D, e.path ≠ x.path) → dput D e = D ++ [e]
  | [], e, _ => rfl
  | x :: r, e, h => by
    unfold dput
    rw [if_neg (h x (by simp)), dput_new fun y hy => h y (by simp [hy])]
    rfl
theorem sput_new : ∀ {S : Lasts} {e : Sess}, (∀ x ∈ S, e.client ≠ x.client) → sput S e = S ++ [e]
  | [], e, _ => rfl
  | x :: r, e, h => by
    unfold sput
    rw [if_neg (h x (by simp)), sput_new fun y hy => h y (by simp [hy])]
    rfl
theorem mem_dput : ∀ {D : Dir} {e x : Entry}, x ∈ dput D e → x = e ∨ x ∈ D
  | [], e, x, h => by simp [dput] at h; exact .inl h
  | y :: r, e, x, h => by
    unfold dput at h
    split at h
    · rcases List.mem_cons.1 h with h | h
      · exact .inl h
      · exact .inr (by simp [h])
    · rcases List.mem_cons.1 h with h | h
      · exact .inr (by simp [h])
      · rcases mem_dput h with h | h
        · exact .inl h
        · exact .inr (by simp [h])
theorem mem_ddel : ∀ {D : Dir} {p : Bytes} {x : Entry}, x ∈ ddel D p → x ∈ D
  | [], p, x, h => by simp [ddel] at h
  | y :: r, p, x, h => by
    unfold ddel at h
    split at h
    · simp [h]
    · rcases List.mem_cons.1 h with h | h
      · simp [h]
      · simp [mem_ddel h]
theorem dput_len : ∀ (D : Dir) (e : Entry), (dput D e).length ≤ D.length + 1
  | [], e => by simp [dput]
  | y :: r, e => by
    unfold dput
    split
    · simp
    · have := dput_len r e; simp; omega
theorem ddel_len : ∀ (D : Dir) (p : Bytes), (ddel D p).length ≤ D.length
  | [], p => by simp [ddel]
  | y :: r, p => by
    unfold ddel
    split
    · simp
    · have := ddel_len r p; simp; omega
theorem dput_paths : ∀ {D : Dir} {e : Entry} {q : Bytes}, q ∈ (dput D e).map (·.path) ↔ q = e.path ∨ q ∈ D.map (·.path)
  | [], e, q => by simp [dput]
  | y :: r, e, q => by
    unfold dput
    split
    · rename_i h
      simp only [List.map_cons, List.mem_cons]
      rw [← h]
      constructor
      · rintro (h | h)
        · exact .inl h
        · exact .inr (.inr h)
      · rintro (h | h | h)
        · exact .inl h
        · exact .inl h
        · exact .inr h
    · simp only [List.map_cons, List.mem_cons, dput_paths (D := r)]
      constructor
      · rintro (h | h | h)
        · exact .inr (.inl h)
        · exact .inl h
        · exact .inr (.inr h)
      · rintro (h | h | h)
        · exact .inr (.inl h)
        · exact .inl h
        · exact .inr (.inr h)
theorem dput_nodup : ∀ {D : Dir} {e : Entry}, (D.map (·.path)).Nodup → ((dput D e).map (·.path)).Nodup
  | [], e, _ => by simp [dput]
  | y :: r, e, h => by
    simp only [List.map_cons, List.nodup_cons] at h
    unfold dput
    split
    · rename_i he
      simp only [List.map_cons, List.nodup_cons]
      rw [he]; exact h
    · rename_i he
      simp only [List.map_cons, List.nodup_cons]
      refine ⟨fun hm => ?_, dput_nodup h.2⟩
      rcases dput_paths.1 hm with hm | hm
      · exact he hm.symm
      · exact h.1 hm
theorem ddel_nodup : ∀ {D : Dir} {p : Bytes}, (D.map (·.path)).Nodup → ((ddel D p).map (·.path)).Nodup
  | [], p, _ => by simp [ddel]
  | y :: r, p, h => by
    simp only [List.map_cons, List.nodup_cons] at h
    unfold ddel
    split
    · exact h.2
    · simp only [List.map_cons, List.nodup_cons]
      refine ⟨fun hm => ?_, ddel_nodup h.2⟩
      obtain ⟨x, hx, he⟩ := List.mem_map.1 hm
      exact h.1 (List.mem_map.2 ⟨x, mem_ddel hx, he⟩)
theorem sput_clients : ∀ {S : Lasts} {e : Sess} {q : Int}, q ∈ (sput S e).map (·.client) ↔ q = e.client ∨ q ∈ S.map (·.client)
  | [], e, q => by simp [sput]
  | y :: r, e, q => by
    unfold sput
    split
    · rename_i h
      simp only [List.map_cons, List.mem_cons]
      rw [← h]
      constructor
      · rintro (h | h)
        · exact .inl h
        · exact .inr (.inr h)
      · rintro (h | h | h)
        · exact .inl h
        · exact .inl h
        · exact .inr h
    · simp only [List.map_cons, List.mem_cons, sput_clients (S := r)]
      constructor
      · rintro (h | h | h)
        · exact .inr (.inl h)
        · exact .inl h
        · exact .inr (.inr h)
      · rintro (h | h | h)
        · exact .inr (.inl h)
        · exact .inl h
        · exact .inr (.inr h)
theorem sput_nodup : ∀ {S : Lasts} {e : Sess}, (S.map (·.client)).Nodup → ((sput S e).map (·.client)).Nodup
  | [], e, _ => by simp [sput]
  | y :: r, e, h => by
    simp only [List.map_cons, List.nodup_cons] at h
    unfold sput
    split
    · rename_i he
      simp only [List.map_cons, List.nodup_cons]
      rw [he]; exact h
    · rename_i he
      simp only [List.map_cons, List.nodup_cons]
      refine ⟨fun hm => ?_, sput_nodup h.2⟩
      rcases sput_clients.1 hm with hm | hm
      · exact he hm.symm
      · exact h.1 hm
theorem mem_sput : ∀ {S : Lasts} {e x : Sess}, x ∈ sput S e → x = e ∨ x ∈ S
  | [], e, x, h => by simp [sput] at h; exact .inl h
  | y :: r, e, x, h => by
    unfold sput at h
    split at h
    · rcases List.mem_cons.1 h with h | h
      · exact .inl h
      · exact .inr (by simp [h])
    · rcases List.mem_cons.1 h with h | h
      · exact .inr (by simp [h])
      · rcases mem_sput h with h | h
        · exact .inl h
        · exact .inr (by simp [h])
theorem sput_len : ∀ (S : Lasts) (e : Sess), (sput S e).length ≤ S.length + 1
  | [], e => by simp [sput]
  | y :: r, e => by
    unfold sput
    split
    · simp
    · have := sput_len r e; simp; omega

theorem find_put : ∀ (D : Dir) (e : Entry) (q : Bytes), dfind (dput D e) q = if q = e.path then some e else dfind D q
  | [], e, q => by
    unfold dput dfind
    by_cases h : q = e.path <;> simp [h, List.find?_cons]
  | x :: r, e, q => by
    have ih := find_put r e q
    unfold dfind at ih ⊢
    unfold dput
    by_cases hx : e.path = x.path
    · rw [if_pos hx]
      simp only [List.find?_cons]
      by_cases h : q = e.path
      · simp [h]
      · have h1 : (q == e.path) = false := by simpa using h
        have h2 : (q == x.path) = false := by rw [← hx]; exact h1
        rw [h1, h2, if_neg h]
    · rw [if_neg hx]
      simp only [List.find?_cons]
      by_cases h : q = x.path
      · have h1 : (q == x.path) = true := by simpa using h
        rw [h1]
        have : ¬ q = e.path := fun e' => hx (e'.symm.trans h)
        rw [if_neg this]
      · have h1 : (q == x.path) = false := by simpa using h
        rw [h1]; exact ih
theorem sfind_put : ∀ (D : Lasts) (e : Sess) (q : Int), sfind (sput D e) q = if q = e.client then some e else sfind D q
  | [], e, q => by
    unfold sput sfind
    by_cases h : q = e.client <;> simp [h, List.find?_cons]
  | x :: r, e, q => by
    have ih := sfind_put r e q
    unfold sfind at ih ⊢
    unfold sput
    by_cases hx : e.client = x.client
    · rw [if_pos hx]
      simp only [List.find?_cons]
      by_cases h : q = e.client
      · simp [h]
      · have h1 : (q == e.client) = false := by simpa using h
        have h2 : (q == x.client) = false := by rw [← hx]; exact h1
        rw [h1, h2, if_neg h]
    · rw [if_neg hx]
      simp only [List.find?_cons]
      by_cases h : q = x.client
      · have h1 : (q == x.client) = true := by simpa using h
        rw [h1]
        have : ¬ q = e.client := fun e' => hx (e'.symm.trans h)
        rw [if_neg this]
      · have h1 : (q == x.client) = false := by simpa using h
        rw [h1]; exact ih
theorem find_del : ∀ {D : Dir} (p q : Bytes), (D.map (·.path)).Nodup → dfind (ddel D p) q = if q = p then none else dfind D q
  | [], p, q, _ => by simp [ddel, dfind]
  | x :: r, p, q, hn => by
    simp only [List.map_cons, List.nodup_cons] at hn
    have ih := find_del (D := r) p q hn.2
    unfold dfind at ih ⊢
    unfold ddel
    by_cases hx : p = x.path
    · rw [if_pos hx]
      simp only [List.find?_cons]
      by_cases h : q = p
      · rw [if_pos h, List.find?_eq_none]
        intro e he
        simp only [beq_iff_eq]
        intro hqe
        exact hn.1 (List.mem_map.2 ⟨e, he, by rw [← hx, ← h, hqe]⟩)
      · have h2 : (q == x.path) = false := by rw [← hx]; simpa using h
        rw [h2, if_neg h]
    · rw [if_neg hx]
      simp only [List.find?_cons]
      by_cases h : q = x.path
      · have h1 : (q == x.path) = true := by simpa using h
        rw [h1]
        have : ¬ q = p := fun e' => hx (e'.symm.trans h)
        rw [if_neg this]
      · have h1 : (q == x.path) = false := by simpa using h
        rw [h1]; exact ih

end Go.Proofs.YtdeondiigpidnaaGreat.Ab
end

section
set_option linter.unusedVariables false
set_option linter.unusedSimpArgs false
/- A machine at work, in plain Lean: what always holds; when two are alike. -/
namespace Go.Proofs.YtdeondiigpidnaaGreat.Ab
open Go
set_option linter.unusedVariables false
set_option linter.unusedSimpArgs false

/-- what always holds of a directory, n commands on -/
structure DInv (n : Nat) (L : Dir) : Prop where
  nodup : (L.map (·.path)).Nodup
  valid : ∀ e ∈ L, validP e.path = true
  root : ∀ e ∈ L, e.path ≠ [47]
  value : ∀ e ∈ L, e.value.length ≤ 64
  ver : ∀ e ∈ L, 1 ≤ e.version ∧ e.version ≤ n
  up : ∀ e ∈ L, dthere L (parentP e.path) = true
  len : L.length ≤ n

theorem mem_of_find {L : Dir} {p : Bytes} {e : Entry} (h : dfind L p = some e) : e ∈ L ∧ e.path = p := by
  unfold dfind at h
  refine ⟨List.mem_of_find?_eq_some h, ?_⟩
  have := List.find?_some h
  simp at this; exact this.symm
theorem there_iff {L : Dir} {p : Bytes} : dthere L p = true ↔ p = [47] ∨ ∃ e ∈ L, e.path = p := by
  unfold dthere
  rw [Bool.or_eq_true, beq_iff_eq, Option.isSome_iff_exists]
  constructor
  · rintro (⟨e, h⟩ | h)
    · obtain ⟨h1, h2⟩ := mem_of_find h; exact .inr ⟨e, h1, h2⟩
    · exact .inl h
  · rintro (h | ⟨e, h1, h2⟩)
    · exact .inr h
    · left
      unfold dfind
      cases hf : L.find? fun e => p == e.path with
      | some x => exact ⟨x, rfl⟩
      | none => exact absurd (List.find?_eq_none.1 hf e h1) (by simp [h2])
theorem there_put {L : Dir} {e : Entry} {p : Bytes} : dthere (dput L e) p = true ↔ p = e.path ∨ dthere L p = true := by
  unfold dthere
  rw [find_put]
  by_cases h : p = e.path
  · simp [h]
  · simp [h]

theorem DInv.mono {n k : Nat} {L : Dir} (h : DInv n L) (hk : n ≤ k) : DInv k L :=
  ⟨h.nodup, h.valid, h.root, h.value, fun e he => by have := h.ver e he; omega, h.up, by have := h.len; omega⟩
theorem DInv.nil : DInv 0 [] := ⟨by simp, by simp, by simp, by simp, by simp, by simp, by simp⟩

theorem DInv.put {n : Nat} {L : Dir} (h : DInv n L) {e : Entry} (h1 : validP e.path = true) (h2 : e.path ≠ [47]) (h3 : e.value.length ≤ 64) (h4 : 1 ≤ e.version ∧ e.version ≤ n + 1) (h5 : dthere L (parentP e.path) = true) : DInv (n + 1) (dput L e) where
  nodup := dput_nodup h.nodup
  valid := fun x hx => by rcases mem_dput hx with rfl | hx; exact h1; exact h.valid x hx
  root := fun x hx => by rcases mem_dput hx with rfl | hx; exact h2; exact h.root x hx
  value := fun x hx => by rcases mem_dput hx with rfl | hx; exact h3; exact h.value x hx
  ver := fun x hx => by
    rcases mem_dput hx with rfl | hx
    · exact_mod_cast h4
    · have := h.ver x hx; omega
  up := fun x hx => by
    rw [there_put]
    rcases mem_dput hx with rfl | hx
    · exact .inr h5
    · exact .inr (h.up x hx)
  len := by have := dput_len L e; have := h.len; omega

/-- a path that is there is no root of itself -/
theorem dver_le {n : Nat} {L : Dir} (h : DInv n L) (p : Bytes) : 0 ≤ dver L p ∧ dver L p ≤ n := by
  unfold dver
  cases hf : dfind L p with
  | none => simp
  | some e => have := h.ver e (mem_of_find hf).1; simp; omega

theorem dset_inv {n : Nat} {L : Dir} (h : DInv n L) (hn : n ≤ 4294967296) (c : Cmd) (hr : c.right = true) (hop : c.op = 3 ∨ c.op = 6) (ht : dthere L c.path = true) : DInv (n + 1) (dset L c).1 := by
  unfold Cmd.right at hr
  simp only [Bool.and_eq_true] at hr
  obtain ⟨⟨h1, h2⟩, h3⟩ := hr
  have hnr : c.path ≠ [47] := by
    rcases hop with h | h <;> simp [h] at h3 <;> exact h3
  have hv : c.value.length ≤ 64 := by
    rcases hop with h | h <;> simp [h] at h2 <;> exact h2
  rcases there_iff.1 ht with h4 | ⟨e, he, hep⟩
  · exact absurd h4 hnr
  · have hd := dver_le h c.path
    have hw : IntKind.i64.wrap (dver L c.path + 1) = dver L c.path + 1 := by rw [IntKind.wrap_i64]; omega
    unfold dset
    simp only
    rw [hw]
    exact h.put h1 hnr hv (by simp only; omega) (by simp only; rw [← hep]; exact h.up e he)

theorem DInv.del {n : Nat} {L : Dir} (h : DInv n L) {p : Bytes} (hb : dnames L p = []) : DInv n (ddel L p) where
  nodup := ddel_nodup h.nodup
  valid := fun x hx => h.valid x (mem_ddel hx)
  root := fun x hx => h.root x (mem_ddel hx)
  value := fun x hx => h.value x (mem_ddel hx)
  ver := fun x hx => h.ver x (mem_ddel hx)
  up := fun x hx => by
    have hx' := mem_ddel hx
    have hne : parentP x.path ≠ p := by
      intro e
      have hl : (L.filter fun e => parentP e.path == p) = [] := by
        have := congrArg List.length hb
        unfold dnames at this
        rw [(List.mergeSort_perm _ _).length_eq] at this
        simpa using this
      have := List.filter_eq_nil_iff.1 hl x hx'
      simp [e] at this
    have := h.up x hx'
    unfold dthere at this ⊢
    rw [find_del p _ h.nodup, if_neg hne]
    exact this
  len := by have := ddel_len L p; have := h.len; omega

theorem valid_right {c : Cmd} (h : c.right = true) : validP c.path = true := by
  unfold Cmd.right at h
  simp only [Bool.and_eq_true] at h
  exact h.1.1

theorem dApply_inv {n : Nat} {L : Dir} (h : DInv n L) (hn : n ≤ 4294967296) (c : Cmd) : DInv (n + 1) (dApply L c).1 := by
  have h' := h.mono (Nat.le_succ n)
  unfold dApply
  split
  · exact h'
  rename_i hb
  have hr : c.right = true := by
    cases hr : c.right with
    | true => rfl
    | false => exact absurd (.inr (.inr hr)) hb
  split
  · rename_i hop
    unfold dcreate
    split
    · exact h'
    split
    · exact h'
    rename_i ht hp
    have hv := valid_right hr
    have hnr : c.path ≠ [47] := fun e => ht (there_iff.2 (.inl e))
    have hval : c.value.length ≤ 64 := by
      unfold Cmd.right at hr
      simp only [Bool.and_eq_true] at hr
      have := hr.1.2
      simp [hop] at this
      exact this
    exact h.put hv hnr hval (by simp only; omega) (by simpa using hp)
  split
  · exact h'
  rename_i hop1 ht
  have ht' : dthere L c.path = true := by simpa using ht
  split
  · unfold dremove
    split
    · exact h'
    · rename_i hd
      exact (h.del (by simpa using hd)).mono (Nat.le_succ n)
  split
  · rename_i h3; exact dset_inv h hn c hr (.inl h3) ht'
  split
  · exact h'
  split
  · exact h'
  · unfold dcas
    split
    · exact h'
    · exact dset_inv h hn c hr (.inr (by omega)) ht'

structure MInv (n : Nat) (M : Mach) : Prop where
  dir : DInv n M.dir
  nodup : (M.lasts.map (·.client)).Nodup
  range : ∀ e ∈ M.lasts, 0 ≤ e.client ∧ e.client ≤ 1099511627776 ∧ 1 ≤ e.seq ∧ e.seq ≤ 1099511627776
  names : ∀ e ∈ M.lasts, e.reply.names.length ≤ n
  len : M.lasts.length ≤ n
theorem MInv.nil : MInv 0 ⟨[], []⟩ := ⟨.nil, by simp, by simp, by simp, by simp⟩
theorem MInv.mono {n k : Nat} {M : Mach} (h : MInv n M) (hk : n ≤ k) : MInv k M :=
  ⟨h.dir.mono hk, h.nodup, h.range, fun e he => by have := h.names e he; omega, by have := h.len; omega⟩

theorem dnames_le (L : Dir) (p : Bytes) : (dnames L p).length ≤ L.length := by
  unfold dnames
  rw [(List.mergeSort_perm _ _).length_eq, List.length_map]
  exact List.length_filter_le _ _
theorem dApply_names_le (L : Dir) (c : Cmd) : (dApply L c).2.names.length ≤ L.length := by
  unfold dApply dcreate dremove dset dget dlist dcas dset
  have := dnames_le L c.path
  repeat' split
  all_goals first
    | (simp [rep0]; done)
    | (simp only; omega)

theorem mApply_inv {n : Nat} {M : Mach} (h : MInv n M) (hn : n ≤ 4294967296) (c : Cmd) (r : Reply) (hr : r.names.length ≤ n) : MInv (n + 1) (mApply M c r).1 := by
  have h' := h.mono (Nat.le_succ n)
  unfold mApply
  split
  · exact h'
  split
  · exact h'
  rename_i hok
  split
  · exact h'
  split
  · exact h'
  have hok' : 0 ≤ c.client ∧ c.client ≤ 1099511627776 ∧ 1 ≤ c.seq ∧ c.seq ≤ 1099511627776 := by
    unfold Cmd.ok at hok; simpa using hok
  have hx : DInv (n + 1) (if c.control = true then (M.dir, r) else dApply M.dir c).1 ∧ (if c.control = true then (M.dir, r) else dApply M.dir c).2.names.length ≤ n + 1 := by
    split
    · exact ⟨h'.dir, by simp only; omega⟩
    · refine ⟨dApply_inv h.dir hn c, ?_⟩
      have := dApply_names_le M.dir c
      have := h.dir.len
      omega
  refine ⟨hx.1, sput_nodup h.nodup, fun e he => ?_, fun e he => ?_, ?_⟩
  · rcases mem_sput he with rfl | he
    · exact hok'
    · exact h.range e he
  · rcases mem_sput he with rfl | he
    · exact hx.2
    · have := h.names e he; omega
  · have h1 := sput_len M.lasts ⟨c.client, c.seq, (if c.control = true then (M.dir, r) else dApply M.dir c).2⟩
    have h2 := h.len
    simp only
    omega

def mRun (r : Reply) : Mach → List Cmd → Mach
  | M, [] => M
  | M, c :: l => mRun r (mApply M c r).1 l
theorem mRun_append (r : Reply) : ∀ (M : Mach) (a b : List Cmd), mRun r M (a ++ b) = mRun r (mRun r M a) b
  | M, [], b => rfl
  | M, c :: a, b => by simp only [List.cons_append, mRun]; exact mRun_append r _ a b
theorem mRun_inv {n : Nat} {M : Mach} (h : MInv n M) (r : Reply) (hr : r.names.length = 0) : ∀ (l : List Cmd), n + l.length ≤ 4294967296 → MInv (n + l.length) (mRun r M l)
  | [], _ => by simpa [mRun] using h
  | c :: l, hl => by
    simp only [List.length_cons] at hl
    have := mRun_inv (mApply_inv h (by omega) c r (by omega)) r hr l (by omega)
    simp only [List.length_cons, mRun]
    rwa [show n + (l.length + 1) = n + 1 + l.length by omega]

/-! two that are alike -/
def DEq (L L' : Dir) : Prop := ∀ p, dfind L p = dfind L' p
def SEq (S S' : Lasts) : Prop := ∀ c, sfind S c = sfind S' c
structure MEq (M M' : Mach) : Prop where
  dir : DEq M.dir M'.dir
  lasts : SEq M.lasts M'.lasts
theorem MEq.refl (M : Mach) : MEq M M := ⟨fun _ => rfl, fun _ => rfl⟩
theorem MEq.symm {M M' : Mach} (h : MEq M M') : MEq M' M := ⟨fun p => (h.dir p).symm, fun p => (h.lasts p).symm⟩
theorem MEq.trans {M M' M'' : Mach} (h : MEq M M') (h' : MEq M' M'') : MEq M M'' := ⟨fun p => (h.dir p).trans (h'.dir p), fun p => (h.lasts p).trans (h'.lasts p)⟩

theorem nodup_of_map {α β : Type} {f : α → β} : ∀ {l : List α}, (l.map f).Nodup → l.Nodup
  | [], _ => List.nodup_nil
  | x :: r, h => by
    simp only [List.map_cons, List.nodup_cons] at h ⊢
    exact ⟨fun hm => h.1 (List.mem_map_of_mem hm), nodup_of_map h.2⟩
theorem DEq.perm {L L' : Dir} (h : DEq L L') (hn : (L.map (·.path)).Nodup) (hn' : (L'.map (·.path)).Nodup) : L.Perm L' := by
  refine (List.perm_ext_iff_of_nodup (nodup_of_map hn) (nodup_of_map hn')).2 fun e => ⟨fun he => ?_, fun he => ?_⟩
  · have := find_mem hn he
    rw [h] at this
    exact (mem_of_find this).1
  · have := find_mem hn' he
    rw [← h] at this
    exact (mem_of_find this).1
theorem DEq.of_perm {L L' : Dir} (h : L.Perm L') (hn : (L.map (·.path)).Nodup) (hn' : (L'.map (·.path)).Nodup) : DEq L L' := by
  intro p
  cases hf : dfind L p with
  | none =>
    cases hf' : dfind L' p with
    | none => rfl
    | some e =>
      obtain ⟨h1, h2⟩ := mem_of_find hf'
      have := find_mem hn (h.mem_iff.2 h1)
      rw [h2, hf] at this; cases this
  | some e =>
    obtain ⟨h1, h2⟩ := mem_of_find hf
    have := find_mem hn' (h.mem_iff.1 h1)
    rw [h2] at this; exact this.symm
theorem smem_of_find {L : Lasts} {p : Int} {e : Sess} (h : sfind L p = some e) : e ∈ L ∧ e.client = p := by
  unfold sfind at h
  refine ⟨List.mem_of_find?_eq_some h, ?_⟩
  have := List.find?_some h
  simp at this; exact this.symm
theorem SEq.perm {L L' : Lasts} (h : SEq L L') (hn : (L.map (·.client)).Nodup) (hn' : (L'.map (·.client)).Nodup) : L.Perm L' := by
  refine (List.perm_ext_iff_of_nodup (nodup_of_map hn) (nodup_of_map hn')).2 fun e => ⟨fun he => ?_, fun he => ?_⟩
  · have := sfind_mem hn he
    rw [h] at this
    exact (smem_of_find this).1
  · have := sfind_mem hn' he
    rw [← h] at this
    exact (smem_of_find this).1
theorem SEq.of_perm {L L' : Lasts} (h : L.Perm L') (hn : (L.map (·.client)).Nodup) (hn' : (L'.map (·.client)).Nodup) : SEq L L' := by
  intro p
  cases hf : sfind L p with
  | none =>
    cases hf' : sfind L' p with
    | none => rfl
    | some e =>
      obtain ⟨h1, h2⟩ := smem_of_find hf'
      have := sfind_mem hn (h.mem_iff.2 h1)
      rw [h2, hf] at this; cases this
  | some e =>
    obtain ⟨h1, h2⟩ := smem_of_find hf
    have := sfind_mem hn' (h.mem_iff.1 h1)
    rw [h2] at this; exact this.symm

theorem dsorted_eq {L L' : Dir} (h : DEq L L') (hv : ∀ e ∈ L', validP e.path = true) (hn : (L.map (·.path)).Nodup) (hn' : (L'.map (·.path)).Nodup) : dsorted L = dsorted L' :=
  dsorted_of hv hn' ((dsorted_perm L).trans (h.perm hn hn')) (List.pairwise_mergeSort entLe_tr entLe_tot L)
theorem ssorted_eq {S S' : Lasts} (h : SEq S S') (hn : (S.map (·.client)).Nodup) (hn' : (S'.map (·.client)).Nodup) : ssorted S = ssorted S' :=
  ssorted_of hn' ((ssorted_perm S).trans (h.perm hn hn')) (List.pairwise_mergeSort sesLe_tr sesLe_tot S)

end Go.Proofs.YtdeondiigpidnaaGreat.Ab
end

section
set_option linter.unusedVariables false
set_option linter.unusedSimpArgs false
/- slices.SortFunc over a row of the store, by a comparator that only looks at what it is given. -/
namespace Go.Proofs.YtdeondiigpidnaaGreat.Ab
open Go Go.Proofs Go.RowKit Go.Sort Go.Shelf Go.Lib
set_option linter.unusedSectionVars false
set_option linter.unusedVariables false
set_option linter.unusedSimpArgs false
variable [Fwd]

/-- plain things of one cell, as values -/
structure One (α : Type) where
  inj : α → V
  enc : α → Value
  one : ∀ x, (inj x).cells = [inj x]
  rep : ∀ (c : Ctx) x, rep c (inj x) (enc x)
  det : ∀ (c : Ctx) x v, Ab.rep c (inj x) v → v = enc x
  cell : ∀ x, (enc x).oneCell' = true

theorem One.cells {α : Type} (o : One α) (x : α) : (o.enc x).cells = #[o.enc x] := by
  have := o.cell x
  have h : (o.enc x).cells.size = 1 := by
    have := repL_length (rep_cells (o.rep (Ctx.bare ⟨#[], fun _ _ => 0, 0, default, #[]⟩) x))
    rw [o.one] at this
    simpa using this
  cases he : o.enc x <;> rw [he] at h this <;> simp [Value.cells, Value.oneCell'] at h this ⊢

theorem One.repL {α : Type} (o : One α) {c : Ctx} : ∀ {l : List α} {vs : List Value}, repL c (l.map o.inj) vs → vs = l.map o.enc
  | [], vs, h => by simpa [Ab.repL] using h
  | x :: r, vs, h => by
    obtain ⟨y, ys, rfl, h1, h2⟩ := repL_cons h
    rw [o.det c x y h1, o.repL h2]; rfl
theorem One.repL' {α : Type} (o : One α) (c : Ctx) : ∀ (l : List α), Ab.repL c (l.map o.inj) (l.map o.enc)
  | [] => by simp [Ab.repL]
  | x :: r => by simp only [List.map_cons, Ab.repL]; exact ⟨_, _, rfl, o.rep c x, o.repL' c r⟩
theorem One.flat {α : Type} (o : One α) : ∀ (l : List α), flat (l.map o.enc) = l.map o.enc
  | [] => rfl
  | x :: r => by
    have := o.flat r
    simp only [Ab.flat, List.map_cons, List.flatMap_cons] at this ⊢
    rw [this, o.cells]; rfl

/-- the comparator's contract in the kit's words -/
theorem cmpLays {α : Type} [Inhabited α] {P : Program} (o : One α) {g : FuncId} {cf : α → α → Int} (hg : ∀ x y s, @PAC ⟨true⟩ P g [o.inj x, o.inj y] s (.int .i64 (cf x y))) (blk off size : Nat) (w : World) :
    CmpLays1 P g #[] o.enc cf blk off size w := by
  intro m os dk _ x y
  have := @calls_of_pac ⟨true⟩ rfl P g [o.inj x, o.inj y] (.int .i64 (cf x y)) (hg x y) (sortWorld o.enc w blk off m dk os) [o.enc x, o.enc y] (by
    simp only [repL]; exact ⟨_, _, rfl, o.rep _ x, _, _, rfl, o.rep _ y, rfl⟩)
  refine this.mono ?_
  rintro e w' ⟨cr, rfl, ⟨c', h1⟩, q, os', rfl⟩
  simp only [Ab.rep] at h1
  subst h1
  exact ⟨rfl, q, os', rfl⟩

/-- a row of the store, in memory -/
theorem row_holds {α : Type} [Inhabited α] (o : One α) {c : Ctx} {b e : Nat} {ks : List α} {kc : Array Value} {T : TypeId} (h5 : c.w.heap[b]? = some (.cells kc T (0, 0)))
    (h6 : ∀ (i : Nat) v, (Ab.flat (ks.map o.enc))[i]? = some v → kc[e + i]? = some v) : Holds o.enc c.w b e ks.toArray := by
  intro j hj
  simp only [List.size_toArray] at hj
  have hv := h6 j (o.enc ks[j]) (by rw [o.flat]; simp [hj])
  refine ⟨?_, ?_⟩
  · simp only [World.cell?, h5]
    rw [getElem!_pos ks.toArray j (by simpa using hj)]
    simpa using hv
  · simp only [World.frozen?, h5]
    simp

/-- the row put in order -/
theorem row_sorted {α : Type} [Inhabited α] (o : One α) {c : Ctx} (hR : R c) {id b e n : Nat} {ks srt : List α} {kc : Array Value} {T : TypeId} {os : Array Go.Obj} (g1 : c.g id = some (b, e)) (h : c.s id = some (.arr 1 (ks.map o.inj)))
    (h5 : c.w.heap[b]? = some (.cells kc T (0, 0))) (h6 : ∀ (i : Nat) v, (Ab.flat (ks.map o.enc))[i]? = some v → kc[e + i]? = some v) (hsl : srt.length = ks.length) (h0 : ks.length ≠ 0) :
    ∃ c', c'.w = grow (putRow o.enc (Sort.ahead c.w n) b e srt.toArray) os ∧ c'.N = c.N ∧ Evo c c' ∧ R c' ∧ c'.s = c.s.upd id (.arr 1 (srt.map o.inj)) := by
  have hlt := hR.gb id b e g1
  have hkc : e + ks.length ≤ kc.size := by
    have := h6 (ks.length - 1) (o.enc (ks[ks.length - 1]'(by omega))) (by rw [o.flat]; simp; exact ⟨_, List.getElem?_eq_getElem (by omega), rfl⟩)
    have := (Array.getElem?_eq_some_iff.1 this).1
    omega
  let nc : List Value := (putCells o.enc e srt.toArray kc).toList
  have hnc : nc.length = kc.size := by simp [nc, putCells]
  have hw : Below c.w.heap.size (World.wrote c.w b (.cells nc.toArray T (0, 0))) (grow (putRow o.enc (Sort.ahead c.w n) b e srt.toArray) os) := by
    refine ⟨rfl, rfl, rfl, ?_, fun k hk => ?_⟩
    · simp [grow, putRow, mapBlock, Sort.ahead, wrote_size]
    · have e1 : (grow (putRow o.enc (Sort.ahead c.w n) b e srt.toArray) os).heap[k]? = (c.w.heap.modify b (onCells (putCells o.enc e srt.toArray)))[k]? := by
        show ((c.w.heap.modify b (onCells (putCells o.enc e srt.toArray))) ++ os)[k]? = _
        rw [Array.getElem?_append_left (by simpa using hk)]
      rw [e1, Array.getElem?_modify]
      by_cases hkb : b = k
      · subst hkb
        rw [if_pos rfl, wrote_at hlt, h5]
        simp [onCells, nc]
      · rw [if_neg hkb, wrote_ne (Ne.symm hkb)]
  exact evo_row (l' := srt.map o.inj) hR g1 h h5 hnc hw (fun _ => by show c.w.drawn ≤ c.w.drawn + n; omega) ⟨srt.map o.enc, o.repL' c srt, fun v hv => by
      obtain ⟨x, _, rfl⟩ := List.mem_map.1 hv
      rw [o.cells]; rfl, fun i v hi => by
      rw [o.flat] at hi
      have hil := (List.getElem?_eq_some_iff.1 hi).1
      simp only [List.length_map] at hil
      simp only [List.getElem?_map, List.getElem?_eq_getElem hil, Option.map_some, Option.some.injEq] at hi
      simp only [nc, putCells, Array.getElem?_toList, Array.getElem?_mapIdx]
      rw [Array.getElem?_eq_getElem (by omega)]
      simp only [Option.map_some]
      rw [if_pos ⟨by omega, by simp; omega⟩, show e + i - e = i by omega, getElem!_pos srt.toArray i (by simpa using hil)]
      simpa using hi⟩

/-- what sorts rows in memory sorts rows of the store -/
theorem ac_sort_of {α : Type} [Inhabited α] {P : Program} {f : FuncId} (hc : callable P f = true) (o : One α) (srt : List α → List α) (hs : ∀ l, (srt l).length = l.length) {fs : List V} {cfs : List Value} (hf : ∀ c vs, repL c fs vs → vs = cfs)
    (h0 : ∀ p cap w, Calls P f (.slice p 0 cap :: cfs).toArray w fun e w' => e = .returned (.tuple #[]) ∧ w' = w)
    {s : Store} {id : Nat} {ks : List α} (h : s id = some (.arr 1 (ks.map o.inj)))
    (h1 : ∀ blk off cap w, Holds o.enc w blk off ks.toArray → blk < w.heap.size → ks.length ≠ 0 → Calls P f (.slice (some ⟨blk, off, none⟩) ks.length cap :: cfs).toArray w fun e w' => e = .returned (.tuple #[]) ∧ ∃ n os, w' = grow (putRow o.enc (Sort.ahead w n) blk off (srt ks).toArray) os) :
    AC P f (.vw id 1 0 ks.length :: fs) s fun r s' => r = .tup [] ∧ s' = s.upd id (.arr 1 ((srt ks).map o.inj)) := by
  refine ⟨hc, fun c hcs hR cargs ha => ?_⟩
  subst hcs
  obtain ⟨v1, v2, rfl, hv, ha⟩ := repL_cons ha
  obtain rfl := hf c v2 ha
  simp only [rep] at hv
  obtain ⟨b, e, g1, hN, vs, kc, T, h3, h4, h5, h6⟩ := hR.obj id _ h
  obtain rfl := o.repL h3
  have ret : ∀ c' : Ctx, rep c' (.tup []) (.tuple #[]) := fun c' => by simp only [rep]; exact ⟨[], by simp [repL], rfl⟩
  have same : ks.length = 0 → Calls P f (v1 :: v2).toArray c.w (fun e w' => e = .returned (.tuple #[]) ∧ w' = c.w) →
      Calls P f (v1 :: v2).toArray c.w fun e w' => ∃ cr r c', e = .returned cr ∧ c'.w = w' ∧ c'.N = c.N ∧ Evo c c' ∧ R c' ∧ rep c' r cr ∧ r = .tup [] ∧ c'.s = c.s.upd id (.arr 1 ((srt ks).map o.inj)) := by
    intro h0 hcall
    refine hcall.mono ?_
    rintro e w' ⟨rfl, rfl⟩
    refine ⟨_, .tup [], c, rfl, rfl, rfl, .refl c, hR, ret c, rfl, ?_⟩
    have e1 : srt ks = ks := by
      have := hs ks
      rw [h0] at this
      rw [List.length_eq_zero_iff.1 this, List.length_eq_zero_iff.1 h0]
    rw [e1]
    funext j
    simp only [Store.upd]
    split
    · rename_i hj; subst hj; exact h
    · rfl
  by_cases hk : ks.length = 0
  · rcases hv with ⟨_, ad, rfl⟩ | ⟨b2, e2, cap, sh, _, rfl, _⟩
    · exact same hk (h0 ad 0 c.w)
    · have key : ∀ n, n = 0 → Calls P f (.slice (some ⟨b2, e2 + 0 * 1, none⟩) n cap :: v2).toArray c.w (fun e w' => e = .returned (.tuple #[]) ∧ w' = c.w) := by
        rintro _ rfl; exact h0 _ cap c.w
      exact same hk (key _ hk)
  · rcases hv with ⟨h1, _⟩ | ⟨b2, e2, cap, sh, g2, rfl, hz, hcap, hsh, hroom⟩
    · exact absurd h1 hk
    · rw [g1] at g2; cases g2
      have hlt := hR.gb id b e g1
      have hcall := h1 b e cap c.w (row_holds o h5 h6) hlt hk
      simp only [Nat.zero_mul, Nat.add_zero]
      refine hcall.mono ?_
      rintro en w' ⟨rfl, n, os, rfl⟩
      obtain ⟨c', k1, k2, k3, k4, k5⟩ := row_sorted (n := n) (os := os) o hR g1 h h5 h6 (hs ks) hk
      exact ⟨_, .tup [], c', rfl, k1, k2, k3, k4, ret c', rfl, k5⟩

theorem ac_sortf {α : Type} [Inhabited α] {P : Program} {ρ : Ren} (L : SlLaysF.n6 P ρ) (hc : callable P (ρ.f 6) = true) (o : One α) {g : FuncId} {cf : α → α → Int} (hO : SWO (ltOf cf)) (hT : ∀ x y, (ltOf cf) x y = false → (ltOf cf) y x = false → x = y)
    (hgc : callable P g = true) (hg : ∀ x y s, @PAC ⟨true⟩ P g [o.inj x, o.inj y] s (.int .i64 (cf x y)))
    {s : Store} {id : Nat} {ks : List α} (h : s id = some (.arr 1 (ks.map o.inj))) (hn : ks.length ≤ 4294967296) :
    AC P (ρ.f 6) [.vw id 1 0 ks.length, .fn (.func g) [] []] s fun r s' => r = .tup [] ∧ s' = s.upd id (.arr 1 ((ks.mergeSort fun x y => !(ltOf cf) y x).map o.inj)) := by
  refine ac_sort_of (cfs := [.func (.func g) #[] #[]]) hc o (fun ks => ks.mergeSort fun x y => !(ltOf cf) y x) (fun l => (List.mergeSort_perm _ _).length_eq) (fun c vs ha => ?_) (fun p cap w => AnyF.slices_SortFunc_none { L with } p cap _ w) h
    (fun blk off cap w hH hlt hk => Any.slices_SortFunc_total L o.enc o.cell cf hO g #[] blk off cap ks.toArray w (fun args w => run_callFunc hgc) (cmpLays o hg blk off ks.toArray.size w) hH hlt (by simp; omega) hT)
  obtain ⟨v2, _, rfl, h2, ha⟩ := repL_cons ha
  obtain rfl := repL_nil ha
  simp only [rep] at h2
  obtain ⟨fa, fb, hfa, hfb, rfl⟩ := h2
  obtain rfl : fa = [] := by simpa [repL] using hfa
  obtain rfl : fb = [] := by simpa [repL] using hfb
  rfl

/-- an empty list, the one that is not there too -/
theorem ac_sort_nil {P : Program} {f : FuncId} (hc : callable P f = true) {fs : List V} {cfs : List Value} (hf : ∀ c vs, repL c fs vs → vs = cfs) (h0 : ∀ p cap w, Calls P f (.slice p 0 cap :: cfs).toArray w fun e w' => e = .returned (.tuple #[]) ∧ w' = w) {s : Store} (i z o : Nat) :
    PAC P f (.vw i z o 0 :: fs) s (.tup []) := by
  refine PAC_of_same hc fun c cargs hR hs ha => ?_
  obtain ⟨v1, v2, rfl, hv, ha⟩ := repL_cons ha
  obtain rfl := hf c v2 ha
  refine ⟨.tuple #[], by simp only [rep]; exact ⟨[], by simp [repL], rfl⟩, ?_⟩
  simp only [rep] at hv
  rcases hv with ⟨_, ad, rfl⟩ | ⟨b2, e2, cap, sh, _, rfl, _⟩
  · exact h0 ad 0 c.w
  · exact h0 _ cap c.w

end Go.Proofs.YtdeondiigpidnaaGreat.Ab
end

section
set_option linter.unusedVariables false
set_option linter.unusedSimpArgs false
/- slices.Collect of a map's keys, and maps.Clone, over the store. -/
namespace Go.Proofs.YtdeondiigpidnaaGreat.Ab
open Go Go.Proofs Go.RowKit Go.Shelf
set_option linter.unusedSectionVars false
set_option linter.unusedVariables false
set_option linter.unusedSimpArgs false
variable [Fwd]

/-- a context goes on into a greater memory, in which a new block is an object -/
theorem evo_new {c : Ctx} (hR : R c) {w' : World} (hw : Below c.w.heap.size c.w w') (hd : Fwd.on = true → c.w.drawn ≤ w'.drawn) {id b : Nat} {o : Obj} (hid : c.g id = none) (hb : b < w'.heap.size) (hge : c.w.heap.size ≤ b)
    (hrep : ∀ c', c'.w = w' → Ext c c' → objRep c' b 0 o) :
    ∃ c', c'.w = w' ∧ c'.N = c.N ∧ Evo c c' ∧ R c' ∧ c'.s = c.s.upd id o ∧ c'.g id = some (b, 0) := by
  have hg : ∀ j e, c.g j ≠ some (b, e) := fun j e hj => by have := hR.gb j b e hj; omega
  have hN : ¬ c.N b := fun h => by have := hR.nb b h; omega
  let c2 : Ctx := { g := fun j => if j = id then some (b, 0) else c.g j, s := c.s.upd id o, N := c.N, w := w' }
  have hx : Ext c c2 := by
    refine ⟨fun j x hj => ?_, hw.size, fun b' i hb' him => ⟨⟨him.1, fun j o' e' hs hg' => ?_⟩, by simp [World.cell?, c2, hw.block b' hb']⟩, fun b' hb' => by simp [World.shape?, c2, hw.block b' hb'], fun t sz ht hs => ?_⟩
    · have : j ≠ id := fun h => by subst h; rw [hid] at hj; cases hj
      simp [c2, this, hj]
    · by_cases h : j = id
      · simp [c2, h] at hg'; omega
      · simp [c2, Store.upd, h] at hs hg'; exact him.2 j o' e' hs hg'
    · have : t ≠ id := fun h => by subst h; rw [hid] at ht; cases ht
      simpa [c2, Store.upd, this] using hs
  have hR2 : R c2 := by
    refine ⟨fun j o' hj => ?_, fun i j o1 o2 b' e1 e2 h1 h2 g1 g2 => ?_, fun b' hb' => Nat.lt_of_lt_of_le (hR.nb b' hb') hw.size, fun j b' e hj => ?_, ?_⟩
    · by_cases h : j = id
      · subst h
        obtain rfl : o = o' := by simpa [c2, Store.upd] using hj
        exact ⟨b, 0, by simp [c2], hN, hrep c2 rfl hx⟩
      · have hj' : c.s j = some o' := by simpa [c2, Store.upd, h] using hj
        obtain ⟨b', e', h1, h2, h3⟩ := hR.obj j o' hj'
        refine ⟨b', e', by simp [c2, h, h1], h2, objRep_ext hx ⟨fun m l hm hl => ?_, fun m l bm e'' hgm hl => ?_⟩ (hw.block b' (hR.gb j b' e' h1)) h3⟩
        · have : m ≠ id := fun h => by subst h; simp [hid] at hm
          exact ⟨l, by simpa [c2, Store.upd, this] using hl⟩
        · have : m ≠ id := fun h => by subst h; simp [hid] at hgm
          exact ⟨by simpa [c2, Store.upd, this] using hl, hw.block bm (hR.gb m bm e'' hgm)⟩
    · by_cases hi : i = id <;> by_cases hj : j = id
      · rw [hi, hj]
      · simp [c2, hi] at g1; simp [c2, hj] at g2; obtain ⟨rfl, _⟩ := g1; exact absurd g2 (hg j e2)
      · simp [c2, hj] at g2; simp [c2, hi] at g1; obtain ⟨rfl, _⟩ := g2; exact absurd g1 (hg i e1)
      · simp [c2, Store.upd, hi, hj] at h1 h2 g1 g2
        exact hR.sep i j o1 o2 b' e1 e2 h1 h2 g1 g2
    · by_cases h : j = id
      · simp [c2, h] at hj; obtain ⟨rfl, _⟩ := hj; exact hb
      · simp [c2, h] at hj; exact Nat.lt_of_lt_of_le (hR.gb j b' e hj) hw.size
    · obtain ⟨k, hk⟩ := hR.fin
      refine ⟨max k (id + 1), fun j hj => ?_⟩
      have : j ≠ id := by omega
      simp [c2, this]; exact hk j (by omega)
  exact ⟨c2, rfl, rfl, ⟨hx, fun b' hb' _ => hw.block b' hb', hw.os, ⟨hw.output, hw.tape, hd⟩⟩, hR2, rfl, by simp [c2]⟩

/-- a list that was made in new memory: what it is in the store -/
def Vw (s s' : Store) (sz : Nat) (r : V) (ks : List V) : Prop :=
  (ks = [] ∧ r = .vw 0 0 0 0 ∧ s' = s) ∨ ∃ id, s id = none ∧ r = .vw id sz 0 ks.length ∧ s' = s.upd id (.arr sz ks)

/-- what the kit tells of a new row, told of the store -/
theorem vw_of_owns {α : Type} {c : Ctx} (hR : R c) (o : One α) {w' : World} {T : TypeId} {v : Value} {ks : List α} (h : w'.ownsRow c.w.heap.size T 1 v ks.length (ks.map o.enc)) (hb : Below c.w.heap.size c.w w') (hd : Fwd.on = true → c.w.drawn ≤ w'.drawn) :
    ∃ r c', c'.w = w' ∧ c'.N = c.N ∧ Evo c c' ∧ R c' ∧ rep c' r v ∧ Vw c.s c'.s 1 r (ks.map o.inj) := by
  obtain ⟨_, h | ⟨g, cap, cur, rfl, h2, h3, h4, h5, h6, h7⟩⟩ := h
  · obtain ⟨rfl, h0⟩ := h
    have : ks = [] := List.length_eq_zero_iff.1 h0
    subst this
    exact ⟨.vw 0 0 0 0, { c with w := w' }, rfl, rfl, Evo.below hb hd, hR.below hb, by simp only [rep]; exact .inl ⟨trivial, none, rfl⟩, .inl ⟨rfl, rfl, rfl⟩⟩
  · obtain ⟨id, hid, hs⟩ := hR.fresh
    have hgl : g < w'.heap.size := (Array.getElem?_eq_some_iff.1 h3).1
    obtain ⟨c', k1, k2, k3, k4, k5, k6⟩ := evo_new (o := .arr 1 (ks.map o.inj)) hR hb hd hid hgl h2 (fun c' hw hx => ⟨ks.map o.enc, cur, T, o.repL' c' ks, fun v hv => by
        obtain ⟨x, _, rfl⟩ := List.mem_map.1 hv
        rw [o.cells]; rfl, by rw [hw]; exact h3, fun i v hi => by
        rw [o.flat, ← h7] at hi
        rw [List.getElem?_take] at hi
        split at hi
        · rw [Nat.zero_add]; simpa using hi
        · cases hi⟩)
    refine ⟨.vw id 1 0 ks.length, c', k1, k2, k3, k4, ?_, .inr ⟨id, hs, by simp, k5⟩⟩
    simp only [rep]
    exact .inr ⟨g, 0, cap, (T, cur.size), k6, by simp, by omega, h4, by rw [k1]; simp [World.shape?, h3], by rw [h6]; simp⟩

def strOne : One Bytes where
  inj := vstr
  enc := fun b => .string (bs b)
  one := fun _ => rfl
  rep := fun c x => by simp only [vstr, rep]
  det := fun c x v h => by simpa only [vstr, rep] using h
  cell := fun _ => rfl
def intOne : One Int where
  inj := fun n => .int .i64 n
  enc := fun n => .int .i64 n
  one := fun _ => rfl
  rep := fun c x => by simp only [rep]
  det := fun c x v h => by simpa only [rep] using h
  cell := fun _ => rfl

theorem repM_keys {α : Type} (o : One α) {c : Ctx} : ∀ {l : List (V × V)} {es : List MapEntry} {ks : List α}, repM c l es → l.map Prod.fst = ks.map o.inj → es.map (·.key) = ks.map o.enc
  | [], es, ks, h, hk => by
    simp [repM] at h; subst h
    cases ks with
    | nil => rfl
    | cons x r => simp at hk
  | x :: r, es, ks, h, hk => by
    simp only [repM] at h
    obtain ⟨y, ys, rfl, h1, h2, h3⟩ := h
    cases ks with
    | nil => simp at hk
    | cons k t =>
      simp only [List.map_cons, List.cons.injEq] at hk ⊢
      rw [hk.1] at h1
      exact ⟨o.det c k _ h1, repM_keys o h3 hk.2⟩

theorem nodup_map {α β : Type} {f : α → β} (hf : ∀ x y, f x = f y → x = y) : ∀ {l : List α}, l.Nodup → (l.map f).Nodup
  | [], _ => List.nodup_nil
  | x :: r, h => by
    rw [List.nodup_cons] at h
    rw [List.map_cons, List.nodup_cons]
    refine ⟨fun hm => ?_, nodup_map hf h.2⟩
    obtain ⟨y, hy, e⟩ := List.mem_map.1 hm
    exact h.1 (hf _ _ e ▸ hy)
theorem map_some_inv {α β : Type} {f : α → β} {l : List α} : (l.map f).map some = l.map fun x => some (f x) := by simp

/-- a map of the store, in the kit's words -/
theorem owns_map {P : Program} {k : TypeId} {α : Type} (o : One α) (lit : α → Lit) {c : Ctx} {b e : Nat} {l : List (V × V)} {ks : List α} (hm : mapRep c b e l) (hl : l.length ≤ maxLen) (hk : l.map Prod.fst = ks.map o.inj) (hnd : (ks.map o.enc).Nodup)
    (hkey : ∀ x ∈ ks, keyOf P k (o.enc x) = some (lit x)) :
    ∃ D0 : DataW Unit, c.w.ownsMap P k (fun _ => some (.nil, [])) b l.length D0 ∧ Maps.size D0 = l.length ∧ ∃ es, D0 = .map es ∧ (es.map Prod.fst).Perm (ks.map lit) := by
  obtain ⟨_, es, clock, h1, h2, h3, h4⟩ := hm
  have hlen : es.size = l.length := by have := repM_length h2; simpa using this
  have hkeys := repM_keys o h2 hk
  have hrd : ∀ (es : List MapEntry) (ks : List α), es.map (·.key) = ks.map o.enc → (∀ x ∈ ks, keyOf P k (o.enc x) = some (lit x)) →
      (∀ x ∈ es, ∃ y, WideElems.rd (H := Unit) P k (fun _ => some (.nil, [])) x = some y) ∧ (es.map (WideElems.rg (H := Unit) P k (fun _ => some (.nil, [])))).map Prod.fst = ks.map lit := by
    intro es
    induction es with
    | nil =>
      intro ks h _
      cases ks with
      | nil => exact ⟨by simp, rfl⟩
      | cons x r => simp at h
    | cons y r ih =>
      intro ks h hkk
      cases ks with
      | nil => simp at h
      | cons x t =>
        simp only [List.map_cons, List.cons.injEq] at h
        obtain ⟨i1, i2⟩ := ih t h.2 (fun z hz => hkk z (by simp [hz]))
        have hy : WideElems.rd (H := Unit) P k (fun _ => some (.nil, [])) y = some (lit x, .nil) := by
          unfold WideElems.rd
          rw [h.1, hkk x (by simp)]; rfl
        refine ⟨fun z hz => ?_, ?_⟩
        · rcases List.mem_cons.1 hz with rfl | hz
          · exact ⟨_, hy⟩
          · exact i1 z hz
        · simp only [List.map_cons, List.cons.injEq]
          exact ⟨by rw [WideElems.rg_of hy], i2⟩
  obtain ⟨r1, r2⟩ := hrd es.toList ks hkeys hkey
  refine ⟨.map ((es.toList.map (WideElems.rg P k (fun _ => some (.nil, [])))).foldr DataW.insert []), ⟨es, clock, h1, ⟨by omega, ⟨h4, h3, by rw [hkeys]; exact hnd⟩, r1⟩, by omega, rfl⟩, ?_, _, rfl, ?_⟩
  · rw [Maps.size_eq, (WideShapes.sorted_perm _).length_eq]; simp [hlen]
  · rw [← r2]; exact (WideShapes.sorted_perm _).map _

theorem ac_coll_str (hf : Fwd.on = false) {P : Program} {ρ ρ' : Ren} (Lc : SlLaysZ.n8 P ρ) (Lk : SlLaysZ.n10 P ρ') (hc : callable P (ρ.f 8) = true) (hg : callable P (ρ'.f 10) = true)
    {s : Store} {kid m : Nat} {l : List (V × V)} {ks : List Bytes} (h1 : s kid = some (.cells [.map m])) (h2 : s m = some (.map l)) (hk : l.map Prod.fst = ks.map vstr) (hnd : ks.Nodup) (hl : l.length ≤ 4294967296) (hkl : ∀ k ∈ ks, k.length ≤ 4294967296) :
    AC P (ρ.f 8) [.fn (.func (ρ'.f 10)) [] [.ptr kid 0]] s fun r s' => ∃ ks' : List Bytes, ks'.Perm ks ∧ Vw s s' 1 r (ks'.map vstr) := by
  refine ⟨hc, fun c hcs hR cargs ha => ?_⟩
  subst hcs
  obtain ⟨v1, _, rfl, hv, ha⟩ := repL_cons ha
  obtain rfl := repL_nil ha
  simp only [rep] at hv
  obtain ⟨fa, fb, hfa, hfb, rfl⟩ := hv
  obtain rfl : fa = [] := by simpa [repL] using hfa
  obtain ⟨pv, _, rfl, hp, hfb⟩ := repL_cons hfb
  obtain rfl := repL_nil hfb
  simp only [rep] at hp
  obtain ⟨Bm, e0, gk, rfl⟩ := hp
  obtain ⟨b', e', gk', _, rfl, cs, T, hcs, hbm⟩ := hR.obj kid _ h1
  rw [gk] at gk'; cases gk'
  obtain ⟨mv, _, rfl, hmv, hcs⟩ := repL_cons hcs
  obtain rfl := repL_nil hcs
  simp only [rep] at hmv
  obtain ⟨b, e1, gm, rfl⟩ := hmv
  obtain ⟨b', e', gm', _, hmap⟩ := hR.obj m _ h2
  rw [gm] at gm'; cases gm'
  have hmax : (4294967296 : Nat) ≤ maxLen := by decide
  have hnd' : (ks.map strOne.enc).Nodup := nodup_map (fun x y h => bs_inj (by simpa [strOne] using h)) hnd
  obtain ⟨D0, ho, hsz, es, rfl, hperm⟩ := owns_map (P := P) (k := ρ'.t 26) strOne (fun b => .string b) hmap (by omega) hk hnd' (fun x hx => by
    have := hkl x hx
    have hsz : (bs x).size ≤ maxLen := by rw [bs_size]; omega
    show keyOf P (ρ'.t 26) (.string (bs x)) = _
    simp only [keyOf, Lk.t26, mapKey, hsz, if_true]
    rfl)
  have hBm : Bm < c.w.heap.size := hR.gb kid Bm 0 gk
  have hcell : c.w.cell? ⟨Bm, 0, none⟩ = some (.map (some b)) := by simp [World.cell?, hbm]
  have hseq := AnyZ.keys_gives (P := P) { Lk with } Fence.wide 3 trivial rfl (by omega) Bm b l.length _ c.w hBm hcell ho
  have hcall := callsIn_wide.1 (AnyZ.collect_in { Lc with } Fence.wide 5 trivial trivial rfl (by omega) (ρ'.f 10) #[.pointer (some ⟨Bm, 0, none⟩)] trivial (fun args w => run_callFunc hg) _ _ (by rw [hsz]; omega) (by rw [hsz]; omega) c.w hseq)
  refine hcall.mono ?_
  rintro e w' ⟨v, ss, rfl, hS, hrow, hnil, hb⟩
  obtain ⟨r, c', k1, k2, k3, k4, k5, k6⟩ := vw_of_owns (ks := ss) hR strOne hrow hb (fun h => by rw [hf] at h; cases h)
  refine ⟨v, r, c', rfl, k1, k2, k3, k4, k5, ss, hS.trans ?_, k6⟩
  have : (es.map fun p => strOf p.1).Perm ((ks.map fun b => Lit.string b).map strOf) := by
    have := hperm.map strOf
    rwa [List.map_map] at this
  refine this.trans ?_
  rw [List.map_map]
  have e : (strOf ∘ fun b => Lit.string b) = id := by funext x; rfl
  rw [e, List.map_id]

theorem ac_coll_int (hf : Fwd.on = false) {P : Program} {ρ ρ' : Ren} (Lc : SlLaysZI.n8 P ρ) (Lk : SlLaysZI.n10 P ρ') (hc : callable P (ρ.f 8) = true) (hg : callable P (ρ'.f 10) = true)
    {s : Store} {kid m : Nat} {l : List (V × V)} {ks : List Int} (h1 : s kid = some (.cells [.map m])) (h2 : s m = some (.map l)) (hk : l.map Prod.fst = ks.map fun n => V.int .i64 n) (hnd : ks.Nodup) (hl : l.length ≤ 4294967296)
    (hkl : ∀ k ∈ ks, -9223372036854775808 ≤ k ∧ k ≤ 9223372036854775807) :
    AC P (ρ.f 8) [.fn (.func (ρ'.f 10)) [] [.ptr kid 0]] s fun r s' => ∃ ks' : List Int, ks'.Perm ks ∧ Vw s s' 1 r (ks'.map fun n => V.int .i64 n) := by
  refine ⟨hc, fun c hcs hR cargs ha => ?_⟩
  subst hcs
  obtain ⟨v1, _, rfl, hv, ha⟩ := repL_cons ha
  obtain rfl := repL_nil ha
  simp only [rep] at hv
  obtain ⟨fa, fb, hfa, hfb, rfl⟩ := hv
  obtain rfl : fa = [] := by simpa [repL] using hfa
  obtain ⟨pv, _, rfl, hp, hfb⟩ := repL_cons hfb
  obtain rfl := repL_nil hfb
  simp only [rep] at hp
  obtain ⟨Bm, e0, gk, rfl⟩ := hp
  obtain ⟨b', e', gk', _, rfl, cs, T, hcs, hbm⟩ := hR.obj kid _ h1
  rw [gk] at gk'; cases gk'
  obtain ⟨mv, _, rfl, hmv, hcs⟩ := repL_cons hcs
  obtain rfl := repL_nil hcs
  simp only [rep] at hmv
  obtain ⟨b, e1, gm, rfl⟩ := hmv
  obtain ⟨b', e', gm', _, hmap⟩ := hR.obj m _ h2
  rw [gm] at gm'; cases gm'
  have hmax : (4294967296 : Nat) ≤ maxLen := by decide
  have hnd' : (ks.map intOne.enc).Nodup := nodup_map (fun x y h => by simpa [intOne] using h) hnd
  obtain ⟨D0, ho, hsz, es, rfl, hperm⟩ := owns_map (P := P) (k := ρ'.t 26) intOne (fun n => .int .i64 n) hmap (by omega) hk hnd' (fun x hx => by
    have := hkl x hx
    have hwf : (Lit.int .i64 x).wf = true := by
      simp only [Lit.wf, Bool.and_eq_true, decide_eq_true_eq]
      exact this
    show keyOf P (ρ'.t 26) (.int .i64 x) = _
    simp only [keyOf, Lk.t26, mapKey, hwf, and_self, if_true])
  have hBm : Bm < c.w.heap.size := hR.gb kid Bm 0 gk
  have hcell : c.w.cell? ⟨Bm, 0, none⟩ = some (.map (some b)) := by simp [World.cell?, hbm]
  have hseq := AnyZI.keys_gives (P := P) { Lk with } Fence.wide 3 trivial rfl (by omega) Bm b l.length _ c.w hBm hcell ho
  have hcall := callsIn_wide.1 (AnyZI.collect_in { Lc with } Fence.wide 5 trivial trivial rfl (by omega) (ρ'.f 10) #[.pointer (some ⟨Bm, 0, none⟩)] trivial (fun args w => run_callFunc hg) _ _ (by rw [hsz]; omega) (by rw [hsz]; omega) c.w hseq)
  refine hcall.mono ?_
  rintro e w' ⟨v, ss, rfl, hS, hrow, hnil, hb⟩
  obtain ⟨r, c', k1, k2, k3, k4, k5, k6⟩ := vw_of_owns (ks := ss) hR intOne hrow hb (fun h => by rw [hf] at h; cases h)
  refine ⟨v, r, c', rfl, k1, k2, k3, k4, k5, ss, hS.trans ?_, k6⟩
  have : (es.map fun p => Go.intOf p.1).Perm ((ks.map fun b => Lit.int .i64 b).map Go.intOf) := by
    have := hperm.map Go.intOf
    rwa [List.map_map] at this
  refine this.trans ?_
  rw [List.map_map]
  have e : (Go.intOf ∘ fun b => Lit.int .i64 b) = id := by funext x; rfl
  rw [e, List.map_id]

theorem ac_mclone {P : Program} {ρ : Ren} (L : SlLaysW.n5 P ρ) (hc : callable P (ρ.f 5) = true) {s : Store} {m : Nat} {l : List (V × V)} (h : s m = some (.map l)) :
    AC P (ρ.f 5) [.map m] s fun r s' => ∃ id, s id = none ∧ r = .map id ∧ s' = s.upd id (.map l) := by
  refine ⟨hc, fun c hcs hR cargs ha => ?_⟩
  subst hcs
  obtain ⟨v1, _, rfl, hv, ha⟩ := repL_cons ha
  obtain rfl := repL_nil ha
  simp only [rep] at hv
  obtain ⟨b, e, g1, rfl⟩ := hv
  obtain ⟨b', e', g2, _, rfl, es, clock, h1, h2, h3, h4⟩ := hR.obj m _ h
  rw [g1] at g2; cases g2
  refine (AnyW.maps_Clone L b es clock c.w h1).mono ?_
  rintro en w' ⟨rfl, rfl⟩
  obtain ⟨id, hid, hs⟩ := hR.fresh
  have hat : (c.w.alloc (.map es clock)).heap[c.w.heap.size]? = some (.map es clock) := World.alloc_heap_new c.w _
  have hb : Below c.w.heap.size c.w (c.w.alloc (.map es clock)) := (Below.refl _ c.w).alloc (Nat.le_refl _) _
  obtain ⟨c', k1, k2, k3, k4, k5, k6⟩ := evo_new (id := id) (b := c.w.heap.size) (o := .map l) hR hb (fun _ => Nat.le_refl _) hid (by simp) (Nat.le_refl _) (fun c' hw hx => ⟨rfl, es, clock, by rw [hw]; exact hat, repM_ext hx _ _ h2, h3, h4⟩)
  exact ⟨_, .map id, c', rfl, k1, k2, k3, k4, by simp only [rep]; exact ⟨_, _, k6, rfl⟩, id, hs, rfl, k5⟩

end Go.Proofs.YtdeondiigpidnaaGreat.Ab
end

section
set_option linter.unusedVariables false
set_option linter.unusedSimpArgs false
/- The library's contracts at this program's numbers (written by the kit's tool). -/
namespace Go.Proofs
open Go.Shelf
def Tryz.lays156_ren : Go.Shelf.Ren := ⟨fun | 156 => 62 | 165 => 78 | 166 => 79 | 169 => 80 | 240 => 101 | 241 => 102 | 276 => 120 | 277 => 121 | n => n, fun | 31 => 28 | 9 => 9 | 3 => 3 | 4 => 4 | 0 => 0 | 20 => 20 | 72 => 125 | 76 => 129 | 70 => 122 | 37 => 123 | 75 => 128 | 127 => 150 | 164 => 162 | 5 => 5 | 80 => 131 | n => n, fun | n => n⟩
theorem Tryz.lays156 : Go.Proofs.Lays.n156 Tryz.prog Tryz.lays156_ren where
  mixed := by kernel_rfl
  f156 := Tryz.func62.trans (congrArg some (by kernel_rfl))
  f165 := Tryz.func78.trans (congrArg some (by kernel_rfl))
  f166 := Tryz.func79.trans (congrArg some (by kernel_rfl))
  f169 := Tryz.func80.trans (congrArg some (by kernel_rfl))
  f240 := Tryz.func101.trans (congrArg some (by kernel_rfl))
  f241 := Tryz.func102.trans (congrArg some (by kernel_rfl))
  f276 := Tryz.func120.trans (congrArg some (by kernel_rfl))
  f277 := Tryz.func121.trans (congrArg some (by kernel_rfl))
  t0 := Tryz.underlying0
  a0 := Tryz.isAgg0
  z0 := Tryz.sizeOf0
  v0 := Tryz.zeroValue0
  t3 := Tryz.underlying3
  a3 := Tryz.isAgg3
  z3 := Tryz.sizeOf3
  v3 := Tryz.zeroValue3
  t4 := Tryz.underlying4
  a4 := Tryz.isAgg4
  z4 := Tryz.sizeOf4
  v4 := Tryz.zeroValue4
  t9 := Tryz.underlying9
  a9 := Tryz.isAgg9
  z9 := Tryz.sizeOf9
  v9 := Tryz.zeroValue9
  t20 := Tryz.underlying20
  a20 := Tryz.isAgg20
  z20 := Tryz.sizeOf20
  v20 := Tryz.zeroValue20
  t31 := Tryz.underlying28
  a31 := Tryz.isAgg28
  z31 := Tryz.sizeOf28
  v31 := Tryz.zeroValue28
  t37 := Tryz.underlying123
  a37 := Tryz.isAgg123
  z37 := Tryz.sizeOf123
  v37 := Tryz.zeroValue123
  t70 := Tryz.underlying122
  a70 := Tryz.isAgg122
  z70 := Tryz.sizeOf122
  v70 := Tryz.zeroValue122
  t72 := Tryz.underlying125
  a72 := Tryz.isAgg125
  z72 := Tryz.sizeOf125
  v72 := Tryz.zeroValue125
  t75 := Tryz.underlying128
  a75 := Tryz.isAgg128
  z75 := Tryz.sizeOf128
  v75 := Tryz.zeroValue128
  t76 := Tryz.underlying129
  a76 := Tryz.isAgg129
  z76 := Tryz.sizeOf129
  v76 := Tryz.zeroValue129
  t127 := Tryz.underlying150
  a127 := Tryz.isAgg150
  z127 := Tryz.sizeOf150
  v127 := Tryz.zeroValue150
  t164 := Tryz.underlying162
  a164 := Tryz.isAgg162
  z164 := Tryz.sizeOf162
  v164 := Tryz.zeroValue162
def Tryz.lays106_ren : Go.Shelf.Ren := ⟨fun | 106 => 60 | 213 => 77 | 265 => 100 | n => n, fun | 9 => 9 | 3 => 3 | n => n, fun | n => n⟩
theorem Tryz.lays106 : Go.Proofs.Lays.n106 Tryz.prog Tryz.lays106_ren where
  mixed := by kernel_rfl
  f106 := Tryz.func60.trans (congrArg some (by kernel_rfl))
  f213 := Tryz.func77.trans (congrArg some (by kernel_rfl))
  f265 := Tryz.func100.trans (congrArg some (by kernel_rfl))
  t3 := Tryz.underlying3
  a3 := Tryz.isAgg3
  z3 := Tryz.sizeOf3
  v3 := Tryz.zeroValue3
  t9 := Tryz.underlying9
  a9 := Tryz.isAgg9
  z9 := Tryz.sizeOf9
  v9 := Tryz.zeroValue9
def Tryz.lays137_ren : Go.Shelf.Ren := ⟨fun | 137 => 75 | 217 => 99 | 266 => 119 | n => n, fun | 9 => 9 | 5 => 5 | 3 => 3 | n => n, fun | n => n⟩
theorem Tryz.lays137 : Go.Proofs.Lays.n137 Tryz.prog Tryz.lays137_ren where
  mixed := by kernel_rfl
  f137 := Tryz.func75.trans (congrArg some (by kernel_rfl))
  f217 := Tryz.func99.trans (congrArg some (by kernel_rfl))
  f266 := Tryz.func119.trans (congrArg some (by kernel_rfl))
  t3 := Tryz.underlying3
  a3 := Tryz.isAgg3
  z3 := Tryz.sizeOf3
  v3 := Tryz.zeroValue3
  t5 := Tryz.underlying5
  a5 := Tryz.isAgg5
  z5 := Tryz.sizeOf5
  v5 := Tryz.zeroValue5
  t9 := Tryz.underlying9
  a9 := Tryz.isAgg9
  z9 := Tryz.sizeOf9
  v9 := Tryz.zeroValue9
def Tryz.lays103_ren : Go.Shelf.Ren := ⟨fun | 103 => 74 | 210 => 98 | 206 => 118 | n => n, fun | 9 => 9 | 4 => 4 | 24 => 119 | 3 => 3 | n => n, fun | n => n⟩
theorem Tryz.lays103 : Go.Proofs.Lays.n103 Tryz.prog Tryz.lays103_ren where
  mixed := by kernel_rfl
  f103 := Tryz.func74.trans (congrArg some (by kernel_rfl))
  f206 := Tryz.func118.trans (congrArg some (by kernel_rfl))
  f210 := Tryz.func98.trans (congrArg some (by kernel_rfl))
  t3 := Tryz.underlying3
  a3 := Tryz.isAgg3
  z3 := Tryz.sizeOf3
  v3 := Tryz.zeroValue3
  t4 := Tryz.underlying4
  a4 := Tryz.isAgg4
  z4 := Tryz.sizeOf4
  v4 := Tryz.zeroValue4
  t9 := Tryz.underlying9
  a9 := Tryz.isAgg9
  z9 := Tryz.sizeOf9
  v9 := Tryz.zeroValue9
  t24 := Tryz.underlying119
  a24 := Tryz.isAgg119
  z24 := Tryz.sizeOf119
  v24 := Tryz.zeroValue119
def Tryz.sortStr_ren : Go.Shelf.Ren := ⟨fun | 6 => 64 | 15 => 68 | 14 => 82 | 28 => 92 | 29 => 93 | 20 => 103 | 21 => 104 | 22 => 105 | 23 => 106 | 24 => 107 | 25 => 108 | 26 => 109 | 27 => 110 | 46 => 122 | 47 => 112 | 48 => 113 | 49 => 123 | 50 => 124 | 57 => 126 | n => n, fun | 22 => 28 | 24 => 9 | 25 => 90 | 3 => 3 | 39 => 111 | 0 => 0 | 53 => 144 | 55 => 146 | 4 => 4 | 46 => 136 | 45 => 135 | 50 => 141 | 5 => 5 | 9 => 9 | 66 => 156 | 70 => 160 | 76 => 167 | 77 => 168 | n => n, fun | n => n⟩
theorem Tryz.sortStr : Go.Proofs.SlLaysF.n6 Tryz.prog Tryz.sortStr_ren where
  mixed := by kernel_rfl
  f6 := ⟨ "slices.SortFunc[[]string,string]", by decide, Tryz.func64.trans (congrArg some (by kernel_rfl))⟩
  f14 := ⟨ "slices.pdqsortCmpFunc[string]", by decide, Tryz.func82.trans (congrArg some (by kernel_rfl))⟩
  f15 := Tryz.func68.trans (congrArg some (by kernel_rfl))
  f20 := ⟨ "slices.insertionSortCmpFunc[string]", by decide, Tryz.func103.trans (congrArg some (by kernel_rfl))⟩
  f21 := ⟨ "slices.heapSortCmpFunc[string]", by decide, Tryz.func104.trans (congrArg some (by kernel_rfl))⟩
  f22 := ⟨ "slices.breakPatternsCmpFunc[string]", by decide, Tryz.func105.trans (congrArg some (by kernel_rfl))⟩
  f23 := ⟨ "slices.choosePivotCmpFunc[string]", by decide, Tryz.func106.trans (congrArg some (by kernel_rfl))⟩
  f24 := ⟨ "slices.reverseRangeCmpFunc[string]", by decide, Tryz.func107.trans (congrArg some (by kernel_rfl))⟩
  f25 := ⟨ "slices.partialInsertionSortCmpFunc[string]", by decide, Tryz.func108.trans (congrArg some (by kernel_rfl))⟩
  f26 := ⟨ "slices.partitionEqualCmpFunc[string]", by decide, Tryz.func109.trans (congrArg some (by kernel_rfl))⟩
  f27 := ⟨ "slices.partitionCmpFunc[string]", by decide, Tryz.func110.trans (congrArg some (by kernel_rfl))⟩
  f28 := Tryz.func92.trans (congrArg some (by kernel_rfl))
  f29 := Tryz.func93.trans (congrArg some (by kernel_rfl))
  f46 := ⟨ "slices.siftDownCmpFunc[string]", by decide, Tryz.func122.trans (congrArg some (by kernel_rfl))⟩
  f47 := Tryz.func112.trans (congrArg some (by kernel_rfl))
  f48 := Tryz.func113.trans (congrArg some (by kernel_rfl))
  f49 := ⟨ "slices.medianAdjacentCmpFunc[string]", by decide, Tryz.func123.trans (congrArg some (by kernel_rfl))⟩
  f50 := ⟨ "slices.medianCmpFunc[string]", by decide, Tryz.func124.trans (congrArg some (by kernel_rfl))⟩
  f57 := ⟨ "slices.order2CmpFunc[string]", by decide, Tryz.func126.trans (congrArg some (by kernel_rfl))⟩
  t0 := Tryz.underlying0
  a0 := Tryz.isAgg0
  z0 := Tryz.sizeOf0
  v0 := Tryz.zeroValue0
  t3 := Tryz.underlying3
  a3 := Tryz.isAgg3
  z3 := Tryz.sizeOf3
  v3 := Tryz.zeroValue3
  t4 := Tryz.underlying4
  a4 := Tryz.isAgg4
  z4 := Tryz.sizeOf4
  v4 := Tryz.zeroValue4
  t5 := Tryz.underlying5
  a5 := Tryz.isAgg5
  z5 := Tryz.sizeOf5
  v5 := Tryz.zeroValue5
  t9 := Tryz.underlying9
  a9 := Tryz.isAgg9
  z9 := Tryz.sizeOf9
  v9 := Tryz.zeroValue9
  t22 := Tryz.underlying28
  a22 := Tryz.isAgg28
  z22 := Tryz.sizeOf28
  v22 := Tryz.zeroValue28
  a24 := Tryz.isAgg9
  z24 := Tryz.sizeOf9
  t25 := Tryz.underlying90
  a25 := Tryz.isAgg90
  z25 := Tryz.sizeOf90
  v25 := Tryz.zeroValue90
  t39 := Tryz.underlying111
  a39 := Tryz.isAgg111
  z39 := Tryz.sizeOf111
  v39 := Tryz.zeroValue111
  t45 := Tryz.underlying135
  a45 := Tryz.isAgg135
  z45 := Tryz.sizeOf135
  v45 := Tryz.zeroValue135
  t46 := Tryz.underlying136
  a46 := Tryz.isAgg136
  z46 := Tryz.sizeOf136
  v46 := Tryz.zeroValue136
  t50 := Tryz.underlying141
  a50 := Tryz.isAgg141
  z50 := Tryz.sizeOf141
  v50 := Tryz.zeroValue141
  t53 := Tryz.underlying144
  a53 := Tryz.isAgg144
  z53 := Tryz.sizeOf144
  v53 := Tryz.zeroValue144
  t55 := Tryz.underlying146
  a55 := Tryz.isAgg146
  z55 := Tryz.sizeOf146
  v55 := Tryz.zeroValue146
  t66 := Tryz.underlying156
  a66 := Tryz.isAgg156
  z66 := Tryz.sizeOf156
  v66 := Tryz.zeroValue156
  t70 := Tryz.underlying160
  a70 := Tryz.isAgg160
  z70 := Tryz.sizeOf160
  v70 := Tryz.zeroValue160
  t76 := Tryz.underlying167
  a76 := Tryz.isAgg167
  z76 := Tryz.sizeOf167
  v76 := Tryz.zeroValue167
  t77 := Tryz.underlying168
  a77 := Tryz.isAgg168
  z77 := Tryz.sizeOf168
  v77 := Tryz.zeroValue168
def Tryz.collStr_ren : Go.Shelf.Ren := ⟨fun | 8 => 63 | 11 => 81 | n => n, fun | 26 => 9 | 28 => 88 | 24 => 28 | 0 => 0 | 33 => 80 | 4 => 4 | n => n, fun | n => n⟩
theorem Tryz.collStr : Go.Proofs.SlLaysZ.n8 Tryz.prog Tryz.collStr_ren where
  mixed := by kernel_rfl
  f8 := ⟨ "slices.Collect[string]", by decide, Tryz.func63.trans (congrArg some (by kernel_rfl))⟩
  f11 := ⟨ "slices.AppendSeq[[]string,string]", by decide, Tryz.func81.trans (congrArg some (by kernel_rfl))⟩
  t0 := Tryz.underlying0
  a0 := Tryz.isAgg0
  z0 := Tryz.sizeOf0
  v0 := Tryz.zeroValue0
  t24 := Tryz.underlying28
  a24 := Tryz.isAgg28
  z24 := Tryz.sizeOf28
  v24 := Tryz.zeroValue28
  t26 := Tryz.underlying9
  a26 := Tryz.isAgg9
  z26 := Tryz.sizeOf9
  v26 := Tryz.zeroValue9
  t28 := Tryz.underlying88
  a28 := Tryz.isAgg88
  z28 := Tryz.sizeOf88
  v28 := Tryz.zeroValue88
  i26 := by kernel_rfl
def Tryz.keysStr_ren : Go.Shelf.Ren := ⟨fun | 10 => 65 | n => n, fun | 33 => 80 | 23 => 72 | 0 => 0 | 4 => 4 | 26 => 9 | 3 => 85 | n => n, fun | n => n⟩
theorem Tryz.keysStr : Go.Proofs.SlLaysZ.n10 Tryz.prog Tryz.keysStr_ren where
  mixed := by kernel_rfl
  f10 := ⟨ "maps.Keys[map[string]syndic/dir.entry,string,syndic/dir.entry]$1", by decide, Tryz.func65.trans (congrArg some (by kernel_rfl))⟩
  t0 := Tryz.underlying0
  a0 := Tryz.isAgg0
  z0 := Tryz.sizeOf0
  v0 := Tryz.zeroValue0
  t4 := Tryz.underlying4
  a4 := Tryz.isAgg4
  z4 := Tryz.sizeOf4
  v4 := Tryz.zeroValue4
  t23 := Tryz.underlying72
  a23 := Tryz.isAgg72
  z23 := Tryz.sizeOf72
  v23 := Tryz.zeroValue72
  t26 := Tryz.underlying9
  a26 := Tryz.isAgg9
  z26 := Tryz.sizeOf9
  v26 := Tryz.zeroValue9
  t33 := Tryz.underlying80
  a33 := Tryz.isAgg80
  z33 := Tryz.sizeOf80
  v33 := Tryz.zeroValue80
def Tryz.collInt_ren : Go.Shelf.Ren := ⟨fun | 8 => 45 | 11 => 66 | n => n, fun | 26 => 3 | 28 => 68 | 24 => 65 | 0 => 0 | 33 => 92 | 4 => 4 | n => n, fun | n => n⟩
theorem Tryz.collInt : Go.Proofs.SlLaysZI.n8 Tryz.prog Tryz.collInt_ren where
  mixed := by kernel_rfl
  f8 := ⟨ "slices.Collect[int]", by decide, Tryz.func45.trans (congrArg some (by kernel_rfl))⟩
  f11 := ⟨ "slices.AppendSeq[[]int,int]", by decide, Tryz.func66.trans (congrArg some (by kernel_rfl))⟩
  t0 := Tryz.underlying0
  a0 := Tryz.isAgg0
  z0 := Tryz.sizeOf0
  v0 := Tryz.zeroValue0
  t24 := Tryz.underlying65
  a24 := Tryz.isAgg65
  z24 := Tryz.sizeOf65
  v24 := Tryz.zeroValue65
  t26 := Tryz.underlying3
  a26 := Tryz.isAgg3
  z26 := Tryz.sizeOf3
  v26 := Tryz.zeroValue3
  t28 := Tryz.underlying68
  a28 := Tryz.isAgg68
  z28 := Tryz.sizeOf68
  v28 := Tryz.zeroValue68
  i26 := by kernel_rfl
def Tryz.keysInt_ren : Go.Shelf.Ren := ⟨fun | 10 => 47 | n => n, fun | 33 => 92 | 23 => 56 | 0 => 0 | 4 => 4 | 26 => 3 | 3 => 60 | n => n, fun | n => n⟩
theorem Tryz.keysInt : Go.Proofs.SlLaysZI.n10 Tryz.prog Tryz.keysInt_ren where
  mixed := by kernel_rfl
  f10 := ⟨ "maps.Keys[map[int]syndic/session.last,int,syndic/session.last]$1", by decide, Tryz.func47.trans (congrArg some (by kernel_rfl))⟩
  t0 := Tryz.underlying0
  a0 := Tryz.isAgg0
  z0 := Tryz.sizeOf0
  v0 := Tryz.zeroValue0
  t4 := Tryz.underlying4
  a4 := Tryz.isAgg4
  z4 := Tryz.sizeOf4
  v4 := Tryz.zeroValue4
  t23 := Tryz.underlying56
  a23 := Tryz.isAgg56
  z23 := Tryz.sizeOf56
  v23 := Tryz.zeroValue56
  t26 := Tryz.underlying3
  a26 := Tryz.isAgg3
  z26 := Tryz.sizeOf3
  v26 := Tryz.zeroValue3
  t33 := Tryz.underlying92
  a33 := Tryz.isAgg92
  z33 := Tryz.sizeOf92
  v33 := Tryz.zeroValue92
def Tryz.sortInt_ren : Go.Shelf.Ren := ⟨fun | 5 => 46 | 8 => 68 | 7 => 67 | 19 => 92 | 20 => 93 | 10 => 83 | 11 => 84 | 12 => 85 | 13 => 86 | 14 => 87 | 15 => 88 | 16 => 89 | 17 => 90 | 18 => 91 | 30 => 111 | 31 => 112 | 32 => 113 | 33 => 114 | 34 => 115 | 35 => 116 | 40 => 125 | n => n, fun | 23 => 65 | 25 => 3 | 3 => 3 | 32 => 111 | 22 => 65 | 0 => 0 | 44 => 144 | 46 => 146 | 4 => 4 | 36 => 136 | 35 => 135 | 41 => 141 | 5 => 5 | 9 => 9 | 53 => 156 | 57 => 160 | 63 => 167 | 64 => 168 | n => n, fun | n => n⟩
theorem Tryz.sortInt : Go.Proofs.SlLaysM.n5 Tryz.prog Tryz.sortInt_ren where
  mixed := by kernel_rfl
  f5 := ⟨ "slices.Sort[[]int,int]", by decide, Tryz.func46.trans (congrArg some (by kernel_rfl))⟩
  f7 := ⟨ "slices.pdqsortOrdered[int]", by decide, Tryz.func67.trans (congrArg some (by kernel_rfl))⟩
  f8 := Tryz.func68.trans (congrArg some (by kernel_rfl))
  f10 := ⟨ "slices.insertionSortOrdered[int]", by decide, Tryz.func83.trans (congrArg some (by kernel_rfl))⟩
  f11 := ⟨ "slices.heapSortOrdered[int]", by decide, Tryz.func84.trans (congrArg some (by kernel_rfl))⟩
  f12 := ⟨ "slices.breakPatternsOrdered[int]", by decide, Tryz.func85.trans (congrArg some (by kernel_rfl))⟩
  f13 := ⟨ "slices.choosePivotOrdered[int]", by decide, Tryz.func86.trans (congrArg some (by kernel_rfl))⟩
  f14 := ⟨ "slices.reverseRangeOrdered[int]", by decide, Tryz.func87.trans (congrArg some (by kernel_rfl))⟩
  f15 := ⟨ "slices.partialInsertionSortOrdered[int]", by decide, Tryz.func88.trans (congrArg some (by kernel_rfl))⟩
  f16 := ⟨ "cmp.Less[int]", by decide, Tryz.func89.trans (congrArg some (by kernel_rfl))⟩
  f17 := ⟨ "slices.partitionEqualOrdered[int]", by decide, Tryz.func90.trans (congrArg some (by kernel_rfl))⟩
  f18 := ⟨ "slices.partitionOrdered[int]", by decide, Tryz.func91.trans (congrArg some (by kernel_rfl))⟩
  f19 := Tryz.func92.trans (congrArg some (by kernel_rfl))
  f20 := Tryz.func93.trans (congrArg some (by kernel_rfl))
  f30 := ⟨ "slices.siftDownOrdered[int]", by decide, Tryz.func111.trans (congrArg some (by kernel_rfl))⟩
  f31 := Tryz.func112.trans (congrArg some (by kernel_rfl))
  f32 := Tryz.func113.trans (congrArg some (by kernel_rfl))
  f33 := ⟨ "slices.medianAdjacentOrdered[int]", by decide, Tryz.func114.trans (congrArg some (by kernel_rfl))⟩
  f34 := ⟨ "slices.medianOrdered[int]", by decide, Tryz.func115.trans (congrArg some (by kernel_rfl))⟩
  f35 := ⟨ "cmp.isNaN[int]", by decide, Tryz.func116.trans (congrArg some (by kernel_rfl))⟩
  f40 := ⟨ "slices.order2Ordered[int]", by decide, Tryz.func125.trans (congrArg some (by kernel_rfl))⟩
  t0 := Tryz.underlying0
  a0 := Tryz.isAgg0
  z0 := Tryz.sizeOf0
  v0 := Tryz.zeroValue0
  t3 := Tryz.underlying3
  a3 := Tryz.isAgg3
  z3 := Tryz.sizeOf3
  v3 := Tryz.zeroValue3
  t4 := Tryz.underlying4
  a4 := Tryz.isAgg4
  z4 := Tryz.sizeOf4
  v4 := Tryz.zeroValue4
  t5 := Tryz.underlying5
  a5 := Tryz.isAgg5
  z5 := Tryz.sizeOf5
  v5 := Tryz.zeroValue5
  t9 := Tryz.underlying9
  a9 := Tryz.isAgg9
  z9 := Tryz.sizeOf9
  v9 := Tryz.zeroValue9
  t22 := Tryz.underlying65
  a22 := Tryz.isAgg65
  z22 := Tryz.sizeOf65
  v22 := Tryz.zeroValue65
  t23 := Tryz.underlying65
  a23 := Tryz.isAgg65
  z23 := Tryz.sizeOf65
  v23 := Tryz.zeroValue65
  t25 := Tryz.underlying3
  a25 := Tryz.isAgg3
  z25 := Tryz.sizeOf3
  v25 := Tryz.zeroValue3
  t32 := Tryz.underlying111
  a32 := Tryz.isAgg111
  z32 := Tryz.sizeOf111
  v32 := Tryz.zeroValue111
  t35 := Tryz.underlying135
  a35 := Tryz.isAgg135
  z35 := Tryz.sizeOf135
  v35 := Tryz.zeroValue135
  t36 := Tryz.underlying136
  a36 := Tryz.isAgg136
  z36 := Tryz.sizeOf136
  v36 := Tryz.zeroValue136
  t41 := Tryz.underlying141
  a41 := Tryz.isAgg141
  z41 := Tryz.sizeOf141
  v41 := Tryz.zeroValue141
  t44 := Tryz.underlying144
  a44 := Tryz.isAgg144
  z44 := Tryz.sizeOf144
  v44 := Tryz.zeroValue144
  t46 := Tryz.underlying146
  a46 := Tryz.isAgg146
  z46 := Tryz.sizeOf146
  v46 := Tryz.zeroValue146
  t53 := Tryz.underlying156
  a53 := Tryz.isAgg156
  z53 := Tryz.sizeOf156
  v53 := Tryz.zeroValue156
  t57 := Tryz.underlying160
  a57 := Tryz.isAgg160
  z57 := Tryz.sizeOf160
  v57 := Tryz.zeroValue160
  t63 := Tryz.underlying167
  a63 := Tryz.isAgg167
  z63 := Tryz.sizeOf167
  v63 := Tryz.zeroValue167
  t64 := Tryz.underlying168
  a64 := Tryz.isAgg168
  z64 := Tryz.sizeOf168
  v64 := Tryz.zeroValue168
def Tryz.cloneStr_ren : Go.Shelf.Ren := ⟨fun | 5 => 48 | 7 => 49 | n => n, fun | 23 => 72 | 25 => 9 | 3 => 85 | 4 => 4 | 20 => 20 | n => n, fun | n => n⟩
theorem Tryz.cloneStr : Go.Proofs.SlLaysW.n5 Tryz.prog Tryz.cloneStr_ren where
  mixed := by kernel_rfl
  f5 := ⟨ "maps.Clone[map[string]syndic/dir.entry,string,syndic/dir.entry]", by decide, Tryz.func48.trans (congrArg some (by kernel_rfl))⟩
  f7 := Tryz.func49.trans (congrArg some (by kernel_rfl))
  t4 := Tryz.underlying4
  a4 := Tryz.isAgg4
  z4 := Tryz.sizeOf4
  v4 := Tryz.zeroValue4
  t20 := Tryz.underlying20
  a20 := Tryz.isAgg20
  z20 := Tryz.sizeOf20
  v20 := Tryz.zeroValue20
  t23 := Tryz.underlying72
  a23 := Tryz.isAgg72
  z23 := Tryz.sizeOf72
  v23 := Tryz.zeroValue72
def Tryz.cloneInt_ren : Go.Shelf.Ren := ⟨fun | 5 => 31 | 7 => 49 | n => n, fun | 23 => 56 | 25 => 3 | 3 => 60 | 4 => 4 | 20 => 20 | n => n, fun | n => n⟩
theorem Tryz.cloneInt : Go.Proofs.SlLaysW.n5 Tryz.prog Tryz.cloneInt_ren where
  mixed := by kernel_rfl
  f5 := ⟨ "maps.Clone[map[int]syndic/session.last,int,syndic/session.last]", by decide, Tryz.func31.trans (congrArg some (by kernel_rfl))⟩
  f7 := Tryz.func49.trans (congrArg some (by kernel_rfl))
  t4 := Tryz.underlying4
  a4 := Tryz.isAgg4
  z4 := Tryz.sizeOf4
  v4 := Tryz.zeroValue4
  t20 := Tryz.underlying20
  a20 := Tryz.isAgg20
  z20 := Tryz.sizeOf20
  v20 := Tryz.zeroValue20
  t23 := Tryz.underlying56
  a23 := Tryz.isAgg56
  z23 := Tryz.sizeOf56
  v23 := Tryz.zeroValue56
theorem Tryz.Builder_Extra_156 : Builder.Extra Tryz.prog Tryz.lays156_ren where
  sizeBuilder := by kernel_rfl
  liesBuilder := by kernel_rfl
  t5 := Tryz.underlying5
  a5 := Tryz.isAgg5
  z5 := Tryz.sizeOf5
  v5 := Tryz.zeroValue5
  infoByte := by kernel_rfl
  cellsByte := by kernel_rfl
  sizeByte := by kernel_rfl
  neB5 := by decide
open Go.RowKit in
theorem Tryz.strings_Join_none (a : Option Addr) (c : Nat) (sep : ByteArray) (w : World) :
    Calls Tryz.prog 62 #[.slice a 0 c, .string sep] w fun e w' => e = .returned (.string ⟨#[]⟩) ∧ w' = w := Any.strings_Join_none Tryz.lays156 Tryz.Builder_Extra_156 a c sep w
open Go.RowKit in
theorem Tryz.strings_Join (bk o c : Nat) (xs : List ByteArray) (sep : ByteArray) (w : World) (hcells : ∀ (j : Nat) x, xs[j]? = some x → w.cell? ⟨bk, o + j, none⟩ = some (.string x)) (hbk : bk < w.heap.size) (hN : xs.length ≤ 140737488355328) (hcap : xs.length ≤ c) (hlen : (Lib.join (xs.map (·.data.toList)) sep.data.toList).length ≤ 140737488355328) :
    Calls Tryz.prog 62 #[.slice (some ⟨bk, o, none⟩) xs.length c, .string sep] w fun e w' => e = .returned (.string ⟨(Lib.join (xs.map (·.data.toList)) sep.data.toList).toArray⟩) ∧ Below w.heap.size w w' := Any.strings_Join Tryz.lays156 Tryz.Builder_Extra_156 bk o c xs sep w hcells hbk hN hcap hlen
open Go.RowKit in
theorem Tryz.strings_Compare (a b : ByteArray) (w : World) :
    Calls Tryz.prog 60 #[.string a, .string b] w fun e w' => e = .returned (.int .i64 (Lib.compareBytes a.data.toList b.data.toList)) ∧ w' = w := Any.strings_Compare Tryz.lays106 a b w
open Go.RowKit in
theorem Tryz.strings_IndexByte (s : ByteArray) (c : Int) (w : World) :
    Calls Tryz.prog 75 #[.string s, .int .u8 c] w fun e w' => e = .returned (.int .i64 (Lib.indexByte s.data.toList c.toNat.toUInt8)) ∧ w' = w := Any.strings_IndexByte Tryz.lays137 s c w
open Go.RowKit in
theorem Tryz.strings_CutPrefix (s p : ByteArray) (w : World) :
    Calls Tryz.prog 74 #[.string s, .string p] w fun e w' => e = .returned (.tuple #[.string ⟨(Lib.trimPrefix s.data.toList p.data.toList).toArray⟩, .bool (Lib.hasPrefix s.data.toList p.data.toList)]) ∧ w' = w := Any.strings_CutPrefix Tryz.lays103 s p w
end Go.Proofs
end

section
set_option linter.unusedVariables false
set_option linter.unusedSimpArgs false
/- Normal forms of functions, printed by a program of mine; each is checked by the kernel. -/
namespace Go.Proofs.YtdeondiigpidnaaGreat.Ab
open Go Go.Proofs
set_option maxRecDepth 100000
set_option linter.unusedVariables false
set_option linter.unusedSectionVars false
variable [Fwd]
abbrev n_sortstr : Go.FuncId := 64
theorem ca_sortstr : callable Tryz.prog 64 = true := by kernel_rfl
abbrev n_cmpstr0 : Go.FuncId := 97
theorem ca_cmpstr0 : callable Tryz.prog 97 = true := by kernel_rfl
abbrev n_dnames : Go.FuncId := 73
noncomputable def h_dnames : Hints := { n := 28, esc := fun _ => false, lr := fun _ => [], bx := fun _ => false, lc := fun _ => false, quiet := fun _ => false, order := fun _ => none, join := fun _ => none, carry := fun i => match i with | 3 => [5] | _ => [], mu := fun i => mem i [5] }
noncomputable def s_dnames : Shapes := { carry := fun i => match i with | 3 => [.sc .vw] | _ => [], res := fun _ => none }
theorem e_dnames (d : Nat) (t : Bytes) (s : Store) (K : V → Store → Prop) : tfun Tryz.prog h_dnames s_dnames Tryz.f73 [.ptr d 0, .str (bs t)] s K = ( ∃ o0 l1 v2, s d = some o0 ∧ objCells o0 = some l1 ∧ rd TK.sc l1 0 = some v2 ∧ ∃ i3, v2 = V.map i3 ∧ ∃ l4, s i3 = some (Obj.map l4) ∧ ∀ (i5 : Nat), s i5 = none → lfp (fun s6 l7 s8 => ∃ i9 i10 i11 i12, l7 = [V.vw i9 i10 i11 i12] ∧ ∃ i13 x14 l15 l16, s8 i5 = some (Obj.iter i13 x14 l15) ∧ s8 i13 = some (Obj.mapr l16) ∧ (l15 = [] → AC Tryz.prog 64 [V.vw i9 i10 i11 i12, V.fn (Fn.func 97) [] []] s8 fun v17 s18 => v17 = V.tup [] ∧ K (V.vw i9 i10 i11 i12) s18) ∧ ∀ (l19 : List (V × V)) (v20 v21 : V) (l22 : List (V × V)), l15 = l19 ++ (v20, v21) :: l22 → ∃ i23 v24 v25 l26 l27, s8.upd i5 (Obj.iter i13 (some (v20, v21)) (l19 ++ l22)) i5 = some (Obj.iter i23 (some (v24, v25)) l26) ∧ s8.upd i5 (Obj.iter i13 (some (v20, v21)) (l19 ++ l22)) i23 = some (Obj.mapr l27) ∧ AC Tryz.prog 41 [v24] (s8.upd i5 (Obj.iter i13 (some (v20, v21)) (l19 ++ l22))) fun v28 s29 => ∃ t30, v28 = V.str t30 ∧ bif t30.toList == (bs t).toList then AC Tryz.prog 96 [v24] s29 fun v31 s32 => ∃ t33, v31 = V.str t33 ∧ tappW 1 (V.vw i9 i10 i11 i12) (V.sl [V.str t33] Cap.full) s32 fun i34 i35 s36 => s6 [V.vw i34 1 0 i35] s36 else s6 [V.vw i9 i10 i11 i12] s29) [V.vw 0 0 0 0] ((s.upd i3 (Obj.mapr l4)).upd i5 (Obj.iter i3 none l4))) := by kernel_rfl
theorem ok_dnames : okFn h_dnames Tryz.f73 = true := by kernel_rfl
theorem fn_dnames : Tryz.prog.funcs[73]? = some Tryz.f73 := by kernel_rfl
theorem ca_dnames : callable Tryz.prog 73 = true := by kernel_rfl
abbrev n_isnan : Go.FuncId := 117
noncomputable def h_isnan : Hints := { n := 6, esc := fun _ => false, lr := fun _ => [], bx := fun _ => false, lc := fun _ => false, quiet := fun _ => false, order := fun _ => none, join := fun _ => none, carry := fun _ => [] }
noncomputable def s_isnan : Shapes := { carry := fun _ => [], res := fun _ => none }
theorem e_isnan (a : Bytes) (s : Store) (K : V → Store → Prop) : tfun Tryz.prog h_isnan s_isnan Tryz.f117 [.str (bs a)] s K = ( K (V.bool !(bs a).toList == (bs a).toList) s) := by kernel_rfl
theorem ok_isnan : okFn h_isnan Tryz.f117 = true := by kernel_rfl
theorem fn_isnan : Tryz.prog.funcs[117]? = some Tryz.f117 := by kernel_rfl
theorem ca_isnan : callable Tryz.prog 117 = true := by kernel_rfl
abbrev n_cmpstr : Go.FuncId := 97
noncomputable def h_cmpstr : Hints := { n := 20, esc := fun _ => false, lr := fun _ => [], bx := fun _ => false, lc := fun _ => false, quiet := fun _ => false, order := fun _ => none, join := fun _ => none, carry := fun _ => [] }
noncomputable def s_cmpstr : Shapes := { carry := fun _ => [], res := fun _ => none }
theorem e_cmpstr (a b : Bytes) (s : Store) (K : V → Store → Prop) : tfun Tryz.prog h_cmpstr s_cmpstr Tryz.f97 [.str (bs a), .str (bs b)] s K = ( AC Tryz.prog 117 [V.str (bs a)] s fun v0 s1 => ∃ b2, v0 = V.bool b2 ∧ AC Tryz.prog 117 [V.str (bs b)] s1 fun v3 s4 => ∃ b5, v3 = V.bool b5 ∧ bif b2 then bif b5 then K (V.int IntKind.i64 0) s4 else K (V.int IntKind.i64 (-1)) s4 else bif b5 then K (V.int IntKind.i64 1) s4 else bif Op.bytesLess (bs a).toList (bs b).toList then K (V.int IntKind.i64 (-1)) s4 else bif !(Op.bytesLess (bs a).toList (bs b).toList || (bs a).toList == (bs b).toList) then K (V.int IntKind.i64 1) s4 else K (V.int IntKind.i64 0) s4) := by kernel_rfl
theorem ok_cmpstr : okFn h_cmpstr Tryz.f97 = true := by kernel_rfl
theorem fn_cmpstr : Tryz.prog.funcs[97]? = some Tryz.f97 := by kernel_rfl
theorem ca_cmpstr : callable Tryz.prog 97 = true := by kernel_rfl
abbrev n_sortf : Go.FuncId := 64
noncomputable def h_sortf : Hints := { n := 14, esc := fun _ => false, lr := fun _ => [], bx := fun _ => false, lc := fun _ => false, quiet := fun _ => false, order := fun _ => none, join := fun _ => none, carry := fun _ => [] }
noncomputable def s_sortf : Shapes := { carry := fun _ => [], res := fun _ => none }
theorem e_sortf (i z o n : Nat) (f : V) (s : Store) (K : V → Store → Prop) : tfun Tryz.prog h_sortf s_sortf Tryz.f64 [.vw i z o n, f] s K = ( AC Tryz.prog 68 [V.int IntKind.u64 (IntKind.u64.wrap (↑n : Int))] s fun v0 s1 => ∃ n2, v0 = V.int IntKind.i64 n2 ∧ AC Tryz.prog 82 [V.vw i z o n, V.int IntKind.i64 0, V.int IntKind.i64 (↑n : Int), V.int IntKind.i64 n2, f] s1 fun v3 s4 => v3 = V.tup [] ∧ K (V.tup []) s4) := by kernel_rfl
theorem ok_sortf : okFn h_sortf Tryz.f64 = true := by kernel_rfl
theorem fn_sortf : Tryz.prog.funcs[64]? = some Tryz.f64 := by kernel_rfl
theorem ca_sortf : callable Tryz.prog 64 = true := by kernel_rfl
end Go.Proofs.YtdeondiigpidnaaGreat.Ab
end

section
set_option linter.unusedVariables false
set_option linter.unusedSimpArgs false
/- Normal forms of functions, printed by a program of mine; each is checked by the kernel. -/
namespace Go.Proofs.YtdeondiigpidnaaGreat.Ab
open Go Go.Proofs
set_option maxRecDepth 100000
set_option linter.unusedVariables false
set_option linter.unusedSectionVars false
variable [Fwd]
abbrev n_collstr : Go.FuncId := 63
theorem ca_collstr : callable Tryz.prog 63 = true := by kernel_rfl
abbrev n_collint : Go.FuncId := 45
theorem ca_collint : callable Tryz.prog 45 = true := by kernel_rfl
abbrev n_sortint : Go.FuncId := 46
theorem ca_sortint : callable Tryz.prog 46 = true := by kernel_rfl
abbrev n_mclone1 : Go.FuncId := 48
theorem ca_mclone1 : callable Tryz.prog 48 = true := by kernel_rfl
abbrev n_mclone2 : Go.FuncId := 31
theorem ca_mclone2 : callable Tryz.prog 31 = true := by kernel_rfl
abbrev n_keysf1 : Go.FuncId := 65
theorem ca_keysf1 : callable Tryz.prog 65 = true := by kernel_rfl
abbrev n_keysf2 : Go.FuncId := 47
theorem ca_keysf2 : callable Tryz.prog 47 = true := by kernel_rfl
abbrev n_keys1 : Go.FuncId := 43
noncomputable def h_keys1 : Hints := { n := 4, esc := fun i => mem i [1], lr := fun _ => [], bx := fun _ => false, lc := fun _ => false, quiet := fun _ => false, order := fun _ => none, join := fun _ => none, carry := fun _ => [] }
noncomputable def s_keys1 : Shapes := { carry := fun _ => [], res := fun _ => none }
theorem e_keys1 (m : Nat) (s : Store) (K : V → Store → Prop) : tfun Tryz.prog h_keys1 s_keys1 Tryz.f43 [.map m] s K = ( ∀ (i0 : Nat), s i0 = none → K (V.fn (Fn.func 65) [] [V.ptr i0 0]) (s.upd i0 (Obj.cells [V.map m]))) := by kernel_rfl
theorem ok_keys1 : okFn h_keys1 Tryz.f43 = true := by kernel_rfl
theorem fn_keys1 : Tryz.prog.funcs[43]? = some Tryz.f43 := by kernel_rfl
theorem ca_keys1 : callable Tryz.prog 43 = true := by kernel_rfl
abbrev n_keys2 : Go.FuncId := 28
noncomputable def h_keys2 : Hints := { n := 4, esc := fun i => mem i [1], lr := fun _ => [], bx := fun _ => false, lc := fun _ => false, quiet := fun _ => false, order := fun _ => none, join := fun _ => none, carry := fun _ => [] }
noncomputable def s_keys2 : Shapes := { carry := fun _ => [], res := fun _ => none }
theorem e_keys2 (m : Nat) (s : Store) (K : V → Store → Prop) : tfun Tryz.prog h_keys2 s_keys2 Tryz.f28 [.map m] s K = ( ∀ (i0 : Nat), s i0 = none → K (V.fn (Fn.func 47) [] [V.ptr i0 0]) (s.upd i0 (Obj.cells [V.map m]))) := by kernel_rfl
theorem ok_keys2 : okFn h_keys2 Tryz.f28 = true := by kernel_rfl
theorem fn_keys2 : Tryz.prog.funcs[28]? = some Tryz.f28 := by kernel_rfl
theorem ca_keys2 : callable Tryz.prog 28 = true := by kernel_rfl
abbrev n_sortedf : Go.FuncId := 42
noncomputable def h_sortedf : Hints := { n := 12, esc := fun _ => false, lr := fun _ => [], bx := fun _ => false, lc := fun _ => false, quiet := fun _ => false, order := fun _ => none, join := fun _ => none, carry := fun _ => [] }
noncomputable def s_sortedf : Shapes := { carry := fun _ => [], res := fun i => bif Nat.beq i 63 then some (.a (.sc .vw)) else none }
theorem e_sortedf (f g : FuncId) (i : Nat) (s : Store) (K : V → Store → Prop) : tfun Tryz.prog h_sortedf s_sortedf Tryz.f42 [.fn (.func f) [] [.ptr i 0], .fn (.func g) [] []] s K = ( AC Tryz.prog 63 [V.fn (Fn.func f) [] [V.ptr i 0]] s fun v0 s1 => ∃ i2 i3 i4 i5, v0 = V.vw i2 i3 i4 i5 ∧ AC Tryz.prog 64 [V.vw i2 i3 i4 i5, V.fn (Fn.func g) [] []] s1 fun v6 s7 => v6 = V.tup [] ∧ K (V.vw i2 i3 i4 i5) s7) := by kernel_rfl
theorem ok_sortedf : okFn h_sortedf Tryz.f42 = true := by kernel_rfl
theorem fn_sortedf : Tryz.prog.funcs[42]? = some Tryz.f42 := by kernel_rfl
theorem ca_sortedf : callable Tryz.prog 42 = true := by kernel_rfl
abbrev n_sortedi : Go.FuncId := 27
noncomputable def h_sortedi : Hints := { n := 9, esc := fun _ => false, lr := fun _ => [], bx := fun _ => false, lc := fun _ => false, quiet := fun _ => false, order := fun _ => none, join := fun _ => none, carry := fun _ => [] }
noncomputable def s_sortedi : Shapes := { carry := fun _ => [], res := fun i => bif Nat.beq i 45 then some (.a (.sc .vw)) else none }
theorem e_sortedi (f : FuncId) (i : Nat) (s : Store) (K : V → Store → Prop) : tfun Tryz.prog h_sortedi s_sortedi Tryz.f27 [.fn (.func f) [] [.ptr i 0]] s K = ( AC Tryz.prog 45 [V.fn (Fn.func f) [] [V.ptr i 0]] s fun v0 s1 => ∃ i2 i3 i4 i5, v0 = V.vw i2 i3 i4 i5 ∧ AC Tryz.prog 46 [V.vw i2 i3 i4 i5] s1 fun v6 s7 => v6 = V.tup [] ∧ K (V.vw i2 i3 i4 i5) s7) := by kernel_rfl
theorem ok_sortedi : okFn h_sortedi Tryz.f27 = true := by kernel_rfl
theorem fn_sortedi : Tryz.prog.funcs[27]? = some Tryz.f27 := by kernel_rfl
theorem ca_sortedi : callable Tryz.prog 27 = true := by kernel_rfl
abbrev n_snew : Go.FuncId := 10
noncomputable def h_snew : Hints := { n := 5, esc := fun i => mem i [4], lr := fun _ => [], bx := fun _ => false, lc := fun _ => false, quiet := fun _ => false, order := fun _ => none, join := fun _ => none, carry := fun _ => [] }
noncomputable def s_snew : Shapes := { carry := fun _ => [], res := fun _ => none }
theorem e_snew  (s : Store) (K : V → Store → Prop) : tfun Tryz.prog h_snew s_snew Tryz.f10 [] s K = ( AC Tryz.prog 21 [] s fun v0 s1 => ∃ i2, v0 = V.ptr i2 0 ∧ ∀ (i3 : Nat), s1 i3 = none → ∀ (i4 : Nat), s1.upd i3 (Obj.map []) i4 = none → K (V.ptr i4 0) ((s1.upd i3 (Obj.map [])).upd i4 (Obj.cells [V.ptr i2 0, V.map i3]))) := by kernel_rfl
theorem ok_snew : okFn h_snew Tryz.f10 = true := by kernel_rfl
theorem fn_snew : Tryz.prog.funcs[10]? = some Tryz.f10 := by kernel_rfl
theorem ca_snew : callable Tryz.prog 10 = true := by kernel_rfl
abbrev n_sapply : Go.FuncId := 11
noncomputable def h_sapply : Hints := { n := 65, esc := fun _ => false, lr := fun i => match i with | 4 => [10, 23, 29, 36, 56, 58] | 7 => [27, 34, 39] | _ => [], bx := fun i => mem i [4, 5, 6, 7, 8], lc := fun i => mem i [4, 5, 6, 7, 8, 10, 23, 27, 29, 34, 36, 39, 56, 58], quiet := fun i => mem i [17, 22, 23], order := fun i => match i with | 5 => some [0, 1, 2, 3, 4, 5, 6, 7, 8] | 12 => some [0, 1, 2, 3, 4, 5, 6] | 13 => some [0, 1, 2, 3, 4, 5, 6, 7, 8, 9, 10, 11] | _ => none, join := fun _ => none, carry := fun _ => [] }
noncomputable def s_sapply : Shapes := { carry := fun _ => [], res := fun _ => none }
theorem e_sapply (m : Nat) (c : Cmd) (r : Reply) (k : Cap) (s : Store) (K : V → Store → Prop) : tfun Tryz.prog h_sapply s_sapply Tryz.f11 [.ptr m 0, c.enc, r.enc k] s K = ( bif c.op == 0 then K (V.agg [V.int IntKind.i64 0, V.str (ByteArray.mk #[]), V.int IntKind.i64 0, V.sl [] Cap.full]) s else AC Tryz.prog 17 [V.agg [V.int IntKind.i64 c.client, V.int IntKind.i64 c.seq, V.int IntKind.i64 c.op, V.str (bs c.path), V.str (bs c.value), V.int IntKind.i64 c.version, V.int IntKind.i64 c.a, V.int IntKind.i64 c.b]] s fun v0 s1 => ∃ b2, v0 = V.bool b2 ∧ bif !b2 then K (V.agg [V.int IntKind.i64 1, V.str (ByteArray.mk #[]), V.int IntKind.i64 0, V.sl [] Cap.full]) s1 else ∃ o3 l4 v5, s1 m = some o3 ∧ objCells o3 = some l4 ∧ rd TK.sc l4 1 = some v5 ∧ ∃ i6, v5 = V.map i6 ∧ ∃ l7, (s1 i6 = some (Obj.map l7) ∨ s1 i6 = some (Obj.mapr l7)) ∧ (∀ (x8 : V × V), x8 ∈ l7 → hasKK (KK.one (SK.int IntKind.i64)) x8.fst = true) ∧ ∃ v9, (mlook l7 (V.int IntKind.i64 c.client)).getD (V.agg [V.int IntKind.i64 0, V.int IntKind.i64 0, V.str (ByteArray.mk #[]), V.int IntKind.i64 0, V.sl [] Cap.full]) = v9 ∧ ∃ n10 n11 t12 n13 l14 c15, v9 = V.agg [V.int IntKind.i64 n10, V.int IntKind.i64 n11, V.str t12, V.int IntKind.i64 n13, V.sl l14 c15] ∧ bif decide (n10 > c.seq) then K (V.agg [V.int IntKind.i64 6, V.str (ByteArray.mk #[]), V.int IntKind.i64 0, V.sl [] Cap.full]) s1 else bif n10 == c.seq then AC Tryz.prog 22 [V.agg [V.int IntKind.i64 n11, V.str t12, V.int IntKind.i64 n13, V.sl l14 c15]] s1 fun v16 s17 => ∃ n18 t19 n20 l21 c22, v16 = V.agg [V.int IntKind.i64 n18, V.str t19, V.int IntKind.i64 n20, V.sl l21 c22] ∧ K (V.agg [V.int IntKind.i64 n18, V.str t19, V.int IntKind.i64 n20, V.sl l21 c22]) s17 else AC Tryz.prog 23 [V.agg [V.int IntKind.i64 c.client, V.int IntKind.i64 c.seq, V.int IntKind.i64 c.op, V.str (bs c.path), V.str (bs c.value), V.int IntKind.i64 c.version, V.int IntKind.i64 c.a, V.int IntKind.i64 c.b]] s1 fun v23 s24 => ∃ b25, v23 = V.bool b25 ∧ bif !b25 then ∃ o26 l27 v28, s24 m = some o26 ∧ objCells o26 = some l27 ∧ rd TK.sc l27 0 = some v28 ∧ ∃ i29, v28 = V.ptr i29 0 ∧ AC Tryz.prog 24 [V.ptr i29 0, V.agg [V.int IntKind.i64 c.client, V.int IntKind.i64 c.seq, V.int IntKind.i64 c.op, V.str (bs c.path), V.str (bs c.value), V.int IntKind.i64 c.version, V.int IntKind.i64 c.a, V.int IntKind.i64 c.b]] s24 fun v30 s31 => ∃ n32 t33 n34 l35 c36, v30 = V.agg [V.int IntKind.i64 n32, V.str t33, V.int IntKind.i64 n34, V.sl l35 c36] ∧ ∃ o37 l38 v39, s31 m = some o37 ∧ objCells o37 = some l38 ∧ rd TK.sc l38 1 = some v39 ∧ ∃ i40, v39 = V.map i40 ∧ AC Tryz.prog 22 [V.agg [V.int IntKind.i64 n32, V.str t33, V.int IntKind.i64 n34, V.sl l35 c36]] s31 fun v41 s42 => s31.le s42 ∧ ∃ n43 t44 n45 l46 c47, v41 = V.agg [V.int IntKind.i64 n43, V.str t44, V.int IntKind.i64 n45, V.sl l46 c47] ∧ ∃ l48, s42 i40 = some (Obj.map l48) ∧ (∀ (x49 : V × V), x49 ∈ l48 → hasKK (KK.one (SK.int IntKind.i64)) x49.fst = true) ∧ AC Tryz.prog 22 [V.agg [V.int IntKind.i64 n32, V.str t33, V.int IntKind.i64 n34, V.sl l35 c36]] (s42.upd i40 (Obj.map (mput l48 (V.int IntKind.i64 c.client) (V.agg [V.int IntKind.i64 c.seq, V.int IntKind.i64 n43, V.str t44, V.int IntKind.i64 n45, V.sl l46 c47])))) fun v50 s51 => ∃ n52 t53 n54 l55 c56, v50 = V.agg [V.int IntKind.i64 n52, V.str t53, V.int IntKind.i64 n54, V.sl l55 c56] ∧ K (V.agg [V.int IntKind.i64 n52, V.str t53, V.int IntKind.i64 n54, V.sl l55 c56]) s51 else ∃ o57 l58 v59, s24 m = some o57 ∧ objCells o57 = some l58 ∧ rd TK.sc l58 1 = some v59 ∧ ∃ i60, v59 = V.map i60 ∧ AC Tryz.prog 22 [V.agg [V.int IntKind.i64 r.err, V.str (bs r.value), V.int IntKind.i64 r.version, V.sl (List.map vstr r.names) k]] s24 fun v61 s62 => s24.le s62 ∧ ∃ n63 t64 n65 l66 c67, v61 = V.agg [V.int IntKind.i64 n63, V.str t64, V.int IntKind.i64 n65, V.sl l66 c67] ∧ ∃ l68, s62 i60 = some (Obj.map l68) ∧ (∀ (x69 : V × V), x69 ∈ l68 → hasKK (KK.one (SK.int IntKind.i64)) x69.fst = true) ∧ AC Tryz.prog 22 [V.agg [V.int IntKind.i64 r.err, V.str (bs r.value), V.int IntKind.i64 r.version, V.sl (List.map vstr r.names) k]] (s62.upd i60 (Obj.map (mput l68 (V.int IntKind.i64 c.client) (V.agg [V.int IntKind.i64 c.seq, V.int IntKind.i64 n63, V.str t64, V.int IntKind.i64 n65, V.sl l66 c67])))) fun v70 s71 => ∃ n72 t73 n74 l75 c76, v70 = V.agg [V.int IntKind.i64 n72, V.str t73, V.int IntKind.i64 n74, V.sl l75 c76] ∧ K (V.agg [V.int IntKind.i64 n72, V.str t73, V.int IntKind.i64 n74, V.sl l75 c76]) s71) := by kernel_rfl
theorem ok_sapply : okFn h_sapply Tryz.f11 = true := by kernel_rfl
theorem fn_sapply : Tryz.prog.funcs[11]? = some Tryz.f11 := by kernel_rfl
theorem ca_sapply : callable Tryz.prog 11 = true := by kernel_rfl
abbrev n_sof : Go.FuncId := 12
noncomputable def h_sof : Hints := { n := 66, esc := fun i => mem i [22], lr := fun i => match i with | 10 => [30, 32, 47, 56, 58, 60] | _ => [], bx := fun i => mem i [10], lc := fun i => mem i [10, 30, 32, 47, 56, 58, 60], quiet := fun i => mem i [17, 22], order := fun i => match i with | 8 => some [0, 1, 2, 3, 4, 5, 6, 7, 8, 9, 10, 11, 12, 13, 14, 15, 16, 17, 18, 19, 20, 21] | 10 => some [0, 1, 2, 3, 4, 5, 6, 7, 8, 9, 10, 11, 12] | _ => none, join := fun _ => none, carry := fun i => match i with | 6 => [25] | _ => [] }
noncomputable def s_sof : Shapes := { carry := fun i => match i with | 6 => [shA Tryz.prog 3] | _ => [], res := fun i => bif Nat.beq i 25 then some (.tup [.sc .any, .sc (.int .i64)]) else none }
theorem e_sof (l : List Entry) (k : Cap) (s2 : List Sess) (k2 : Cap) (s : Store) (K : V → Store → Prop) : tfun Tryz.prog h_sof s_sof Tryz.f12 [.sl (l.map Entry.enc) k, .sl (s2.map Sess.enc) k2] s K = ( AC Tryz.prog 25 [V.sl (List.map Entry.enc l) k] s fun v0 s1 => ∃ v2 n3, v0 = V.tup [v2, V.int IntKind.i64 n3] ∧ bif n3 != 0 then K (V.tup [V.nilp, V.int IntKind.i64 n3]) s1 else ∀ (i4 : Nat), s1 i4 = none → tif v2.one (tif ([v2, V.map i4].length.beq 2 && [v2, V.map i4].all V.one) (∀ (i5 : Nat), s1.upd i4 (Obj.map []) i5 = none → lfp (fun s6 l7 s8 => ∃ n9, l7 = [V.int IntKind.i64 n9] ∧ bif decide (n9 < (↑(List.map Sess.enc s2).length : Int)) then 0 ≤ n9 ∧ ∃ v10, (List.map Sess.enc s2)[n9.toNat]? = some v10 ∧ ∃ n11 n12 n13 t14 n15 l16 c17, v10 = V.agg [V.int IntKind.i64 n11, V.int IntKind.i64 n12, V.int IntKind.i64 n13, V.str t14, V.int IntKind.i64 n15, V.sl l16 c17] ∧ AC Tryz.prog 17 [V.agg [V.int IntKind.i64 n11, V.int IntKind.i64 n12, V.int IntKind.i64 0, V.str (ByteArray.mk #[]), V.str (ByteArray.mk #[]), V.int IntKind.i64 0, V.int IntKind.i64 0, V.int IntKind.i64 0]] s8 fun v18 s19 => s8.le s19 ∧ ∃ b20, v18 = V.bool b20 ∧ bif !!b20 then bif decide (n9 > 0) then 0 ≤ IntKind.i64.wrap (n9 - 1) ∧ ∃ v21, (List.map Sess.enc s2)[(IntKind.i64.wrap (n9 - 1)).toNat]? = some v21 ∧ ∃ n22 n23 n24 t25 n26 l27 c28, v21 = V.agg [V.int IntKind.i64 n22, V.int IntKind.i64 n23, V.int IntKind.i64 n24, V.str t25, V.int IntKind.i64 n26, V.sl l27 c28] ∧ bif decide (n22 ≥ n11) then K (V.tup [V.nilp, V.int IntKind.i64 1]) s19 else ∃ o29 l30 v31, s19 i5 = some o29 ∧ objCells o29 = some l30 ∧ rd TK.sc l30 1 = some v31 ∧ ∃ i32, v31 = V.map i32 ∧ AC Tryz.prog 22 [V.agg [V.int IntKind.i64 n13, V.str t14, V.int IntKind.i64 n15, V.sl l16 c17]] s19 fun v33 s34 => s19.le s34 ∧ ∃ n35 t36 n37 l38 c39, v33 = V.agg [V.int IntKind.i64 n35, V.str t36, V.int IntKind.i64 n37, V.sl l38 c39] ∧ ∃ l40, s34 i32 = some (Obj.map l40) ∧ (∀ (x41 : V × V), x41 ∈ l40 → hasKK (KK.one (SK.int IntKind.i64)) x41.fst = true) ∧ s6 [V.int IntKind.i64 (IntKind.i64.wrap (n9 + 1))] (s34.upd i32 (Obj.map (mput l40 (V.int IntKind.i64 n11) (V.agg [V.int IntKind.i64 n12, V.int IntKind.i64 n35, V.str t36, V.int IntKind.i64 n37, V.sl l38 c39])))) else ∃ o42 l43 v44, s19 i5 = some o42 ∧ objCells o42 = some l43 ∧ rd TK.sc l43 1 = some v44 ∧ ∃ i45, v44 = V.map i45 ∧ AC Tryz.prog 22 [V.agg [V.int IntKind.i64 n13, V.str t14, V.int IntKind.i64 n15, V.sl l16 c17]] s19 fun v46 s47 => s19.le s47 ∧ ∃ n48 t49 n50 l51 c52, v46 = V.agg [V.int IntKind.i64 n48, V.str t49, V.int IntKind.i64 n50, V.sl l51 c52] ∧ ∃ l53, s47 i45 = some (Obj.map l53) ∧ (∀ (x54 : V × V), x54 ∈ l53 → hasKK (KK.one (SK.int IntKind.i64)) x54.fst = true) ∧ s6 [V.int IntKind.i64 (IntKind.i64.wrap (n9 + 1))] (s47.upd i45 (Obj.map (mput l53 (V.int IntKind.i64 n11) (V.agg [V.int IntKind.i64 n12, V.int IntKind.i64 n48, V.str t49, V.int IntKind.i64 n50, V.sl l51 c52])))) else K (V.tup [V.nilp, V.int IntKind.i64 1]) s19 else K (V.tup [V.ptr i5 0, V.int IntKind.i64 0]) s8) [V.int IntKind.i64 0] ((s1.upd i4 (Obj.map [])).upd i5 (Obj.cells [v2, V.map i4]))))) := by kernel_rfl
theorem ok_sof : okFn h_sof Tryz.f12 = true := by kernel_rfl
theorem fn_sof : Tryz.prog.funcs[12]? = some Tryz.f12 := by kernel_rfl
theorem ca_sof : callable Tryz.prog 12 = true := by kernel_rfl
abbrev n_spaths : Go.FuncId := 13
noncomputable def h_spaths : Hints := { n := 8, esc := fun _ => false, lr := fun _ => [], bx := fun _ => false, lc := fun _ => false, quiet := fun _ => false, order := fun _ => none, join := fun _ => none, carry := fun _ => [] }
noncomputable def s_spaths : Shapes := { carry := fun _ => [], res := fun _ => none }
theorem e_spaths (m : Nat) (s : Store) (K : V → Store → Prop) : tfun Tryz.prog h_spaths s_spaths Tryz.f13 [.ptr m 0] s K = ( ∃ o0 l1 v2, s m = some o0 ∧ objCells o0 = some l1 ∧ rd TK.sc l1 0 = some v2 ∧ ∃ i3, v2 = V.ptr i3 0 ∧ AC Tryz.prog 26 [V.ptr i3 0] s fun v4 s5 => ∃ l6 c7, v4 = V.sl l6 c7 ∧ K (V.sl l6 c7) s5) := by kernel_rfl
theorem ok_spaths : okFn h_spaths Tryz.f13 = true := by kernel_rfl
theorem fn_spaths : Tryz.prog.funcs[13]? = some Tryz.f13 := by kernel_rfl
theorem ca_spaths : callable Tryz.prog 13 = true := by kernel_rfl
abbrev n_ssess : Go.FuncId := 14
noncomputable def h_ssess : Hints := { n := 39, esc := fun _ => false, lr := fun _ => [], bx := fun _ => false, lc := fun _ => false, quiet := fun i => mem i [22], order := fun i => match i with | 5 => some [0, 1, 2, 3, 4, 5, 6, 7, 8, 9, 10, 11, 12, 13, 14, 15, 16, 17, 18, 19, 20] | _ => none, join := fun _ => none, carry := fun i => match i with | 3 => [3, 13] | _ => [] }
noncomputable def s_ssess : Shapes := { carry := fun i => match i with | 3 => [shA Tryz.prog 39, shA Tryz.prog 3] | _ => [], res := fun _ => none }
theorem e_ssess (m : Nat) (s : Store) (K : V → Store → Prop) : tfun Tryz.prog h_ssess s_ssess Tryz.f14 [.ptr m 0] s K = ( ∃ o0 l1 v2, s m = some o0 ∧ objCells o0 = some l1 ∧ rd TK.sc l1 1 = some v2 ∧ ∃ i3, v2 = V.map i3 ∧ AC Tryz.prog 28 [V.map i3] s fun v4 s5 => AC Tryz.prog 27 [v4] s5 fun v6 s7 => ∃ l8 c9, v6 = V.sl l8 c9 ∧ lfp (fun s10 l11 s12 => ∃ l13 c14 n15, l11 = [V.sl l13 c14, V.int IntKind.i64 n15] ∧ bif decide (n15 < (↑l8.length : Int)) then 0 ≤ n15 ∧ ∃ v16, l8[n15.toNat]? = some v16 ∧ ∃ n17, v16 = V.int IntKind.i64 n17 ∧ ∃ o18 l19 v20, s12 m = some o18 ∧ objCells o18 = some l19 ∧ rd TK.sc l19 1 = some v20 ∧ ∃ i21, v20 = V.map i21 ∧ ∃ l22, (s12 i21 = some (Obj.map l22) ∨ s12 i21 = some (Obj.mapr l22)) ∧ (∀ (x23 : V × V), x23 ∈ l22 → hasKK (KK.one (SK.int IntKind.i64)) x23.fst = true) ∧ ∃ v24, (mlook l22 (V.int IntKind.i64 n17)).getD (V.agg [V.int IntKind.i64 0, V.int IntKind.i64 0, V.str (ByteArray.mk #[]), V.int IntKind.i64 0, V.sl [] Cap.full]) = v24 ∧ ∃ n25 n26 t27 n28 l29 c30, v24 = V.agg [V.int IntKind.i64 n25, V.int IntKind.i64 n26, V.str t27, V.int IntKind.i64 n28, V.sl l29 c30] ∧ ∃ o31 l32 v33, s12 m = some o31 ∧ objCells o31 = some l32 ∧ rd TK.sc l32 1 = some v33 ∧ ∃ i34, v33 = V.map i34 ∧ ∃ l35, (s12 i34 = some (Obj.map l35) ∨ s12 i34 = some (Obj.mapr l35)) ∧ (∀ (x36 : V × V), x36 ∈ l35 → hasKK (KK.one (SK.int IntKind.i64)) x36.fst = true) ∧ ∃ v37, (mlook l35 (V.int IntKind.i64 n17)).getD (V.agg [V.int IntKind.i64 0, V.int IntKind.i64 0, V.str (ByteArray.mk #[]), V.int IntKind.i64 0, V.sl [] Cap.full]) = v37 ∧ ∃ n38 n39 t40 n41 l42 c43, v37 = V.agg [V.int IntKind.i64 n38, V.int IntKind.i64 n39, V.str t40, V.int IntKind.i64 n41, V.sl l42 c43] ∧ AC Tryz.prog 22 [V.agg [V.int IntKind.i64 n39, V.str t40, V.int IntKind.i64 n41, V.sl l42 c43]] s12 fun v44 s45 => s12.le s45 ∧ ∃ n46 t47 n48 l49 c50, v44 = V.agg [V.int IntKind.i64 n46, V.str t47, V.int IntKind.i64 n48, V.sl l49 c50] ∧ tapp 6 l13 c14 [V.agg [V.int IntKind.i64 n17, V.int IntKind.i64 n25, V.int IntKind.i64 n46, V.str t47, V.int IntKind.i64 n48, V.sl l49 c50]] s45 fun l51 c52 s53 => s10 [V.sl l51 c52, V.int IntKind.i64 (IntKind.i64.wrap (n15 + 1))] s53 else K (V.sl l13 c14) s12) [V.sl [] Cap.full, V.int IntKind.i64 0] s7) := by kernel_rfl
theorem ok_ssess : okFn h_ssess Tryz.f14 = true := by kernel_rfl
theorem fn_ssess : Tryz.prog.funcs[14]? = some Tryz.f14 := by kernel_rfl
theorem ca_ssess : callable Tryz.prog 14 = true := by kernel_rfl
abbrev n_sclone : Go.FuncId := 18
noncomputable def h_sclone : Hints := { n := 15, esc := fun i => mem i [14], lr := fun _ => [], bx := fun _ => false, lc := fun _ => false, quiet := fun i => mem i [30, 31], order := fun i => match i with | 1 => some [0, 1, 2, 3, 5, 6, 7, 8, 4, 9, 10, 11, 12] | _ => none, join := fun _ => none, carry := fun _ => [] }
noncomputable def s_sclone : Shapes := { carry := fun _ => [], res := fun _ => none }
theorem e_sclone (m : Nat) (s : Store) (K : V → Store → Prop) : tfun Tryz.prog h_sclone s_sclone Tryz.f18 [.ptr m 0] s K = ( ∃ o0 l1 v2, s m = some o0 ∧ objCells o0 = some l1 ∧ rd TK.sc l1 0 = some v2 ∧ ∃ i3, v2 = V.ptr i3 0 ∧ ∃ o4 l5 v6, s m = some o4 ∧ objCells o4 = some l5 ∧ rd TK.sc l5 1 = some v6 ∧ ∃ i7, v6 = V.map i7 ∧ AC Tryz.prog 30 [V.ptr i3 0] s fun v8 s9 => s.le s9 ∧ ∃ i10, v8 = V.ptr i10 0 ∧ AC Tryz.prog 31 [V.map i7] s9 fun v11 s12 => s9.le s12 ∧ ∃ i13, v11 = V.map i13 ∧ ∀ (i14 : Nat), s12 i14 = none → K (V.ptr i14 0) (s12.upd i14 (Obj.cells [V.ptr i10 0, V.map i13]))) := by kernel_rfl
theorem ok_sclone : okFn h_sclone Tryz.f18 = true := by kernel_rfl
theorem fn_sclone : Tryz.prog.funcs[18]? = some Tryz.f18 := by kernel_rfl
theorem ca_sclone : callable Tryz.prog 18 = true := by kernel_rfl
abbrev n_same9 : Go.FuncId := 15
noncomputable def h_same9 : Hints := { n := 25, esc := fun _ => false, lr := fun _ => [], bx := fun _ => false, lc := fun _ => false, quiet := fun _ => false, order := fun _ => none, join := fun _ => none, carry := fun _ => [] }
noncomputable def s_same9 : Shapes := { carry := fun _ => [], res := fun _ => none }
theorem e_same9 (m n : Nat) (s : Store) (K : V → Store → Prop) : tfun Tryz.prog h_same9 s_same9 Tryz.f15 [.ptr m 0, .ptr n 0] s K = ( AC Tryz.prog 13 [V.ptr m 0] s fun v0 s1 => ∃ l2 c3, v0 = V.sl l2 c3 ∧ AC Tryz.prog 13 [V.ptr n 0] s1 fun v4 s5 => ∃ l6 c7, v4 = V.sl l6 c7 ∧ AC Tryz.prog 19 [V.sl l2 c3, V.sl l6 c7] s5 fun v8 s9 => ∃ b10, v8 = V.bool b10 ∧ bif b10 then AC Tryz.prog 14 [V.ptr m 0] s9 fun v11 s12 => ∃ l13 c14, v11 = V.sl l13 c14 ∧ AC Tryz.prog 14 [V.ptr n 0] s12 fun v15 s16 => ∃ l17 c18, v15 = V.sl l17 c18 ∧ AC Tryz.prog 29 [V.sl l13 c14, V.sl l17 c18] s16 fun v19 s20 => ∃ b21, v19 = V.bool b21 ∧ K (V.bool b21) s20 else K (V.bool false) s9) := by kernel_rfl
theorem ok_same9 : okFn h_same9 Tryz.f15 = true := by kernel_rfl
theorem fn_same9 : Tryz.prog.funcs[15]? = some Tryz.f15 := by kernel_rfl
theorem ca_same9 : callable Tryz.prog 15 = true := by kernel_rfl
end Go.Proofs.YtdeondiigpidnaaGreat.Ab
end

section
set_option linter.unusedVariables false
set_option linter.unusedSimpArgs false
/- Normal forms of functions, printed by a program of mine; each is checked by the kernel. -/
namespace Go.Proofs.YtdeondiigpidnaaGreat.Ab
open Go Go.Proofs
set_option maxRecDepth 100000
set_option linter.unusedVariables false
set_option linter.unusedSectionVars false
variable [Fwd]
abbrev n_join : Go.FuncId := 62
theorem ca_join : callable Tryz.prog 62 = true := by kernel_rfl
abbrev n_scompare : Go.FuncId := 60
theorem ca_scompare : callable Tryz.prog 60 = true := by kernel_rfl
abbrev n_indexbyte : Go.FuncId := 75
theorem ca_indexbyte : callable Tryz.prog 75 = true := by kernel_rfl
abbrev n_cutprefix : Go.FuncId := 74
theorem ca_cutprefix : callable Tryz.prog 74 = true := by kernel_rfl
abbrev n_cmpfunc : Go.FuncId := 59
noncomputable def h_cmpfunc : Hints := { n := 39, esc := fun _ => false, lr := fun _ => [], bx := fun _ => false, lc := fun _ => false, quiet := fun _ => false, order := fun _ => none, join := fun _ => none, carry := fun i => match i with | 2 => [13] | _ => [] }
noncomputable def s_cmpfunc : Shapes := { carry := fun i => match i with | 2 => [shA Tryz.prog 3] | _ => [], res := fun _ => none }
theorem e_cmpfunc (a b : List Bytes) (k k2 : Cap) (s : Store) (K : V → Store → Prop) : tfun Tryz.prog h_cmpfunc s_cmpfunc Tryz.f59 [strs a k, strs b k2, .fn (.func 60) [] []] s K = ( lfp (fun s0 l1 s2 => ∃ n3, l1 = [V.int IntKind.i64 n3] ∧ bif decide (n3 < (↑(List.map vstr a).length : Int)) then 0 ≤ n3 ∧ ∃ v4, (List.map vstr a)[n3.toNat]? = some v4 ∧ ∃ t5, v4 = V.str t5 ∧ bif decide (n3 ≥ (↑(List.map vstr b).length : Int)) then K (V.int IntKind.i64 1) s2 else 0 ≤ n3 ∧ ∃ v6, (List.map vstr b)[n3.toNat]? = some v6 ∧ ∃ t7, v6 = V.str t7 ∧ ∃ i8 l9 l10, V.fn (Fn.func 60) [] [] = V.fn (Fn.func i8) l9 l10 ∧ AC Tryz.prog i8 (l9 ++ [V.str t5, V.str t7] ++ l10) s2 fun v11 s12 => ∃ n13, v11 = V.int IntKind.i64 n13 ∧ bif n13 != 0 then K (V.int IntKind.i64 n13) s12 else s0 [V.int IntKind.i64 (IntKind.i64.wrap (n3 + 1))] s12 else bif decide ((↑(List.map vstr a).length : Int) < (↑(List.map vstr b).length : Int)) then K (V.int IntKind.i64 (-1)) s2 else K (V.int IntKind.i64 0) s2) [V.int IntKind.i64 0] s) := by kernel_rfl
theorem ok_cmpfunc : okFn h_cmpfunc Tryz.f59 = true := by kernel_rfl
theorem fn_cmpfunc : Tryz.prog.funcs[59]? = some Tryz.f59 := by kernel_rfl
theorem ca_cmpfunc : callable Tryz.prog 59 = true := by kernel_rfl
abbrev n_valid : Go.FuncId := 17
noncomputable def h_valid : Hints := { n := 21, esc := fun _ => false, lr := fun i => match i with | 1 => [3, 7, 12, 17] | _ => [], bx := fun i => mem i [1], lc := fun _ => false, quiet := fun _ => false, order := fun _ => none, join := fun _ => none, carry := fun _ => [] }
noncomputable def s_valid : Shapes := { carry := fun _ => [], res := fun _ => none }
theorem e_valid (c : Cmd) (s : Store) (K : V → Store → Prop) : tfun Tryz.prog h_valid s_valid Tryz.f17 [c.enc] s K = ( bif decide (0 ≤ c.client) then bif decide (c.client ≤ 1099511627776) then bif decide (1 ≤ c.seq) then K (V.bool (decide (c.seq ≤ 1099511627776))) s else K (V.bool false) s else K (V.bool false) s else K (V.bool false) s) := by kernel_rfl
theorem ok_valid : okFn h_valid Tryz.f17 = true := by kernel_rfl
theorem fn_valid : Tryz.prog.funcs[17]? = some Tryz.f17 := by kernel_rfl
theorem ca_valid : callable Tryz.prog 17 = true := by kernel_rfl
abbrev n_control : Go.FuncId := 23
noncomputable def h_control : Hints := { n := 11, esc := fun _ => false, lr := fun i => match i with | 1 => [3, 7] | _ => [], bx := fun i => mem i [1], lc := fun _ => false, quiet := fun _ => false, order := fun _ => none, join := fun _ => none, carry := fun _ => [] }
noncomputable def s_control : Shapes := { carry := fun _ => [], res := fun _ => none }
theorem e_control (c : Cmd) (s : Store) (K : V → Store → Prop) : tfun Tryz.prog h_control s_control Tryz.f23 [c.enc] s K = ( bif decide (7 ≤ c.op) then K (V.bool (decide (c.op ≤ 9))) s else K (V.bool false) s) := by kernel_rfl
theorem ok_control : okFn h_control Tryz.f23 = true := by kernel_rfl
theorem fn_control : Tryz.prog.funcs[23]? = some Tryz.f23 := by kernel_rfl
theorem ca_control : callable Tryz.prog 23 = true := by kernel_rfl
abbrev n_over : Go.FuncId := 9
noncomputable def h_over : Hints := { n := 33, esc := fun _ => false, lr := fun _ => [], bx := fun _ => false, lc := fun _ => false, quiet := fun _ => false, order := fun _ => none, join := fun _ => none, carry := fun i => match i with | 2 => [3] | _ => [] }
noncomputable def s_over : Shapes := { carry := fun i => match i with | 2 => [shA Tryz.prog 3] | _ => [], res := fun _ => none }
theorem e_over (l : List Cmd) (k : Cap) (s : Store) (K : V → Store → Prop) : tfun Tryz.prog h_over s_over Tryz.f9 [.sl (l.map Cmd.enc) k] s K = ( lfp (fun s0 l1 s2 => ∃ n3, l1 = [V.int IntKind.i64 n3] ∧ bif decide (n3 < (↑(List.map Cmd.enc l).length : Int)) then bif decide (n3 ≤ 60) then 0 ≤ n3 ∧ ∃ v4, (List.map Cmd.enc l)[n3.toNat]? = some v4 ∧ ∃ n5 n6 n7 t8 t9 n10 n11 n12, v4 = V.agg [V.int IntKind.i64 n5, V.int IntKind.i64 n6, V.int IntKind.i64 n7, V.str t8, V.str t9, V.int IntKind.i64 n10, V.int IntKind.i64 n11, V.int IntKind.i64 n12] ∧ bif !decide ((↑t8.size : Int) > 300) then 0 ≤ n3 ∧ ∃ v13, (List.map Cmd.enc l)[n3.toNat]? = some v13 ∧ ∃ n14 n15 n16 t17 t18 n19 n20 n21, v13 = V.agg [V.int IntKind.i64 n14, V.int IntKind.i64 n15, V.int IntKind.i64 n16, V.str t17, V.str t18, V.int IntKind.i64 n19, V.int IntKind.i64 n20, V.int IntKind.i64 n21] ∧ bif decide ((↑t18.size : Int) > 300) then K (V.bool true) s2 else s0 [V.int IntKind.i64 (IntKind.i64.wrap (n3 + 1))] s2 else K (V.bool true) s2 else K (V.bool (decide ((↑(List.map Cmd.enc l).length : Int) > 60))) s2 else K (V.bool (decide ((↑(List.map Cmd.enc l).length : Int) > 60))) s2) [V.int IntKind.i64 0] s) := by kernel_rfl
theorem ok_over : okFn h_over Tryz.f9 = true := by kernel_rfl
theorem fn_over : Tryz.prog.funcs[9]? = some Tryz.f9 := by kernel_rfl
theorem ca_over : callable Tryz.prog 9 = true := by kernel_rfl
abbrev n_same : Go.FuncId := 16
noncomputable def h_same : Hints := { n := 52, esc := fun _ => false, lr := fun i => match i with | 2 => [6, 12, 19, 26, 35, 41] | 3 => [8, 14, 21, 29, 46] | _ => [], bx := fun i => mem i [2, 3], lc := fun i => mem i [2, 3, 6, 8, 12, 14, 19, 21, 26, 29, 35, 41, 46], quiet := fun _ => false, order := fun i => match i with | 6 => some [0, 1, 2, 3, 4, 5, 6, 7, 8, 9, 10] | _ => none, join := fun _ => none, carry := fun i => match i with | 4 => [5] | _ => [] }
noncomputable def s_same : Shapes := { carry := fun i => match i with | 4 => [shA Tryz.prog 3] | _ => [], res := fun _ => none }
theorem e_same (a b : Reply) (k k2 : Cap) (s : Store) (K : V → Store → Prop) : tfun Tryz.prog h_same s_same Tryz.f16 [a.enc k, b.enc k2] s K = ( bif !a.err != b.err then bif !!(bs a.value).toList == (bs b.value).toList then bif !a.version != b.version then bif (↑(List.map vstr a.names).length : Int) != (↑(List.map vstr b.names).length : Int) then K (V.bool false) s else lfp (fun s0 l1 s2 => ∃ n3, l1 = [V.int IntKind.i64 n3] ∧ bif decide (n3 < (↑(List.map vstr a.names).length : Int)) then 0 ≤ n3 ∧ ∃ v4, (List.map vstr a.names)[n3.toNat]? = some v4 ∧ ∃ t5, v4 = V.str t5 ∧ 0 ≤ n3 ∧ ∃ v6, (List.map vstr b.names)[n3.toNat]? = some v6 ∧ ∃ t7, v6 = V.str t7 ∧ bif !t5.toList == t7.toList then K (V.bool false) s2 else s0 [V.int IntKind.i64 (IntKind.i64.wrap (n3 + 1))] s2 else K (V.bool true) s2) [V.int IntKind.i64 0] s else K (V.bool false) s else K (V.bool false) s else K (V.bool false) s) := by kernel_rfl
theorem ok_same : okFn h_same Tryz.f16 = true := by kernel_rfl
theorem fn_same : Tryz.prog.funcs[16]? = some Tryz.f16 := by kernel_rfl
theorem ca_same : callable Tryz.prog 16 = true := by kernel_rfl
abbrev n_row : Go.FuncId := 19
noncomputable def h_row : Hints := { n := 26, esc := fun _ => false, lr := fun _ => [], bx := fun _ => false, lc := fun _ => false, quiet := fun _ => false, order := fun i => match i with | 6 => some [0, 1, 2, 3, 4, 5, 6, 7, 8] | _ => none, join := fun _ => none, carry := fun i => match i with | 4 => [5] | _ => [] }
noncomputable def s_row : Shapes := { carry := fun i => match i with | 4 => [shA Tryz.prog 3] | _ => [], res := fun _ => none }
theorem e_row (a b : List Entry) (k k2 : Cap) (s : Store) (K : V → Store → Prop) : tfun Tryz.prog h_row s_row Tryz.f19 [.sl (a.map Entry.enc) k, .sl (b.map Entry.enc) k2] s K = ( bif (↑(List.map Entry.enc a).length : Int) != (↑(List.map Entry.enc b).length : Int) then K (V.bool false) s else lfp (fun s0 l1 s2 => ∃ n3, l1 = [V.int IntKind.i64 n3] ∧ bif decide (n3 < (↑(List.map Entry.enc a).length : Int)) then 0 ≤ n3 ∧ ∃ v4, (List.map Entry.enc a)[n3.toNat]? = some v4 ∧ ∃ t5 t6 n7, v4 = V.agg [V.str t5, V.str t6, V.int IntKind.i64 n7] ∧ 0 ≤ n3 ∧ ∃ v8, (List.map Entry.enc b)[n3.toNat]? = some v8 ∧ ∃ t9 t10 n11, v8 = V.agg [V.str t9, V.str t10, V.int IntKind.i64 n11] ∧ bif !keqL [V.str t5, V.str t6, V.int IntKind.i64 n7] [V.str t9, V.str t10, V.int IntKind.i64 n11] then K (V.bool false) s2 else s0 [V.int IntKind.i64 (IntKind.i64.wrap (n3 + 1))] s2 else K (V.bool true) s2) [V.int IntKind.i64 0] s) := by kernel_rfl
theorem ok_row : okFn h_row Tryz.f19 = true := by kernel_rfl
theorem fn_row : Tryz.prog.funcs[19]? = some Tryz.f19 := by kernel_rfl
theorem ca_row : callable Tryz.prog 19 = true := by kernel_rfl
abbrev n_srow : Go.FuncId := 29
noncomputable def h_srow : Hints := { n := 57, esc := fun _ => false, lr := fun _ => [], bx := fun _ => false, lc := fun _ => false, quiet := fun i => mem i [16], order := fun i => match i with | 6 => some [0, 1, 2, 3, 4, 5, 6, 7, 8, 9, 10, 11] | 7 => some [0, 1, 2, 3, 4, 5, 6, 7, 8, 9, 10, 11, 12, 13, 14, 15, 16, 17, 18, 19, 20, 21, 22, 23, 24, 25, 26, 27] | _ => none, join := fun _ => none, carry := fun i => match i with | 4 => [5] | _ => [] }
noncomputable def s_srow : Shapes := { carry := fun i => match i with | 4 => [shA Tryz.prog 3] | _ => [], res := fun _ => none }
theorem e_srow (a b : List Sess) (k k2 : Cap) (s : Store) (K : V → Store → Prop) : tfun Tryz.prog h_srow s_srow Tryz.f29 [.sl (a.map Sess.enc) k, .sl (b.map Sess.enc) k2] s K = ( bif (↑(List.map Sess.enc a).length : Int) != (↑(List.map Sess.enc b).length : Int) then K (V.bool false) s else lfp (fun s0 l1 s2 => ∃ n3, l1 = [V.int IntKind.i64 n3] ∧ bif decide (n3 < (↑(List.map Sess.enc a).length : Int)) then 0 ≤ n3 ∧ ∃ v4, (List.map Sess.enc a)[n3.toNat]? = some v4 ∧ ∃ n5 n6 n7 t8 n9 l10 c11, v4 = V.agg [V.int IntKind.i64 n5, V.int IntKind.i64 n6, V.int IntKind.i64 n7, V.str t8, V.int IntKind.i64 n9, V.sl l10 c11] ∧ 0 ≤ n3 ∧ ∃ v12, (List.map Sess.enc b)[n3.toNat]? = some v12 ∧ ∃ n13 n14 n15 t16 n17 l18 c19, v12 = V.agg [V.int IntKind.i64 n13, V.int IntKind.i64 n14, V.int IntKind.i64 n15, V.str t16, V.int IntKind.i64 n17, V.sl l18 c19] ∧ AC Tryz.prog 16 [V.agg [V.int IntKind.i64 n7, V.str t8, V.int IntKind.i64 n9, V.sl l10 c11], V.agg [V.int IntKind.i64 n15, V.str t16, V.int IntKind.i64 n17, V.sl l18 c19]] s2 fun v20 s21 => s2.le s21 ∧ ∃ b22, v20 = V.bool b22 ∧ 0 ≤ n3 ∧ ∃ v23, (List.map Sess.enc a)[n3.toNat]? = some v23 ∧ ∃ n24 n25 n26 t27 n28 l29 c30, v23 = V.agg [V.int IntKind.i64 n24, V.int IntKind.i64 n25, V.int IntKind.i64 n26, V.str t27, V.int IntKind.i64 n28, V.sl l29 c30] ∧ 0 ≤ n3 ∧ ∃ v31, (List.map Sess.enc b)[n3.toNat]? = some v31 ∧ ∃ n32 n33 n34 t35 n36 l37 c38, v31 = V.agg [V.int IntKind.i64 n32, V.int IntKind.i64 n33, V.int IntKind.i64 n34, V.str t35, V.int IntKind.i64 n36, V.sl l37 c38] ∧ bif !n24 != n32 then 0 ≤ n3 ∧ ∃ v39, (List.map Sess.enc a)[n3.toNat]? = some v39 ∧ ∃ n40 n41 n42 t43 n44 l45 c46, v39 = V.agg [V.int IntKind.i64 n40, V.int IntKind.i64 n41, V.int IntKind.i64 n42, V.str t43, V.int IntKind.i64 n44, V.sl l45 c46] ∧ 0 ≤ n3 ∧ ∃ v47, (List.map Sess.enc b)[n3.toNat]? = some v47 ∧ ∃ n48 n49 n50 t51 n52 l53 c54, v47 = V.agg [V.int IntKind.i64 n48, V.int IntKind.i64 n49, V.int IntKind.i64 n50, V.str t51, V.int IntKind.i64 n52, V.sl l53 c54] ∧ bif !n41 != n49 then bif !b22 then K (V.bool false) s21 else s0 [V.int IntKind.i64 (IntKind.i64.wrap (n3 + 1))] s21 else K (V.bool false) s21 else K (V.bool false) s21 else K (V.bool true) s2) [V.int IntKind.i64 0] s) := by kernel_rfl
theorem ok_srow : okFn h_srow Tryz.f29 = true := by kernel_rfl
theorem fn_srow : Tryz.prog.funcs[29]? = some Tryz.f29 := by kernel_rfl
theorem ca_srow : callable Tryz.prog 29 = true := by kernel_rfl
abbrev n_right : Go.FuncId := 35
noncomputable def h_right : Hints := { n := 53, esc := fun _ => false, lr := fun i => match i with | 1 => [5, 9, 14, 18, 22, 27, 31, 38, 48] | _ => [], bx := fun i => mem i [1], lc := fun _ => false, quiet := fun _ => false, order := fun _ => none, join := fun _ => none, carry := fun _ => [] }
noncomputable def s_right : Shapes := { carry := fun _ => [], res := fun _ => none }
theorem e_right (c : Cmd) (s : Store) (K : V → Store → Prop) : tfun Tryz.prog h_right s_right Tryz.f35 [c.enc] s K = ( bif !c.op == 1 then bif !c.op == 3 then bif !c.op == 2 then bif !c.op == 3 then AC Tryz.prog 57 [V.str (bs c.path)] s fun v0 s1 => ∃ b2, v0 = V.bool b2 ∧ bif b2 then bif !!c.op == 6 then bif decide ((↑(bs c.value).size : Int) ≤ 64) then bif !!c.op == 6 then K (V.bool !(bs c.path).toList == (ByteArray.mk #[47]).toList) s1 else K (V.bool true) s1 else K (V.bool false) s1 else bif !!c.op == 6 then K (V.bool !(bs c.path).toList == (ByteArray.mk #[47]).toList) s1 else K (V.bool true) s1 else K (V.bool false) s1 else AC Tryz.prog 57 [V.str (bs c.path)] s fun v3 s4 => ∃ b5, v3 = V.bool b5 ∧ bif b5 then bif !!c.op == 6 then bif decide ((↑(bs c.value).size : Int) ≤ 64) then K (V.bool !(bs c.path).toList == (ByteArray.mk #[47]).toList) s4 else K (V.bool false) s4 else K (V.bool !(bs c.path).toList == (ByteArray.mk #[47]).toList) s4 else K (V.bool false) s4 else AC Tryz.prog 57 [V.str (bs c.path)] s fun v6 s7 => ∃ b8, v6 = V.bool b8 ∧ bif b8 then bif !!c.op == 6 then bif decide ((↑(bs c.value).size : Int) ≤ 64) then K (V.bool !(bs c.path).toList == (ByteArray.mk #[47]).toList) s7 else K (V.bool false) s7 else K (V.bool !(bs c.path).toList == (ByteArray.mk #[47]).toList) s7 else K (V.bool false) s7 else bif !c.op == 2 then bif !c.op == 3 then AC Tryz.prog 57 [V.str (bs c.path)] s fun v9 s10 => ∃ b11, v9 = V.bool b11 ∧ bif b11 then bif decide ((↑(bs c.value).size : Int) ≤ 64) then bif !!c.op == 6 then K (V.bool !(bs c.path).toList == (ByteArray.mk #[47]).toList) s10 else K (V.bool true) s10 else K (V.bool false) s10 else K (V.bool false) s10 else AC Tryz.prog 57 [V.str (bs c.path)] s fun v12 s13 => ∃ b14, v12 = V.bool b14 ∧ bif b14 then bif decide ((↑(bs c.value).size : Int) ≤ 64) then K (V.bool !(bs c.path).toList == (ByteArray.mk #[47]).toList) s13 else K (V.bool false) s13 else K (V.bool false) s13 else AC Tryz.prog 57 [V.str (bs c.path)] s fun v15 s16 => ∃ b17, v15 = V.bool b17 ∧ bif b17 then bif decide ((↑(bs c.value).size : Int) ≤ 64) then K (V.bool !(bs c.path).toList == (ByteArray.mk #[47]).toList) s16 else K (V.bool false) s16 else K (V.bool false) s16 else bif !c.op == 2 then bif !c.op == 3 then AC Tryz.prog 57 [V.str (bs c.path)] s fun v18 s19 => ∃ b20, v18 = V.bool b20 ∧ bif b20 then bif decide ((↑(bs c.value).size : Int) ≤ 64) then bif !!c.op == 6 then K (V.bool !(bs c.path).toList == (ByteArray.mk #[47]).toList) s19 else K (V.bool true) s19 else K (V.bool false) s19 else K (V.bool false) s19 else AC Tryz.prog 57 [V.str (bs c.path)] s fun v21 s22 => ∃ b23, v21 = V.bool b23 ∧ bif b23 then bif decide ((↑(bs c.value).size : Int) ≤ 64) then K (V.bool !(bs c.path).toList == (ByteArray.mk #[47]).toList) s22 else K (V.bool false) s22 else K (V.bool false) s22 else AC Tryz.prog 57 [V.str (bs c.path)] s fun v24 s25 => ∃ b26, v24 = V.bool b26 ∧ bif b26 then bif decide ((↑(bs c.value).size : Int) ≤ 64) then K (V.bool !(bs c.path).toList == (ByteArray.mk #[47]).toList) s25 else K (V.bool false) s25 else K (V.bool false) s25) := by kernel_rfl
theorem ok_right : okFn h_right Tryz.f35 = true := by kernel_rfl
theorem fn_right : Tryz.prog.funcs[35]? = some Tryz.f35 := by kernel_rfl
theorem ca_right : callable Tryz.prog 35 = true := by kernel_rfl
abbrev n_no : Go.FuncId := 36
noncomputable def h_no : Hints := { n := 5, esc := fun _ => false, lr := fun _ => [], bx := fun i => mem i [2], lc := fun _ => false, quiet := fun _ => false, order := fun _ => none, join := fun _ => none, carry := fun _ => [] }
noncomputable def s_no : Shapes := { carry := fun _ => [], res := fun _ => none }
theorem e_no (e : Int) (s : Store) (K : V → Store → Prop) : tfun Tryz.prog h_no s_no Tryz.f36 [.int .i64 e] s K = ( K (V.agg [V.int IntKind.i64 e, V.str (ByteArray.mk #[]), V.int IntKind.i64 0, V.sl [] Cap.full]) s) := by kernel_rfl
theorem ok_no : okFn h_no Tryz.f36 = true := by kernel_rfl
theorem fn_no : Tryz.prog.funcs[36]? = some Tryz.f36 := by kernel_rfl
theorem ca_no : callable Tryz.prog 36 = true := by kernel_rfl
abbrev n_own : Go.FuncId := 22
noncomputable def h_own : Hints := { n := 8, esc := fun _ => false, lr := fun i => match i with | 1 => [3, 6] | _ => [], bx := fun i => mem i [1, 2], lc := fun _ => false, quiet := fun _ => false, order := fun _ => none, join := fun _ => none, carry := fun _ => [] }
noncomputable def s_own : Shapes := { carry := fun _ => [], res := fun _ => none }
theorem e_own (r : Reply) (k : Cap) (s : Store) (K : V → Store → Prop) : tfun Tryz.prog h_own s_own Tryz.f22 [r.enc k] s K = ( AC Tryz.prog 33 [V.sl (List.map vstr r.names) k] s fun v0 s1 => ∃ l2 c3, v0 = V.sl l2 c3 ∧ K (V.agg [V.int IntKind.i64 r.err, V.str (bs r.value), V.int IntKind.i64 r.version, V.sl l2 c3]) s1) := by kernel_rfl
theorem ok_own : okFn h_own Tryz.f22 = true := by kernel_rfl
theorem fn_own : Tryz.prog.funcs[22]? = some Tryz.f22 := by kernel_rfl
theorem ca_own : callable Tryz.prog 22 = true := by kernel_rfl
abbrev n_clone : Go.FuncId := 33
noncomputable def h_clone : Hints := { n := 8, esc := fun _ => false, lr := fun _ => [], bx := fun _ => false, lc := fun _ => false, quiet := fun _ => false, order := fun _ => none, join := fun _ => none, carry := fun _ => [] }
noncomputable def s_clone : Shapes := { carry := fun _ => [], res := fun _ => none }
theorem e_clone (l : List Bytes) (k : Cap) (s : Store) (K : V → Store → Prop) : tfun Tryz.prog h_clone s_clone Tryz.f33 [strs l k] s K = ( ∀ (b0 : Bool), (List.map vstr l ≠ [] → b0 = false) → bif b0 then K (V.sl [] Cap.full) s else tapp 1 [] Cap.full (List.map vstr l) s fun l1 c2 s3 => K (V.sl l1 c2) s3) := by kernel_rfl
theorem ok_clone : okFn h_clone Tryz.f33 = true := by kernel_rfl
theorem fn_clone : Tryz.prog.funcs[33]? = some Tryz.f33 := by kernel_rfl
theorem ca_clone : callable Tryz.prog 33 = true := by kernel_rfl
abbrev n_name : Go.FuncId := 76
noncomputable def h_name : Hints := { n := 39, esc := fun _ => false, lr := fun _ => [], bx := fun _ => false, lc := fun _ => false, quiet := fun _ => false, order := fun _ => none, join := fun _ => none, carry := fun i => match i with | 2 => [7] | _ => [] }
noncomputable def s_name : Shapes := { carry := fun i => match i with | 2 => [shA Tryz.prog 3] | _ => [], res := fun _ => none }
theorem e_name (t : Bytes) (s : Store) (K : V → Store → Prop) : tfun Tryz.prog h_name s_name Tryz.f76 [.str (bs t)] s K = ( lfp (fun s0 l1 s2 => ∃ n3, l1 = [V.int IntKind.i64 n3] ∧ bif decide (n3 < (↑(bs t).size : Int)) then 0 ≤ n3 ∧ ∃ u4, (bs t)[n3.toNat]? = some u4 ∧ bif decide (97 ≤ (↑u4.toNat : Int)) then bif decide ((↑u4.toNat : Int) ≤ 122) then bif decide ((↑u4.toNat : Int) ≤ 122) then s0 [V.int IntKind.i64 (IntKind.i64.wrap (n3 + 1))] s2 else K (V.bool false) s2 else bif decide (48 ≤ (↑u4.toNat : Int)) then bif decide ((↑u4.toNat : Int) ≤ 57) then bif decide ((↑u4.toNat : Int) ≤ 57) then s0 [V.int IntKind.i64 (IntKind.i64.wrap (n3 + 1))] s2 else K (V.bool false) s2 else bif (↑u4.toNat : Int) == 45 then bif (↑u4.toNat : Int) == 45 then s0 [V.int IntKind.i64 (IntKind.i64.wrap (n3 + 1))] s2 else K (V.bool false) s2 else bif (↑u4.toNat : Int) == 95 then s0 [V.int IntKind.i64 (IntKind.i64.wrap (n3 + 1))] s2 else K (V.bool false) s2 else bif (↑u4.toNat : Int) == 45 then bif (↑u4.toNat : Int) == 45 then s0 [V.int IntKind.i64 (IntKind.i64.wrap (n3 + 1))] s2 else K (V.bool false) s2 else bif (↑u4.toNat : Int) == 95 then s0 [V.int IntKind.i64 (IntKind.i64.wrap (n3 + 1))] s2 else K (V.bool false) s2 else bif decide (48 ≤ (↑u4.toNat : Int)) then bif decide ((↑u4.toNat : Int) ≤ 57) then bif decide ((↑u4.toNat : Int) ≤ 57) then s0 [V.int IntKind.i64 (IntKind.i64.wrap (n3 + 1))] s2 else K (V.bool false) s2 else bif (↑u4.toNat : Int) == 45 then bif (↑u4.toNat : Int) == 45 then s0 [V.int IntKind.i64 (IntKind.i64.wrap (n3 + 1))] s2 else K (V.bool false) s2 else bif (↑u4.toNat : Int) == 95 then s0 [V.int IntKind.i64 (IntKind.i64.wrap (n3 + 1))] s2 else K (V.bool false) s2 else bif (↑u4.toNat : Int) == 45 then bif (↑u4.toNat : Int) == 45 then s0 [V.int IntKind.i64 (IntKind.i64.wrap (n3 + 1))] s2 else K (V.bool false) s2 else bif (↑u4.toNat : Int) == 95 then s0 [V.int IntKind.i64 (IntKind.i64.wrap (n3 + 1))] s2 else K (V.bool false) s2 else bif decide (0 < (↑(bs t).size : Int)) then K (V.bool (decide ((↑(bs t).size : Int) ≤ 16))) s2 else K (V.bool false) s2) [V.int IntKind.i64 0] s) := by kernel_rfl
theorem ok_name : okFn h_name Tryz.f76 = true := by kernel_rfl
theorem fn_name : Tryz.prog.funcs[76]? = some Tryz.f76 := by kernel_rfl
theorem ca_name : callable Tryz.prog 76 = true := by kernel_rfl
abbrev n_split : Go.FuncId := 58
noncomputable def h_split : Hints := { n := 51, esc := fun _ => false, lr := fun _ => [], bx := fun _ => false, lc := fun _ => false, quiet := fun _ => false, order := fun _ => none, join := fun _ => none, carry := fun i => match i with | 4 => [0, 4] | _ => [] }
noncomputable def s_split : Shapes := { carry := fun i => match i with | 4 => [shA Tryz.prog 9, shA Tryz.prog 28] | _ => [], res := fun _ => none }
theorem e_split (t : Bytes) (s : Store) (K : V → Store → Prop) : tfun Tryz.prog h_split s_split Tryz.f58 [.str (bs t)] s K = ( bif (bs t).toList == (ByteArray.mk #[47]).toList then K (V.tup [V.sl [] Cap.full, V.bool true]) s else lfp (fun s0 l1 s2 => ∃ t3 l4 c5, l1 = [V.str t3, V.sl l4 c5] ∧ bif !t3.toList == (ByteArray.mk #[]).toList then AC Tryz.prog 74 [V.str t3, V.str (ByteArray.mk #[47])] s2 fun v6 s7 => ∃ t8 b9, v6 = V.tup [V.str t8, V.bool b9] ∧ bif !b9 then K (V.tup [V.sl [] Cap.full, V.bool false]) s7 else AC Tryz.prog 75 [V.str t8, V.int IntKind.u8 47] s7 fun v10 s11 => ∃ n12, v10 = V.int IntKind.i64 n12 ∧ bif decide (n12 < 0) then 0 ≤ (↑t8.size : Int) ∧ (↑t8.size : Int) ≤ (↑t8.size : Int) ∧ tapp 1 l4 c5 [V.str (t8.extract 0 (↑t8.size : Int).toNat)] s11 fun l13 c14 s15 => 0 ≤ (↑t8.size : Int) ∧ (↑t8.size : Int) ≤ (↑t8.size : Int) ∧ bif !decide ((↑l13.length : Int) > 8) then 0 ≤ IntKind.i64.wrap ((↑l13.length : Int) - 1) ∧ ∃ v16, l13[(IntKind.i64.wrap ((↑l13.length : Int) - 1)).toNat]? = some v16 ∧ ∃ t17, v16 = V.str t17 ∧ AC Tryz.prog 76 [V.str t17] s15 fun v18 s19 => ∃ b20, v18 = V.bool b20 ∧ bif !b20 then K (V.tup [V.sl [] Cap.full, V.bool false]) s19 else s0 [V.str (t8.extract (↑t8.size : Int).toNat t8.size), V.sl l13 c14] s19 else K (V.tup [V.sl [] Cap.full, V.bool false]) s15 else 0 ≤ n12 ∧ n12 ≤ (↑t8.size : Int) ∧ tapp 1 l4 c5 [V.str (t8.extract 0 n12.toNat)] s11 fun l21 c22 s23 => 0 ≤ n12 ∧ n12 ≤ (↑t8.size : Int) ∧ bif !decide ((↑l21.length : Int) > 8) then 0 ≤ IntKind.i64.wrap ((↑l21.length : Int) - 1) ∧ ∃ v24, l21[(IntKind.i64.wrap ((↑l21.length : Int) - 1)).toNat]? = some v24 ∧ ∃ t25, v24 = V.str t25 ∧ AC Tryz.prog 76 [V.str t25] s23 fun v26 s27 => ∃ b28, v26 = V.bool b28 ∧ bif !b28 then K (V.tup [V.sl [] Cap.full, V.bool false]) s27 else s0 [V.str (t8.extract n12.toNat t8.size), V.sl l21 c22] s27 else K (V.tup [V.sl [] Cap.full, V.bool false]) s23 else K (V.tup [V.sl l4 c5, V.bool (decide ((↑l4.length : Int) > 0))]) s2) [V.str (bs t), V.sl [] Cap.full] s) := by kernel_rfl
theorem ok_split : okFn h_split Tryz.f58 = true := by kernel_rfl
theorem fn_split : Tryz.prog.funcs[58]? = some Tryz.f58 := by kernel_rfl
theorem ca_split : callable Tryz.prog 58 = true := by kernel_rfl
abbrev n_pvalid : Go.FuncId := 57
noncomputable def h_pvalid : Hints := { n := 11, esc := fun _ => false, lr := fun _ => [], bx := fun _ => false, lc := fun _ => false, quiet := fun _ => false, order := fun _ => none, join := fun _ => none, carry := fun _ => [] }
noncomputable def s_pvalid : Shapes := { carry := fun _ => [], res := fun _ => none }
theorem e_pvalid (t : Bytes) (s : Store) (K : V → Store → Prop) : tfun Tryz.prog h_pvalid s_pvalid Tryz.f57 [.str (bs t)] s K = ( AC Tryz.prog 58 [V.str (bs t)] s fun v0 s1 => ∃ l2 c3 b4, v0 = V.tup [V.sl l2 c3, V.bool b4] ∧ K (V.bool b4) s1) := by kernel_rfl
theorem ok_pvalid : okFn h_pvalid Tryz.f57 = true := by kernel_rfl
theorem fn_pvalid : Tryz.prog.funcs[57]? = some Tryz.f57 := by kernel_rfl
theorem ca_pvalid : callable Tryz.prog 57 = true := by kernel_rfl
abbrev n_depth : Go.FuncId := 39
noncomputable def h_depth : Hints := { n := 14, esc := fun _ => false, lr := fun _ => [], bx := fun _ => false, lc := fun _ => false, quiet := fun _ => false, order := fun _ => none, join := fun _ => none, carry := fun _ => [] }
noncomputable def s_depth : Shapes := { carry := fun _ => [], res := fun _ => none }
theorem e_depth (t : Bytes) (s : Store) (K : V → Store → Prop) : tfun Tryz.prog h_depth s_depth Tryz.f39 [.str (bs t)] s K = ( AC Tryz.prog 58 [V.str (bs t)] s fun v0 s1 => ∃ l2 c3 b4, v0 = V.tup [V.sl l2 c3, V.bool b4] ∧ bif !b4 then K (V.int IntKind.i64 (-1)) s1 else K (V.int IntKind.i64 (↑l2.length : Int)) s1) := by kernel_rfl
theorem ok_depth : okFn h_depth Tryz.f39 = true := by kernel_rfl
theorem fn_depth : Tryz.prog.funcs[39]? = some Tryz.f39 := by kernel_rfl
theorem ca_depth : callable Tryz.prog 39 = true := by kernel_rfl
abbrev n_less : Go.FuncId := 40
noncomputable def h_less : Hints := { n := 29, esc := fun _ => false, lr := fun _ => [], bx := fun _ => false, lc := fun _ => false, quiet := fun _ => false, order := fun _ => none, join := fun _ => none, carry := fun _ => [] }
noncomputable def s_less : Shapes := { carry := fun _ => [], res := fun _ => none }
theorem e_less (p q : Bytes) (s : Store) (K : V → Store → Prop) : tfun Tryz.prog h_less s_less Tryz.f40 [.str (bs p), .str (bs q)] s K = ( AC Tryz.prog 58 [V.str (bs p)] s fun v0 s1 => ∃ l2 c3 b4, v0 = V.tup [V.sl l2 c3, V.bool b4] ∧ AC Tryz.prog 58 [V.str (bs q)] s1 fun v5 s6 => ∃ l7 c8 b9, v5 = V.tup [V.sl l7 c8, V.bool b9] ∧ bif b4 then bif b9 then AC Tryz.prog 59 [V.sl l2 c3, V.sl l7 c8, V.fn (Fn.func 60) [] []] s6 fun v10 s11 => ∃ n12, v10 = V.int IntKind.i64 n12 ∧ K (V.bool (decide (n12 < 0))) s11 else K (V.bool false) s6 else K (V.bool false) s6) := by kernel_rfl
theorem ok_less : okFn h_less Tryz.f40 = true := by kernel_rfl
theorem fn_less : Tryz.prog.funcs[40]? = some Tryz.f40 := by kernel_rfl
theorem ca_less : callable Tryz.prog 40 = true := by kernel_rfl
abbrev n_parent : Go.FuncId := 41
noncomputable def h_parent : Hints := { n := 16, esc := fun _ => false, lr := fun _ => [], bx := fun _ => false, lc := fun _ => false, quiet := fun _ => false, order := fun _ => none, join := fun _ => none, carry := fun _ => [] }
noncomputable def s_parent : Shapes := { carry := fun _ => [], res := fun _ => none }
theorem e_parent (t : Bytes) (s : Store) (K : V → Store → Prop) : tfun Tryz.prog h_parent s_parent Tryz.f41 [.str (bs t)] s K = ( AC Tryz.prog 61 [V.str (bs t)] s fun v0 s1 => ∃ l2 c3, v0 = V.sl l2 c3 ∧ bif (↑l2.length : Int) == 0 then K (V.str (ByteArray.mk #[])) s1 else (∀ (v4 : V), v4 ∈ l2 → v4.cells.length = 1) ∧ 0 ≤ IntKind.i64.wrap ((↑l2.length : Int) - 1) ∧ IntKind.i64.wrap ((↑l2.length : Int) - 1) ≤ (↑l2.length : Int) ∧ True ∧ AC Tryz.prog 62 [V.sl (List.drop 0 (List.take (IntKind.i64.wrap ((↑l2.length : Int) - 1)).toNat l2)) Cap.any, V.str (ByteArray.mk #[47])] s1 fun v5 s6 => ∃ t7, v5 = V.str t7 ∧ (ByteArray.mk #[47]).size + t7.size ≤ 9223372036854775807 ∧ K (V.str (ByteArray.mk #[47] ++ t7)) s6) := by kernel_rfl
theorem ok_parent : okFn h_parent Tryz.f41 = true := by kernel_rfl
theorem fn_parent : Tryz.prog.funcs[41]? = some Tryz.f41 := by kernel_rfl
theorem ca_parent : callable Tryz.prog 41 = true := by kernel_rfl
abbrev n_names : Go.FuncId := 61
noncomputable def h_names : Hints := { n := 11, esc := fun _ => false, lr := fun _ => [], bx := fun _ => false, lc := fun _ => false, quiet := fun _ => false, order := fun _ => none, join := fun _ => none, carry := fun _ => [] }
noncomputable def s_names : Shapes := { carry := fun _ => [], res := fun _ => none }
theorem e_names (t : Bytes) (s : Store) (K : V → Store → Prop) : tfun Tryz.prog h_names s_names Tryz.f61 [.str (bs t)] s K = ( AC Tryz.prog 58 [V.str (bs t)] s fun v0 s1 => ∃ l2 c3 b4, v0 = V.tup [V.sl l2 c3, V.bool b4] ∧ K (V.sl l2 c3) s1) := by kernel_rfl
theorem ok_names : okFn h_names Tryz.f61 = true := by kernel_rfl
theorem fn_names : Tryz.prog.funcs[61]? = some Tryz.f61 := by kernel_rfl
theorem ca_names : callable Tryz.prog 61 = true := by kernel_rfl
abbrev n_last : Go.FuncId := 96
noncomputable def h_last : Hints := { n := 15, esc := fun _ => false, lr := fun _ => [], bx := fun _ => false, lc := fun _ => false, quiet := fun _ => false, order := fun _ => none, join := fun _ => none, carry := fun _ => [] }
noncomputable def s_last : Shapes := { carry := fun _ => [], res := fun _ => none }
theorem e_last (t : Bytes) (s : Store) (K : V → Store → Prop) : tfun Tryz.prog h_last s_last Tryz.f96 [.str (bs t)] s K = ( AC Tryz.prog 61 [V.str (bs t)] s fun v0 s1 => ∃ l2 c3, v0 = V.sl l2 c3 ∧ bif (↑l2.length : Int) == 0 then K (V.str (ByteArray.mk #[])) s1 else 0 ≤ IntKind.i64.wrap ((↑l2.length : Int) - 1) ∧ ∃ v4, l2[(IntKind.i64.wrap ((↑l2.length : Int) - 1)).toNat]? = some v4 ∧ ∃ t5, v4 = V.str t5 ∧ K (V.str t5) s1) := by kernel_rfl
theorem ok_last : okFn h_last Tryz.f96 = true := by kernel_rfl
theorem fn_last : Tryz.prog.funcs[96]? = some Tryz.f96 := by kernel_rfl
theorem ca_last : callable Tryz.prog 96 = true := by kernel_rfl
abbrev n_order : Go.FuncId := 44
noncomputable def h_order : Hints := { n := 13, esc := fun _ => false, lr := fun _ => [], bx := fun _ => false, lc := fun _ => false, quiet := fun _ => false, order := fun _ => none, join := fun _ => none, carry := fun _ => [] }
noncomputable def s_order : Shapes := { carry := fun _ => [], res := fun _ => none }
theorem e_order (p q : Bytes) (s : Store) (K : V → Store → Prop) : tfun Tryz.prog h_order s_order Tryz.f44 [.str (bs p), .str (bs q)] s K = ( AC Tryz.prog 40 [V.str (bs p), V.str (bs q)] s fun v0 s1 => ∃ b2, v0 = V.bool b2 ∧ bif b2 then K (V.int IntKind.i64 (-1)) s1 else bif (bs p).toList == (bs q).toList then K (V.int IntKind.i64 0) s1 else K (V.int IntKind.i64 1) s1) := by kernel_rfl
theorem ok_order : okFn h_order Tryz.f44 = true := by kernel_rfl
theorem fn_order : Tryz.prog.funcs[44]? = some Tryz.f44 := by kernel_rfl
theorem ca_order : callable Tryz.prog 44 = true := by kernel_rfl
end Go.Proofs.YtdeondiigpidnaaGreat.Ab
end

section
set_option linter.unusedVariables false
set_option linter.unusedSimpArgs false
/- Contracts: small functions. -/
namespace Go.Proofs.YtdeondiigpidnaaGreat.Ab
open Go Go.Proofs
set_option linter.unusedSectionVars false
variable [Fwd]
set_option linter.unusedVariables false

theorem mixed : Tryz.prog.follows .mixedOrders = true := by kernel_rfl

theorem ac_valid (c : Cmd) (s : Store) : PAC Tryz.prog n_valid [c.enc] s (.bool c.ok) := by
  refine PAC_of (H := h_valid) (S := s_valid) mixed fn_valid ca_valid ok_valid ?_
  rw [e_valid]
  unfold Cmd.ok
  repeat' (refine cond_of (fun h => ?_) (fun h => ?_))
  all_goals (refine Kp.of (congrArg V.bool ?_); simp_all <;> omega)

theorem ac_control (c : Cmd) (s : Store) : PAC Tryz.prog n_control [c.enc] s (.bool c.control) := by
  refine PAC_of (H := h_control) (S := s_control) mixed fn_control ca_control ok_control ?_
  rw [e_control]
  unfold Cmd.control
  repeat' (refine cond_of (fun h => ?_) (fun h => ?_))
  all_goals (refine Kp.of (congrArg V.bool ?_); simp_all <;> omega)

def Cmd.long (c : Cmd) : Bool := decide (300 < c.path.length) || decide (300 < c.value.length)
def over (l : List Cmd) : Bool := (l.take 61).any Cmd.long || decide (60 < l.length)
theorem ac_over (l : List Cmd) (k : Cap) (s : Store) : PAC Tryz.prog n_over [.sl (l.map Cmd.enc) k] s (.bool (over l)) := by
  refine PAC_of (H := h_over) (S := s_over) mixed fn_over ca_over ok_over ?_
  rw [e_over]
  refine lfp_up 61 (fun i vs s' => vs = [V.int .i64 i] ∧ s' = s ∧ i ≤ l.length ∧ ∀ j < i, ∀ c, l[j]? = some c → c.long = false) ?_ ⟨rfl, rfl, Nat.zero_le _, fun j h => absurd h (by omega)⟩
  rintro i _ _ hi ⟨rfl, rfl, hl, hb⟩ X hX
  refine ⟨i, rfl, ?_⟩
  have fin : (61 ≤ i ∨ l.length ≤ i) → over l = decide (60 < l.length) := by
    intro h
    unfold over
    have : (l.take 61).any Cmd.long = false := by
      rw [List.any_eq_false]
      intro c hc
      obtain ⟨j, hj, rfl⟩ := List.getElem_of_mem hc
      simp only [List.length_take] at hj
      rw [hb j (by omega) _ (by rw [List.getElem?_eq_getElem (by omega)]; simp)]
      simp
    simp [this]
  have long : ∀ c, i ≤ 60 → l[i]? = some c → c.long = true → over l = true := by
    intro c hi60 hc hcl
    unfold over
    have : (l.take 61).any Cmd.long = true := by
      rw [List.any_eq_true]
      exact ⟨c, List.mem_of_getElem? (i := i) (by rw [List.getElem?_take]; simp [hc]; omega), hcl⟩
    simp [this]
  refine cond_of (fun h1 => ?_) (fun h1 => ?_)
  · simp only [List.length_map, decide_eq_true_eq] at h1
    refine cond_of (fun h2 => ?_) (fun h2 => ?_)
    · simp only [decide_eq_true_eq] at h2
      have hlt : i < l.length := by omega
      have hget : l[i]? = some l[i] := List.getElem?_eq_getElem hlt
      have hg : (l.map Cmd.enc)[(i : Int).toNat]? = some (l[i]).enc := by simp [hget]
      refine ⟨by omega, _, hg, _, _, _, _, _, _, _, _, rfl, ?_⟩
      refine cond_of (fun h3 => ?_) (fun h3 => ?_)
      · refine ⟨by omega, _, hg, _, _, _, _, _, _, _, _, rfl, ?_⟩
        refine cond_of (fun h4 => ?_) (fun h4 => ?_)
        · refine Kp.of (congrArg V.bool (long _ (by omega) hget ?_).symm)
          simp [bs_size] at h4
          simp [Cmd.long]; omega
        · rw [wrap_small (by omega)]
          refine hX (by omega) _ _ ⟨by simp, rfl, by omega, fun j hj c hc => ?_⟩
          by_cases hji : j = i
          · subst hji
            rw [hget] at hc; cases hc
            simp [bs_size] at h3 h4
            simp [Cmd.long]; omega
          · exact hb j (by omega) c hc
      · refine Kp.of (congrArg V.bool (long _ (by omega) hget ?_).symm)
        simp [bs_size] at h3
        simp [Cmd.long]; omega
    · simp only [decide_eq_false_iff_not] at h2
      refine Kp.of (congrArg V.bool ?_)
      rw [fin (.inl (by omega))]
      simp; omega
  · simp only [List.length_map, decide_eq_false_iff_not] at h1
    refine Kp.of (congrArg V.bool ?_)
    rw [fin (.inr (by omega))]
    simp; omega

theorem list_eq_of {α : Type} {a b : List α} (hl : a.length = b.length) (h : ∀ j, j < a.length → a[j]? = b[j]?) : a = b := by
  apply List.ext_getElem? ; intro j
  by_cases hj : j < a.length
  · exact h j hj
  · rw [List.getElem?_eq_none (by omega), List.getElem?_eq_none (by omega)]

theorem ac_same (a b : Reply) (k k2 : Cap) (s : Store) (hm : a.names.length ≤ 4294967296) : PAC Tryz.prog n_same [a.enc k, b.enc k2] s (.bool (decide (a = b))) := by
  refine PAC_of (H := h_same) (S := s_same) mixed fn_same ca_same ok_same ?_
  rw [e_same]
  obtain ⟨ae, av, aw, an⟩ := a
  obtain ⟨be, bv, bw, bn⟩ := b
  simp only at hm
  simp only [bs_toList, List.length_map]
  refine cond_of (fun h1 => ?_) (fun h1 => ?_)
  rotate_left
  · exact Kp.of (congrArg V.bool (by simp at h1 ⊢; intro h; exact absurd h h1))
  refine cond_of (fun h2 => ?_) (fun h2 => ?_)
  rotate_left
  · exact Kp.of (congrArg V.bool (by simp at h2 ⊢; intro _ h; exact absurd h h2))
  refine cond_of (fun h3 => ?_) (fun h3 => ?_)
  rotate_left
  · exact Kp.of (congrArg V.bool (by simp at h3 ⊢; intro _ _ h; exact absurd h h3))
  refine cond_of (fun h4 => ?_) (fun h4 => ?_)
  · exact Kp.of (congrArg V.bool (by simp at h4 ⊢; intro _ _ _ h; rw [h] at h4; exact absurd rfl h4))
  simp at h1 h2 h3 h4
  subst h1; subst h2; subst h3
  refine lfp_up an.length (fun i vs s' => vs = [V.int .i64 i] ∧ s' = s ∧ ∀ j < i, an[j]? = bn[j]?) ?_ ⟨rfl, rfl, fun j h => absurd h (by omega)⟩
  rintro i _ _ hi ⟨rfl, rfl, hb⟩ X hX
  refine ⟨i, rfl, ?_⟩
  refine cond_of (fun h5 => ?_) (fun h5 => ?_)
  · simp at h5
    have g1 : (an.map vstr)[(i : Int).toNat]? = some (vstr an[i]) := by simp [h5]
    have h6 : i < bn.length := by omega
    have g2 : (bn.map vstr)[(i : Int).toNat]? = some (vstr bn[i]) := by simp [h6]
    refine ⟨by omega, _, g1, _, rfl, by omega, _, g2, _, rfl, ?_⟩
    simp only [bs_toList]
    refine cond_of (fun h7 => ?_) (fun h7 => ?_)
    · refine Kp.of (congrArg V.bool ?_)
      simp at h7 ⊢
      rintro rfl
      exact h7 rfl
    · rw [wrap_small (by omega)]
      refine hX h5 _ _ ⟨by simp, rfl, fun j hj => ?_⟩
      by_cases hji : j = i
      · subst hji
        simp at h7
        simp [h5, h6, h7]
      · exact hb j (by omega)
  · refine Kp.of (congrArg V.bool ?_)
    simp at h5
    have : an = bn := list_eq_of (by omega) fun j hj => hb j (by omega)
    simp [this]

theorem ac_row (a b : List Entry) (k k2 : Cap) (s : Store) (hm : a.length ≤ 4294967296) : PAC Tryz.prog n_row [.sl (a.map Entry.enc) k, .sl (b.map Entry.enc) k2] s (.bool (decide (a = b))) := by
  refine PAC_of (H := h_row) (S := s_row) mixed fn_row ca_row ok_row ?_
  rw [e_row]
  simp only [List.length_map]
  refine cond_of (fun h4 => ?_) (fun h4 => ?_)
  · exact Kp.of (congrArg V.bool (by simp at h4 ⊢; intro h; rw [h] at h4; exact absurd rfl h4))
  simp at h4
  refine lfp_up a.length (fun i vs s' => vs = [V.int .i64 i] ∧ s' = s ∧ ∀ j < i, a[j]? = b[j]?) ?_ ⟨rfl, rfl, fun j h => absurd h (by omega)⟩
  rintro i _ _ hi ⟨rfl, rfl, hb⟩ X hX
  refine ⟨i, rfl, ?_⟩
  refine cond_of (fun h5 => ?_) (fun h5 => ?_)
  · simp at h5
    have g1 : (a.map Entry.enc)[(i : Int).toNat]? = some (Entry.enc a[i]) := by simp [h5]
    have h6 : i < b.length := by omega
    have g2 : (b.map Entry.enc)[(i : Int).toNat]? = some (Entry.enc b[i]) := by simp [h6]
    refine ⟨by omega, _, g1, _, _, _, rfl, by omega, _, g2, _, _, _, rfl, ?_⟩
    simp only [keqL, keqS, bs_toList]
    refine cond_of (fun h7 => ?_) (fun h7 => ?_)
    · refine Kp.of (congrArg V.bool ?_)
      simp at h7 ⊢
      rintro rfl
      simp at h7
    · rw [wrap_small (by omega)]
      refine hX h5 _ _ ⟨by simp, rfl, fun j hj => ?_⟩
      by_cases hji : j = i
      · subst hji
        simp at h7
        obtain ⟨e1, e2, e3⟩ := h7
        have : a[j] = b[j] := by
          cases ha : a[j]; cases hb : b[j]
          rw [ha, hb] at e1 e2 e3
          simp at e1 e2 e3
          simp [e1, e2, e3]
        simp [h5, h6, this]
      · exact hb j (by omega)
  · refine Kp.of (congrArg V.bool ?_)
    simp at h5
    have : a = b := list_eq_of (by omega) fun j hj => hb j (by omega)
    simp [this]

end Go.Proofs.YtdeondiigpidnaaGreat.Ab
end

section
set_option linter.unusedVariables false
set_option linter.unusedSimpArgs false
/- Contracts of the library's functions on texts. -/
namespace Go.Proofs.YtdeondiigpidnaaGreat.Ab
open Go Go.Proofs Go.RowKit
set_option linter.unusedSectionVars false
variable [Fwd]
set_option linter.unusedVariables false

theorem bs_dl (l : Bytes) : (bs l).data.toList = l := by simp [bs]

theorem ac_scompare (a b : Bytes) (s : Store) : PAC Tryz.prog n_scompare [.str (bs a), .str (bs b)] s (.int .i64 (Lib.compareBytes a b)) :=
  PAC_of_same ca_scompare fun c cargs hR hs ha => by
    obtain ⟨_, _, rfl, h1, ha⟩ := repL_cons ha
    obtain ⟨_, _, rfl, h2, ha⟩ := repL_cons ha
    obtain rfl := repL_nil ha
    simp only [rep] at h1 h2
    subst h1; subst h2
    refine ⟨_, ?_, Tryz.strings_Compare _ _ _⟩
    simp [rep, bs_dl]

theorem ac_indexbyte (t : Bytes) (n : Int) (s : Store) : PAC Tryz.prog n_indexbyte [.str (bs t), .int .u8 n] s (.int .i64 (Lib.indexByte t n.toNat.toUInt8)) :=
  PAC_of_same ca_indexbyte fun c cargs hR hs ha => by
    obtain ⟨_, _, rfl, h1, ha⟩ := repL_cons ha
    obtain ⟨_, _, rfl, h2, ha⟩ := repL_cons ha
    obtain rfl := repL_nil ha
    simp only [rep] at h1 h2
    subst h1; subst h2
    refine ⟨_, ?_, Tryz.strings_IndexByte _ _ _⟩
    simp [rep, bs_dl]

theorem ac_cutprefix (t p : Bytes) (s : Store) : PAC Tryz.prog n_cutprefix [.str (bs t), .str (bs p)] s (.tup [.str (bs (Lib.trimPrefix t p)), .bool (Lib.hasPrefix t p)]) :=
  PAC_of_same ca_cutprefix fun c cargs hR hs ha => by
    obtain ⟨_, _, rfl, h1, ha⟩ := repL_cons ha
    obtain ⟨_, _, rfl, h2, ha⟩ := repL_cons ha
    obtain rfl := repL_nil ha
    simp only [rep] at h1 h2
    subst h1; subst h2
    refine ⟨_, ?_, Tryz.strings_CutPrefix _ _ _⟩
    simp only [rep, bs_dl]
    exact ⟨_, by simp only [repL]; exact ⟨_, _, rfl, rfl, _, _, rfl, rfl, rfl⟩, rfl⟩

theorem flat_strs (l : List Bytes) : flat (l.map fun b => Value.string (bs b)) = l.map fun b => Value.string (bs b) := by
  induction l with
  | nil => rfl
  | cons b r ih => simp only [List.map_cons, flat, List.flatMap_cons] at ih ⊢; rw [ih]; rfl

theorem ac_join (hf : Fwd.on = false) (l : List Bytes) (k : Cap) (p : Bytes) (s : Store) (hn : l.length ≤ 140737488355328) (hlen : (Lib.join l p).length ≤ 140737488355328) :
    PAC Tryz.prog n_join [strs l k, .str (bs p)] s (.str (bs (Lib.join l p))) :=
  PAC_of_below ca_join fun c cargs hR hs ha => by
    obtain ⟨_, _, rfl, h1, ha⟩ := repL_cons ha
    obtain ⟨_, _, rfl, h2, ha⟩ := repL_cons ha
    obtain rfl := repL_nil ha
    simp only [rep, strs] at h1 h2
    subst h2
    obtain ⟨vs, a, n, cap, h3, rfl, h4⟩ := h1
    obtain rfl := rep_strs h3
    rcases l with _ | ⟨x, r⟩
    · have hn0 : n = 0 := h4.len
      subst hn0
      refine (Tryz.strings_Join_none _ _ _ _).mono ?_
      rintro e w' ⟨rfl, rfl⟩
      exact ⟨_, rfl, Below.refl _ _, (fun h => absurd h (by rw [hf]; decide)), by simp [rep, bs, Lib.join]⟩
    · rcases h4.row with h5 | ⟨b, off, rfl, hp⟩
      · simp at h5
      · rw [flat_strs] at hp
        have hcell : ∀ (j : Nat) y, ((x :: r).map bs)[j]? = some y → c.w.cell? ⟨b, off + j, none⟩ = some (.string y) := fun j y hj => by
          refine (hp j _ ?_).1
          simp only [List.getElem?_map, Option.map_eq_some_iff] at hj ⊢
          obtain ⟨z, hz, rfl⟩ := hj
          exact ⟨z, hz, rfl⟩
        have hn' := h4.len
        simp only [List.length_map] at hn'
        subst hn'
        have hmap : ((x :: r).map bs).map (fun b => b.data.toList) = x :: r := by simp [List.map_map, Function.comp_def, bs_dl]
        have h6 := Tryz.strings_Join b off cap ((x :: r).map bs) (bs p) c.w hcell (cell_lt (hcell 0 _ rfl)) (by simpa using hn) (by simpa using h4.le) (by rw [hmap, bs_dl]; exact hlen)
        simp only [List.length_map] at h6
        refine h6.mono ?_
        rintro e w' ⟨rfl, hb⟩
        refine ⟨_, rfl, hb, (fun h => absurd h (by rw [hf]; decide)), ?_⟩
        rw [hmap, bs_dl]
        simp [rep, bs]

end Go.Proofs.YtdeondiigpidnaaGreat.Ab
end

section
set_option linter.unusedVariables false
set_option linter.unusedSimpArgs false
/- Contracts: paths. -/
namespace Go.Proofs.YtdeondiigpidnaaGreat.Ab
open Go Go.Proofs
set_option linter.unusedSectionVars false
variable [Fwd]
set_option linter.unusedVariables false
set_option linter.unusedSimpArgs false

theorem ac_name (t : Bytes) (s : Store) (hm : t.length ≤ 4294967296) : PAC Tryz.prog n_name [.str (bs t)] s (.bool (isName t)) := by
  refine PAC_of (H := h_name) (S := s_name) mixed fn_name ca_name ok_name ?_
  rw [e_name]
  refine lfp_up t.length (fun i vs s' => vs = [V.int .i64 i] ∧ s = s' ∧ ∀ j < i, ∀ c, t[j]? = some c → nameByte c = true) ?_ ⟨rfl, rfl, fun j h => absurd h (by omega)⟩
  rintro i _ _ hi ⟨rfl, rfl, hb⟩ X hX
  refine ⟨i, rfl, ?_⟩
  rw [bs_size]
  refine cond_of (fun h5 => ?_) (fun h5 => ?_)
  · simp only [decide_eq_true_eq] at h5
    have hlt : i < t.length := by omega
    have g1 : (bs t)[(i : Int).toNat]? = some t[i] := by rw [bs_get]; simp [hlt]
    refine ⟨by omega, _, g1, ?_⟩
    have go : nameByte t[i] = true → X [V.int .i64 (IntKind.i64.wrap ((i : Int) + 1))] s := fun hn => by
      rw [wrap_small (by omega)]
      refine hX hlt _ _ ⟨by simp, rfl, fun j hj c hc => ?_⟩
      by_cases hji : j = i
      · subst hji
        rw [List.getElem?_eq_getElem hlt] at hc; cases hc
        exact hn
      · exact hb j (by omega) c hc
    have stop : nameByte t[i] = false → Kp s (.bool (isName t)) (.bool false) s := fun hn => by
      refine Kp.of (congrArg V.bool ?_)
      have : t.all nameByte = false := by
        rw [List.all_eq_false]
        exact ⟨t[i], List.getElem_mem _, by simp [hn]⟩
      simp [isName, this]
    generalize t[i] = c at go stop
    have e1 : nameByte c = (decide (97 ≤ (c.toNat : Int)) && decide ((c.toNat : Int) ≤ 122) || decide (48 ≤ (c.toNat : Int)) && decide ((c.toNat : Int) ≤ 57) || ((c.toNat : Int) == 45) || ((c.toNat : Int) == 95)) := by
      unfold nameByte
      have a1 : decide (97 ≤ c.toNat ∧ c.toNat ≤ 122) = (decide (97 ≤ (c.toNat : Int)) && decide ((c.toNat : Int) ≤ 122)) := by
        rw [Bool.decide_and]; congr 1 <;> apply decide_eq_decide.2 <;> omega
      have a2 : decide (48 ≤ c.toNat ∧ c.toNat ≤ 57) = (decide (48 ≤ (c.toNat : Int)) && decide ((c.toNat : Int) ≤ 57)) := by
        rw [Bool.decide_and]; congr 1 <;> apply decide_eq_decide.2 <;> omega
      have a3 : (c.toNat == 45) = ((c.toNat : Int) == 45) := by
        rw [Bool.eq_iff_iff]; simp; omega
      have a4 : (c.toNat == 95) = ((c.toNat : Int) == 95) := by
        rw [Bool.eq_iff_iff]; simp; omega
      rw [a1, a2, a3, a4]
    rw [e1] at go stop
    revert go stop
    cases decide (97 ≤ (c.toNat : Int)) <;> cases decide ((c.toNat : Int) ≤ 122) <;> cases decide (48 ≤ (c.toNat : Int)) <;> cases decide ((c.toNat : Int) ≤ 57) <;> cases ((c.toNat : Int) == 45) <;> cases ((c.toNat : Int) == 95) <;>
      (intro go stop; simp only [cond_true, cond_false]; first | exact go rfl | exact stop rfl)
  · simp only [decide_eq_false_iff_not] at h5
    have hall : t.all nameByte = true := by
      rw [List.all_eq_true]
      intro c hc
      obtain ⟨j, hj, rfl⟩ := List.getElem_of_mem hc
      exact hb j (by omega) _ (List.getElem?_eq_getElem hj)
    refine cond_of (fun h6 => ?_) (fun h6 => ?_)
    · refine Kp.of (congrArg V.bool ?_)
      simp only [decide_eq_true_eq] at h6
      have a3 : decide (0 < t.length ∧ t.length ≤ 16) = decide ((t.length : Int) ≤ 16) := decide_eq_decide.2 (by omega)
      simp only [isName, hall, Bool.true_and, a3]
    · refine Kp.of (congrArg V.bool ?_)
      simp only [decide_eq_false_iff_not] at h6
      have a3 : decide (0 < t.length ∧ t.length ≤ 16) = false := decide_eq_false_iff_not.2 (by omega)
      simp only [isName, hall, Bool.true_and, a3]

def splitV (t : Bytes) : V := match splitP t with
  | some l => .tup [strs l .any, .bool true]
  | none => .tup [strs [] .any, .bool false]

theorem Wk.split {l : List Bytes} {k : Cap} {b : Bool} : Wk (.tup [.sl (l.map vstr) k, .bool b]) (.tup [strs l .any, .bool b]) := .tup ⟨.cap _ _, .refl _, trivial⟩
theorem Wk.of {x y : V} (h : x = y) : Wk x y := h ▸ .refl x

theorem vstr_len (l : List Bytes) : ∀ e ∈ l.map vstr, e.cells.length = 1 := by
  intro e he
  obtain ⟨b, _, rfl⟩ := List.mem_map.1 he
  rfl
theorem vstr_fits (b : Bytes) : fits (vstr b) 1 := ⟨rfl, rfl⟩
theorem Kp.wk {s s' : Store} {v r : V} (h : s.le s') (h' : Wk r v) : Kp s v r s' := ⟨h, h'⟩

theorem ac_split (t : Bytes) (s : Store) (hm : t.length ≤ 4294967296) : PAC Tryz.prog n_split [.str (bs t)] s (splitV t) := by
  refine PAC_of (H := h_split) (S := s_split) mixed fn_split ca_split ok_split ?_
  rw [e_split]
  rw [bs_toList, bs_slash, bs_toList]
  refine cond_of (fun h0 => ?_) (fun h0 => ?_)
  · have : t = [47] := by simpa using h0
    subst this
    exact Kp.wk (.refl s) (Wk.trans (Wk.split (l := [])) (Wk.of (by simp [splitV, splitP])))
  have h0' : t ≠ [47] := by simpa using h0
  have hsv : splitV t = match parts' [] t.length t with
      | some l => .tup [strs l .any, .bool true]
      | none => .tup [strs [] .any, .bool false] := by
    unfold splitV splitP; rw [if_neg h0']
  refine lfp_rule (fun vs s' => ∃ q acc c, vs = [V.str (bs q), V.sl (acc.map vstr) c] ∧ Own s 1 c s' ∧ parts' [] t.length t = parts' acc q.length q ∧ acc.length ≤ 8 ∧ q.length ≤ t.length)
    (fun vs _ => match vs with | [.str b, _] => b.size | _ => 0) ?_ ⟨t, [], .full, rfl, .full, rfl, by simp, Nat.le_refl _⟩
  rintro _ s1 ⟨q, acc, c, rfl, ho, hp, ha, hq⟩ X hX
  refine ⟨_, _, _, rfl, ?_⟩
  have bad : ∀ {s' : Store}, s.le s' → parts' acc q.length q = none → Kp s (splitV t) (.tup [.sl [] .full, .bool false]) s' := fun hle hn => by
    refine Kp.wk hle (Wk.trans (Wk.split (l := [])) (Wk.of ?_))
    rw [hsv, hp, hn]
  rw [bs_toList, bs_empty, bs_toList]
  refine cond_of (fun h1 => ?_) (fun h1 => ?_)
  rotate_left
  · have hq0 : q = [] := by simpa using h1
    subst hq0
    refine Kp.wk ho.le (Wk.trans Wk.split (Wk.of ?_))
    rw [hsv, hp]
    cases acc with
    | nil => simp [parts']
    | cons x r => simp [parts']
  have hq0 : q ≠ [] := by simpa using h1
  obtain ⟨b, r, rfl⟩ := List.exists_cons_of_ne_nil hq0
  refine (ac_cutprefix _ _ _).use ⟨_, _, rfl, ?_⟩
  refine cond_of (fun h2 => ?_) (fun h2 => ?_)
  · refine bad ho.le ?_
    have : b ≠ 47 := by
      rintro rfl
      simp [Lib.hasPrefix, List.isPrefixOf] at h2
    simp [parts', this]
  have hb : b = 47 := by
    simp [Lib.hasPrefix, List.isPrefixOf] at h2
    exact h2.symm
  subst hb
  have htr : Lib.trimPrefix (47 :: r) [47] = r := by simp [Lib.trimPrefix, Lib.hasPrefix, List.isPrefixOf]
  rw [htr]
  refine (ac_indexbyte _ _ _).use ⟨_, rfl, ?_⟩
  have e47 : (47 : Int).toNat.toUInt8 = 47 := rfl
  rw [e47]
  simp only [List.length_cons] at hp hq bad
  have step : parts' acc (r.length + 1) (47 :: r) = if acc.length < 8 ∧ isName (tw r) = true then parts' (acc ++ [tw r]) r.length (r.drop (tw r).length) else none := by
    simp [parts']
  have htl := tw_le r
  -- the part that is common to both ways
  have rest : ∀ (n : Nat), n = (tw r).length → tapp 1 (acc.map vstr) c [.str ((bs r).extract 0 n)] s1 fun l13 c14 s15 => 0 ≤ (n : Int) ∧ (n : Int) ≤ ((bs r).size : Int) ∧
      bif !decide ((l13.length : Int) > 8) then 0 ≤ IntKind.i64.wrap ((l13.length : Int) - 1) ∧ ∃ v16, l13[(IntKind.i64.wrap ((l13.length : Int) - 1)).toNat]? = some v16 ∧ ∃ t17, v16 = V.str t17 ∧
        AC Tryz.prog n_name [V.str t17] s15 fun v18 s19 => ∃ b20, v18 = V.bool b20 ∧ bif !b20 then Kp s (splitV t) (V.tup [V.sl [] Cap.full, V.bool false]) s19 else X [V.str ((bs r).extract n (bs r).size), V.sl l13 c14] s19
      else Kp s (splitV t) (V.tup [V.sl [] Cap.full, V.bool false]) s15 := by
    rintro _ rfl
    have hx : (bs r).extract 0 (tw r).length = bs (tw r) := by rw [bs_extract, tw_take]; rfl
    rw [hx]
    refine tapp_own ho (by simp; omega) (vstr_len _) ⟨vstr_fits (tw r), trivial⟩ fun c2 s2 ho2 => ⟨by omega, by rw [bs_size]; omega, ?_⟩
    have hl : (acc.map vstr ++ [vstr (tw r)]) = (acc ++ [tw r]).map vstr := by simp
    rw [show ([V.str (bs (tw r))] : List V) = [vstr (tw r)] from rfl, hl]
    simp only [List.length_map, List.length_append, List.length_singleton]
    refine cond_of (fun h3 => ?_) (fun h3 => ?_)
    · have h3' : acc.length < 8 := by simp at h3; omega
      have hw : IntKind.i64.wrap (((acc.length + 1 : Nat) : Int) - 1) = (acc.length : Int) := by rw [wrap_small (by omega)]; omega
      rw [hw]
      refine ⟨by omega, vstr (tw r), by simp, _, rfl, ?_⟩
      refine (ac_name _ _ (by omega)).use ⟨_, rfl, ?_⟩
      refine cond_of (fun h4 => ?_) (fun h4 => ?_)
      · refine bad ho2.le ?_
        have : isName (tw r) = false := by simpa using h4
        rw [step, this]; simp
      · have h4' : isName (tw r) = true := by simpa using h4
        have hx2 : (bs r).extract (tw r).length (bs r).size = bs (r.drop (tw r).length) := by rw [bs_extract, bs_size, List.take_length]
        rw [hx2]
        refine hX _ _ ⟨r.drop (tw r).length, acc ++ [tw r], c2, rfl, ho2, ?_, by simp; omega, by simp; omega⟩ ?_
        · rw [hp, step, if_pos ⟨h3', h4'⟩]
          exact parts'_fuel _ _ _ _ (by simp) (Nat.le_refl _)
        · simp only [bs_size, List.length_drop, List.length_cons]; omega
    · refine bad ho2.le ?_
      have : ¬ acc.length < 8 := by simp at h3; omega
      rw [step]; simp [this]
  refine cond_of (fun h3 => ?_) (fun h3 => ?_)
  · have h4 : tw r = r := by
      rcases idx_spec r with ⟨_, h⟩ | ⟨h, _⟩
      · exact h
      · rw [h] at h3; simp at h3; omega
    have := rest (bs r).size (by rw [bs_size, h4])
    refine ⟨by omega, by omega, ?_⟩
    rw [Int.toNat_natCast]
    exact this
  · rcases idx_spec r with ⟨h, _⟩ | ⟨h, h5⟩
    · rw [h] at h3; simp at h3
    · rw [h]
      refine ⟨by omega, by rw [bs_size]; omega, ?_⟩
      rw [Int.toNat_natCast]
      exact rest _ rfl

theorem ac_pvalid (t : Bytes) (s : Store) (hm : t.length ≤ 4294967296) : PAC Tryz.prog n_pvalid [.str (bs t)] s (.bool (validP t)) := by
  refine PAC_of (H := h_pvalid) (S := s_pvalid) mixed fn_pvalid ca_pvalid ok_pvalid ?_
  rw [e_pvalid]
  refine (ac_split t s hm).use ?_
  unfold splitV validP
  cases splitP t with
  | none => exact ⟨_, _, _, rfl, Kp.mk⟩
  | some l => exact ⟨_, _, _, rfl, Kp.mk⟩

theorem ac_names (t : Bytes) (s : Store) (hm : t.length ≤ 4294967296) : PAC Tryz.prog n_names [.str (bs t)] s (strs (namesP t) .any) := by
  refine PAC_of (H := h_names) (S := s_names) mixed fn_names ca_names ok_names ?_
  rw [e_names]
  refine (ac_split t s hm).use ?_
  unfold splitV namesP
  cases splitP t with
  | none => exact ⟨_, _, _, rfl, Kp.mk⟩
  | some l => exact ⟨_, _, _, rfl, Kp.mk⟩

theorem ac_depth (t : Bytes) (s : Store) (hm : t.length ≤ 4294967296) : PAC Tryz.prog n_depth [.str (bs t)] s (.int .i64 (depthP t)) := by
  refine PAC_of (H := h_depth) (S := s_depth) mixed fn_depth ca_depth ok_depth ?_
  rw [e_depth]
  refine (ac_split t s hm).use ?_
  unfold splitV depthP
  cases splitP t with
  | none => exact ⟨_, _, _, rfl, Kp.mk⟩
  | some l => exact ⟨_, _, _, rfl, by simp only [List.length_map]; exact Kp.mk⟩

theorem ac_last (t : Bytes) (s : Store) (hm : t.length ≤ 4294967296) : PAC Tryz.prog n_last [.str (bs t)] s (.str (bs (lastP t))) := by
  refine PAC_of (H := h_last) (S := s_last) mixed fn_last ca_last ok_last ?_
  rw [e_last]
  refine (ac_names t s hm).use ⟨_, _, rfl, ?_⟩
  unfold lastP
  have hok := names_ok t
  generalize namesP t = l at hok
  have hlen : l.length ≤ 8 := by
    unfold okNames at hok
    rw [Bool.and_eq_true, decide_eq_true_eq] at hok
    exact hok.1
  refine cond_of (fun h1 => ?_) (fun h1 => ?_)
  · have : l = [] := by simpa using h1
    subst this
    exact Kp.mk
  · have hne : l ≠ [] := by simpa using h1
    have hpos : 0 < l.length := List.length_pos_iff.2 hne
    simp only [List.length_map]
    rw [wrap_small (by omega)]
    have e : ((l.length : Int) - 1).toNat = l.length - 1 := by omega
    rw [e]
    refine ⟨by omega, vstr l[l.length - 1], by simp; exact ⟨_, List.getElem?_eq_getElem (by omega), rfl⟩, _, rfl, ?_⟩
    refine Kp.of (congrArg V.str (congrArg bs ?_))
    rw [List.getLast?_eq_getElem?, List.getElem?_eq_getElem (by omega)]
    rfl

theorem ac_parent (hf : Fwd.on = false) (t : Bytes) (s : Store) (hm : t.length ≤ 4294967296) : PAC Tryz.prog n_parent [.str (bs t)] s (.str (bs (parentP t))) := by
  refine PAC_of (H := h_parent) (S := s_parent) mixed fn_parent ca_parent ok_parent ?_
  rw [e_parent]
  refine (ac_names t s hm).use ⟨_, _, rfl, ?_⟩
  unfold parentP
  have hok := names_ok t
  generalize namesP t = l at hok
  have hlen : l.length ≤ 8 := by
    unfold okNames at hok
    rw [Bool.and_eq_true, decide_eq_true_eq] at hok
    exact hok.1
  refine cond_of (fun h1 => ?_) (fun h1 => ?_)
  · have : l = [] := by simpa using h1
    subst this
    exact Kp.mk
  · have hne : l ≠ [] := by simpa using h1
    have hpos : 0 < l.length := List.length_pos_iff.2 hne
    simp only [List.length_map]
    rw [wrap_small (by omega)]
    have e : ((l.length : Int) - 1).toNat = l.length - 1 := by omega
    rw [e, if_neg hne]
    refine ⟨vstr_len l, by omega, by omega, trivial, ?_⟩
    have e2 : (List.drop 0 (List.take (l.length - 1) (l.map vstr))) = (l.dropLast).map vstr := by
      rw [List.drop_zero, ← List.map_take, List.dropLast_eq_take]
    rw [e2, bs_slash]
    have hok2 : okNames l.dropLast = true := by rw [List.dropLast_eq_take]; exact ok_take hok
    have hj : (Lib.join l.dropLast [47]).length ≤ 136 := by
      have := pathOf_len hok2
      rw [← join_path, List.length_cons] at this
      omega
    refine (ac_join hf l.dropLast .any [47] s (by simp; omega) (by omega)).use ⟨_, rfl, ?_, ?_⟩
    · rw [bs_size, bs_size]; simp only [List.length_singleton]; omega
    · rw [bs_append]
      refine Kp.of (congrArg V.str (congrArg bs ?_))
      exact join_path _

theorem ac_cmpfunc (a b : List Bytes) (k k2 : Cap) (s : Store) (ha : a.length ≤ 4294967296) : PAC Tryz.prog n_cmpfunc [strs a k, strs b k2, .fn (.func n_scompare) [] []] s (.int .i64 (cmpNames a b)) := by
  refine PAC_of (H := h_cmpfunc) (S := s_cmpfunc) mixed fn_cmpfunc ca_cmpfunc ok_cmpfunc ?_
  rw [e_cmpfunc]
  refine lfp_up a.length (fun i vs s' => vs = [V.int .i64 i] ∧ s = s' ∧ i ≤ b.length ∧ cmpNames a b = cmpNames (a.drop i) (b.drop i)) ?_ ⟨rfl, rfl, Nat.zero_le _, rfl⟩
  rintro i _ _ hi ⟨rfl, rfl, hb, hc⟩ X hX
  refine ⟨i, rfl, ?_⟩
  simp only [List.length_map]
  refine cond_of (fun h1 => ?_) (fun h1 => ?_)
  · simp only [decide_eq_true_eq] at h1
    have hlt : i < a.length := by omega
    have ga : (a.map vstr)[(i : Int).toNat]? = some (vstr a[i]) := by simp [hlt]
    have da : a.drop i = a[i] :: a.drop (i + 1) := List.drop_eq_getElem_cons hlt
    refine ⟨by omega, _, ga, _, rfl, ?_⟩
    refine cond_of (fun h2 => ?_) (fun h2 => ?_)
    · simp only [decide_eq_true_eq] at h2
      refine Kp.of (congrArg (V.int .i64) ?_)
      rw [hc, da, List.drop_eq_nil_of_le (show b.length ≤ i by omega)]
      rfl
    · simp only [decide_eq_false_iff_not] at h2
      have hlt2 : i < b.length := by omega
      have gb : (b.map vstr)[(i : Int).toNat]? = some (vstr b[i]) := by simp [hlt2]
      have db : b.drop i = b[i] :: b.drop (i + 1) := List.drop_eq_getElem_cons hlt2
      refine ⟨by omega, _, gb, _, rfl, ?_⟩
      refine ⟨_, _, _, rfl, (ac_scompare _ _ _).use ⟨_, rfl, ?_⟩⟩
      rw [da, db] at hc
      simp only [cmpNames] at hc
      refine cond_of (fun h3 => ?_) (fun h3 => ?_)
      · refine Kp.of (congrArg (V.int .i64) ?_)
        rw [hc, if_pos (by simpa using h3)]
      · rw [wrap_small (by omega)]
        refine hX hlt _ _ ⟨by simp, rfl, by omega, ?_⟩
        rw [hc, if_neg (by simpa using h3)]
  · simp only [decide_eq_false_iff_not] at h1
    have da : a.drop i = [] := List.drop_eq_nil_of_le (by omega)
    rw [da] at hc
    refine cond_of (fun h2 => ?_) (fun h2 => ?_)
    · simp only [decide_eq_true_eq] at h2
      refine Kp.of (congrArg (V.int .i64) ?_)
      rw [hc, List.drop_eq_getElem_cons (show i < b.length by omega)]
      rfl
    · simp only [decide_eq_false_iff_not] at h2
      refine Kp.of (congrArg (V.int .i64) ?_)
      rw [hc, List.drop_eq_nil_of_le (show b.length ≤ i by omega)]
      rfl

theorem ac_less (p q : Bytes) (s : Store) (hp : p.length ≤ 4294967296) (hq : q.length ≤ 4294967296) : PAC Tryz.prog n_less [.str (bs p), .str (bs q)] s (.bool (lessP p q)) := by
  refine PAC_of (H := h_less) (S := s_less) mixed fn_less ca_less ok_less ?_
  rw [e_less]
  refine (ac_split p s hp).use ?_
  unfold splitV lessP
  cases h1 : splitP p with
  | none =>
    refine ⟨_, _, _, rfl, (ac_split q s hq).use ?_⟩
    unfold splitV
    cases h2 : splitP q <;> exact ⟨_, _, _, rfl, Kp.mk⟩
  | some a =>
    refine ⟨_, _, _, rfl, (ac_split q s hq).use ?_⟩
    unfold splitV
    cases h2 : splitP q with
    | none => exact ⟨_, _, _, rfl, Kp.mk⟩
    | some b =>
      refine ⟨_, _, _, rfl, ?_⟩
      have hok := (split_inv h1).1
      unfold okNames at hok
      rw [Bool.and_eq_true, decide_eq_true_eq] at hok
      rw [cond_true, cond_true]
      refine PAC.use (ac_cmpfunc a b .any .any s (by omega)) ?_
      exact ⟨_, rfl, Kp.mk⟩

theorem ac_order (p q : Bytes) (s : Store) (hp : p.length ≤ 4294967296) (hq : q.length ≤ 4294967296) : PAC Tryz.prog n_order [.str (bs p), .str (bs q)] s (.int .i64 (orderP p q)) := by
  refine PAC_of (H := h_order) (S := s_order) mixed fn_order ca_order ok_order ?_
  rw [e_order]
  refine (ac_less p q s hp hq).use ⟨_, rfl, ?_⟩
  unfold orderP
  rw [bs_toList, bs_toList]
  refine cond_of (fun h => ?_) (fun h => ?_)
  · rw [if_pos h]; exact Kp.mk
  · rw [if_neg (by simp [h])]
    refine cond_of (fun h => ?_) (fun h => ?_)
    · rw [if_pos (by simpa using h)]; exact Kp.mk
    · rw [if_neg (by simpa using h)]; exact Kp.mk

end Go.Proofs.YtdeondiigpidnaaGreat.Ab
end

section
set_option linter.unusedVariables false
set_option linter.unusedSimpArgs false
/- The library's sorts, and the keys of maps, at this program's functions. -/
namespace Go.Proofs.YtdeondiigpidnaaGreat.Ab
open Go Go.Proofs Go.Sort Go.Shelf
set_option linter.unusedSectionVars false
set_option linter.unusedVariables false
set_option linter.unusedSimpArgs false
variable [Fwd]

theorem ac_isnan (a : Bytes) (s : Store) : PAC Tryz.prog n_isnan [.str (bs a)] s (.bool false) := by
  refine PAC_of (H := h_isnan) (S := s_isnan) mixed fn_isnan ca_isnan ok_isnan ?_
  rw [e_isnan]
  refine Kp.of (congrArg V.bool ?_)
  simp

theorem ac_cmpstr (a b : Bytes) (s : Store) : PAC Tryz.prog n_cmpstr [.str (bs a), .str (bs b)] s (.int .i64 (cmpStr a b)) := by
  refine PAC_of (H := h_cmpstr) (S := s_cmpstr) mixed fn_cmpstr ca_cmpstr ok_cmpstr ?_
  rw [e_cmpstr]
  refine (ac_isnan a s).use ⟨_, rfl, (ac_isnan b s).use ⟨_, rfl, ?_⟩⟩
  rw [cond_false, cond_false, bs_toList, bs_toList, bytesLess_eq]
  unfold cmpStr
  refine cond_of (fun h => ?_) (fun h => ?_)
  · rw [if_pos (of_decide_eq_true h)]; exact Kp.mk
  · have h' := of_decide_eq_false h
    rw [if_neg h']
    refine cond_of (fun h2 => ?_) (fun h2 => ?_)
    · rw [if_neg (by intro e; subst e; simp at h2)]; exact Kp.mk
    · have : a = b := by simpa [h'] using h2
      rw [if_pos this]; exact Kp.mk

theorem sortStr_eq (l : List Bytes) : (l.mergeSort fun x y => !(ltOf cmpStr) y x) = l.mergeSort bytesLe := by
  congr 1
  funext x y
  unfold bytesLe
  have := cmpStr_lt y x
  cases h : ltOf cmpStr y x with
  | true => simp [this.1 h]
  | false =>
    have : ¬ y < x := fun hh => by rw [this.2 hh] at h; cases h
    simp [this]

theorem ac_sortstr {s : Store} {id : Nat} {ks : List Bytes} (h : s id = some (.arr 1 (ks.map vstr))) (hn : ks.length ≤ 4294967296) :
    AC Tryz.prog n_sortstr [.vw id 1 0 ks.length, .fn (.func n_cmpstr) [] []] s fun r s' => r = .tup [] ∧ s' = s.upd id (.arr 1 ((ks.mergeSort bytesLe).map vstr)) := by
  have := ac_sortf (ρ := Tryz.sortStr_ren) Tryz.sortStr ca_sortstr strOne cmpStr_swo cmpStr_anti ca_cmpstr (fun x y s => @ac_cmpstr ⟨true⟩ x y s) h hn
  rw [sortStr_eq] at this
  exact this

theorem fn_inv {g : FuncId} {c : Ctx} {vs : List Value} (ha : repL c [.fn (.func g) [] []] vs) : vs = [.func (.func g) #[] #[]] := by
  obtain ⟨v2, _, rfl, h2, ha⟩ := repL_cons ha
  obtain rfl := repL_nil ha
  simp only [rep] at h2
  obtain ⟨fa, fb, hfa, hfb, rfl⟩ := h2
  obtain rfl : fa = [] := by simpa [repL] using hfa
  obtain rfl : fb = [] := by simpa [repL] using hfb
  rfl

theorem ac_sortstr0 (g : FuncId) (s : Store) (i z o : Nat) : PAC Tryz.prog n_sortstr [.vw i z o 0, .fn (.func g) [] []] s (.tup []) :=
  ac_sort_nil ca_sortstr (fun c vs => fn_inv) (fun p cap w => AnyF.slices_SortFunc_none (ρ := Tryz.sortStr_ren) { Tryz.sortStr with } p cap _ w) i z o

def pthOne : One Pth where
  inj := fun p => vstr p.1
  enc := fun p => .string (bs p.1)
  one := fun _ => rfl
  rep := fun c x => by simp only [vstr, rep]
  det := fun c x v h => by simpa only [vstr, rep] using h
  cell := fun _ => rfl

/-- order on paths that may be -/
theorem pth_len (p : Pth) : p.1.length ≤ 136 := by
  have := p.2
  unfold validP at this
  obtain ⟨a, ha⟩ := Option.isSome_iff_exists.1 this
  have := split_inv ha
  rw [this.2]; exact pathOf_len this.1

theorem ac_sortpth {s : Store} {id : Nat} {ks : List Pth} (h : s id = some (.arr 1 (ks.map fun p => vstr p.1))) (hn : ks.length ≤ 4294967296) :
    AC Tryz.prog n_sortstr [.vw id 1 0 ks.length, .fn (.func n_order) [] []] s fun r s' => r = .tup [] ∧ s' = s.upd id (.arr 1 ((ks.mergeSort fun x y => !(ltOf cmpPth) y x).map fun p => vstr p.1)) :=
  ac_sortf (ρ := Tryz.sortStr_ren) Tryz.sortStr ca_sortstr pthOne cmpPth_swo cmpPth_anti ca_order (fun x y s => @ac_order ⟨true⟩ x.1 y.1 s (by have := pth_len x; omega) (by have := pth_len y; omega)) h hn

def leInt (x y : Int) : Bool := decide (x ≤ y)
theorem ac_sortint {s : Store} {id : Nat} {ks : List Int} (h : s id = some (.arr 1 (ks.map fun n => V.int .i64 n))) (hn : ks.length ≤ 4294967296) :
    AC Tryz.prog n_sortint [.vw id 1 0 ks.length] s fun r s' => r = .tup [] ∧ s' = s.upd id (.arr 1 ((ks.mergeSort leInt).map fun n => V.int .i64 n)) :=
  ac_sort_of (cfs := []) ca_sortint intOne (fun ks => ks.mergeSort leInt) (fun l => (List.mergeSort_perm _ _).length_eq) (fun c vs ha => repL_nil ha) (fun p cap w => AnyM.slices_Sort_int_none (ρ := Tryz.sortInt_ren) Tryz.sortInt p cap w) h
    (fun blk off cap w hH hlt hk => AnyM.slices_Sort_int (ρ := Tryz.sortInt_ren) Tryz.sortInt blk off cap ks w hH hlt (by omega))
theorem ac_sortint0 (s : Store) (i z o : Nat) : PAC Tryz.prog n_sortint [.vw i z o 0] s (.tup []) :=
  ac_sort_nil ca_sortint (fun c vs ha => repL_nil ha) (fun p cap w => AnyM.slices_Sort_int_none (ρ := Tryz.sortInt_ren) Tryz.sortInt p cap w) i z o

end Go.Proofs.YtdeondiigpidnaaGreat.Ab
end
