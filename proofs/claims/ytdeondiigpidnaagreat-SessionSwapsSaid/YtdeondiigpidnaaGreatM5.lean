/- Part 5 of what the proof leans on: texts of my own, joined. It proves no statement by itself. -/
import Derived.Test.YtdeondiigpidnaaGreatM4

section
set_option linter.unusedVariables false
set_option linter.unusedSimpArgs false
/- Commands that do not matter to each other do the same in either order, in plain Lean. -/
namespace Go.Proofs.YtdeondiigpidnaaGreat.Ab
open Go
set_option linter.unusedVariables false
set_option linter.unusedSimpArgs false

/-- what a command does to a directory -/
inductive Eff where
  | none
  | put (e : Entry)
  | del (p : Bytes)
def Eff.run : Eff → Dir → Dir
  | .none, L => L
  | .put e, L => dput L e
  | .del p, L => ddel L p
def dEff (L : Dir) (c : Cmd) : Eff :=
  if c.op < 1 ∨ 6 < c.op ∨ c.right = false then .none
  else if c.op = 1 then if dthere L c.path = true then .none else if dthere L (parentP c.path) = false then .none else .put ⟨c.path, c.value, 1⟩
  else if dthere L c.path = false then .none
  else if c.op = 2 then if dnames L c.path ≠ [] then .none else .del c.path
  else if c.op = 3 then .put ⟨c.path, c.value, IntKind.i64.wrap (dver L c.path + 1)⟩
  else if c.op = 4 then .none
  else if c.op = 5 then .none
  else if dver L c.path ≠ c.version then .none else .put ⟨c.path, c.value, IntKind.i64.wrap (dver L c.path + 1)⟩
theorem dApply_eff (L : Dir) (c : Cmd) : (dApply L c).1 = (dEff L c).run L := by
  unfold dApply dEff dcreate dremove dset dget dlist dcas dset
  repeat' split
  all_goals rfl

/-- two directories have the same of some cells -/
def Agree (U : List Cell) (L L' : Dir) : Prop :=
  ∀ c ∈ U, (c.what = 101 → dthere L' c.path = dthere L c.path) ∧ (c.what = 118 → dval L' c.path = dval L c.path ∧ dver L' c.path = dver L c.path) ∧ (c.what = 107 → dnames L' c.path = dnames L c.path)
theorem Agree.e {U : List Cell} {L L' : Dir} (h : Agree U L L') {p : Bytes} (hm : (⟨p, 101⟩ : Cell) ∈ U) : dthere L' p = dthere L p := (h _ hm).1 rfl
theorem Agree.v {U : List Cell} {L L' : Dir} (h : Agree U L L') {p : Bytes} (hm : (⟨p, 118⟩ : Cell) ∈ U) : dval L' p = dval L p ∧ dver L' p = dver L p := (h _ hm).2.1 rfl
theorem Agree.k {U : List Cell} {L L' : Dir} (h : Agree U L L') {p : Bytes} (hm : (⟨p, 107⟩ : Cell) ∈ U) : dnames L' p = dnames L p := (h _ hm).2.2 rfl

theorem pathOf_ne (l : List Bytes) : pathOf l ≠ [] := by
  unfold pathOf
  split
  · simp
  · rename_i h
    cases l with
    | nil => exact absurd rfl h
    | cons x r => simp
theorem parent_ne {p : Bytes} (hv : validP p = true) (h : p ≠ [47]) : parentP p ≠ [] := by
  unfold parentP
  rw [if_neg fun e => h (names_root hv e)]
  exact pathOf_ne _
theorem parent_root {p : Bytes} (hv : validP p = true) (h : parentP p = []) : p = [47] := by
  cases hd : decide (p = [47]) with
  | true => exact of_decide_eq_true hd
  | false => exact absurd h (parent_ne hv (of_decide_eq_false hd))
theorem there_root (L : Dir) : dthere L [47] = true := there_iff.2 (.inl rfl)
theorem right_ne {c : Cmd} (hr : c.right = true) (h : c.op = 2 ∨ c.op = 3 ∨ c.op = 6) : c.path ≠ [47] := by
  unfold Cmd.right at hr
  simp only [Bool.and_eq_true] at hr
  rcases h with h | h | h <;> (have := hr.2; simp [h] at this; exact this)

def allU (c : Cmd) : List Cell := (usesP c).reads ++ (usesP c).writes
/-- what a command uses of a directory is all that matters to it -/
theorem dApply_local {L L' : Dir} {c : Cmd} (h : Agree (allU c) L L') : (dApply L' c).2 = (dApply L c).2 ∧ dEff L' c = dEff L c := by
  by_cases hb : c.op < 1 ∨ 6 < c.op ∨ c.right = false
  · unfold dApply dEff
    rw [if_pos hb, if_pos hb, if_pos hb, if_pos hb]
    exact ⟨rfl, rfl⟩
  have hr : c.right = true := by
    cases hr : c.right with
    | true => rfl
    | false => exact absurd (.inr (.inr hr)) hb
  have hv := valid_right hr
  have hv' : ¬ validP c.path = false := by simp [hv]
  have hop : c.op = 1 ∨ c.op = 2 ∨ c.op = 3 ∨ c.op = 4 ∨ c.op = 5 ∨ c.op = 6 := by omega
  unfold dApply dEff
  rw [if_neg hb, if_neg hb, if_neg hb, if_neg hb]
  unfold allU usesP at h
  rw [if_neg hv'] at h
  rcases hop with ho | ho | ho | ho | ho | ho
  · rw [if_neg (by omega), if_neg (by omega)] at h
    by_cases hp : parentP c.path = []
    · rw [if_pos ⟨ho, hp⟩] at h
      have e1 := h.e (p := c.path) (by simp [ofP])
      have e2 : dthere L c.path = true := by rw [parent_root hv hp]; exact there_root L
      unfold dcreate
      simp only [ho, e1, e2, if_true]
      exact ⟨trivial, trivial⟩
    · rw [if_neg (fun x => hp x.2), if_neg hp, if_pos ho] at h
      have e1 := h.e (p := c.path) (by simp [ofP])
      have e2 := h.e (p := parentP c.path) (by simp [ofP])
      unfold dcreate
      refine ⟨?_, ?_⟩ <;> simp only [ho, e1, e2, reduceIte, Int.reduceEq] <;> (repeat' split) <;> rfl
  · have hp := parent_ne hv (right_ne hr (.inl ho))
    rw [if_neg (by omega), if_neg (by omega), if_neg (fun x => hp x.2), if_neg hp, if_neg (by omega), if_pos ho] at h
    have e1 := h.e (p := c.path) (by simp [ofP])
    have e2 := h.k (p := c.path) (by simp [ofP])
    unfold dremove
    refine ⟨?_, ?_⟩ <;> simp only [ho, e1, e2, reduceIte, Int.reduceEq] <;> (repeat' split) <;> rfl
  · have hp := parent_ne hv (right_ne hr (.inr (.inl ho)))
    rw [if_neg (by omega), if_neg (by omega), if_neg (fun x => hp x.2), if_neg hp, if_neg (by omega), if_neg (by omega), if_pos ho] at h
    have e1 := h.e (p := c.path) (by simp [ofP])
    have e2 := h.v (p := c.path) (by simp [ofP])
    unfold dset
    refine ⟨?_, ?_⟩ <;> simp only [ho, e1, e2.1, e2.2, reduceIte, Int.reduceEq] <;> (repeat' split) <;> rfl
  · rw [if_pos ho] at h
    have e1 := h.e (p := c.path) (by simp [ofP])
    have e2 := h.v (p := c.path) (by simp [ofP])
    unfold dget
    refine ⟨?_, ?_⟩ <;> simp only [ho, e1, e2.1, e2.2, reduceIte, Int.reduceEq] <;> (repeat' split) <;> rfl
  · rw [if_neg (by omega), if_pos ho] at h
    have e1 := h.e (p := c.path) (by simp [ofP])
    have e2 := h.k (p := c.path) (by simp [ofP])
    unfold dlist
    refine ⟨?_, ?_⟩ <;> simp only [ho, e1, e2, reduceIte, Int.reduceEq] <;> (repeat' split) <;> rfl
  · have hp := parent_ne hv (right_ne hr (.inr (.inr ho)))
    rw [if_neg (by omega), if_neg (by omega), if_neg (fun x => hp x.2), if_neg hp, if_neg (by omega), if_neg (by omega), if_neg (by omega), if_pos ho] at h
    have e1 := h.e (p := c.path) (by simp [ofP])
    have e2 := h.v (p := c.path) (by simp [ofP])
    unfold dcas dset
    refine ⟨?_, ?_⟩ <;> simp only [ho, e1, e2.1, e2.2, reduceIte, Int.reduceEq] <;> (repeat' split) <;> rfl

/-! what a command writes is all that it changes -/
theorem put_paths : ∀ {L : Dir} {e : Entry}, (dput L e).map (·.path) = if e.path ∈ L.map (·.path) then L.map (·.path) else L.map (·.path) ++ [e.path]
  | [], e => by simp [dput]
  | x :: r, e => by
    unfold dput
    by_cases h : e.path = x.path
    · rw [if_pos h]; simp [h]
    · rw [if_neg h, List.map_cons, put_paths (L := r)]
      simp only [List.map_cons, List.mem_cons, h, false_or]
      split <;> simp
def belowPs (p : Bytes) (ps : List Bytes) : List Bytes := (ps.filter fun q => parentP q == p).map lastP
theorem dnames_paths (L : Dir) (p : Bytes) : dnames L p = (belowPs p (L.map (·.path))).mergeSort bytesLe := by
  unfold dnames belowPs
  rw [List.filter_map, List.map_map]
  rfl
theorem dnames_put {L : Dir} {e : Entry} {p : Bytes} (h : e.path ∈ L.map (·.path) ∨ parentP e.path ≠ p) : dnames (dput L e) p = dnames L p := by
  rw [dnames_paths, dnames_paths, put_paths]
  split
  · rfl
  · rename_i hn
    have hp := h.resolve_left hn
    unfold belowPs
    rw [List.filter_append]
    have : ([e.path].filter fun q => parentP q == p) = [] := by simp [hp]
    rw [this, List.append_nil]
theorem del_filter {f : Bytes → Bool} : ∀ {L : Dir} {p : Bytes}, f p = false → ((ddel L p).map (·.path)).filter f = (L.map (·.path)).filter f
  | [], p, _ => rfl
  | x :: r, p, h => by
    unfold ddel
    split
    · rename_i hx
      rw [List.map_cons, List.filter_cons, ← hx, h]
      rfl
    · rw [List.map_cons, List.map_cons, List.filter_cons, List.filter_cons, del_filter h]
theorem dnames_del {L : Dir} {q p : Bytes} (h : parentP q ≠ p) : dnames (ddel L q) p = dnames L p := by
  rw [dnames_paths, dnames_paths]
  unfold belowPs
  rw [del_filter (by simpa using h)]
theorem dval_put (L : Dir) (e : Entry) (q : Bytes) (h : q ≠ e.path) : dval (dput L e) q = dval L q ∧ dver (dput L e) q = dver L q := by
  unfold dval dver; rw [find_put, if_neg h]; exact ⟨rfl, rfl⟩
theorem dval_del {L : Dir} (hn : (L.map (·.path)).Nodup) (p q : Bytes) (h : q ≠ p) : dval (ddel L p) q = dval L q ∧ dver (ddel L p) q = dver L q := by
  unfold dval dver; rw [find_del p q hn, if_neg h]; exact ⟨rfl, rfl⟩
theorem there_put' (L : Dir) (e : Entry) (q : Bytes) (h : q ≠ e.path) : dthere (dput L e) q = dthere L q := by
  unfold dthere; rw [find_put, if_neg h]
theorem there_del {L : Dir} (hn : (L.map (·.path)).Nodup) (p q : Bytes) (h : q ≠ p) : dthere (ddel L p) q = dthere L q := by
  unfold dthere; rw [find_del p q hn, if_neg h]
theorem there_mem {L : Dir} {p : Bytes} (h : dthere L p = true) (hr : p ≠ [47]) : p ∈ L.map (·.path) := by
  rcases there_iff.1 h with h | ⟨e, h1, h2⟩
  · exact absurd h hr
  · exact List.mem_map.2 ⟨e, h1, h2⟩

/-- two cells of a command's writes and another one's uses are not the same -/
theorem effect_local {n : Nat} {L : Dir} (hL : DInv n L) {a : Cmd} {U : List Cell} (h : ∀ c ∈ (usesP a).writes, c ∉ U) (hU : ∀ c ∈ U, c.what = 101 ∨ c.what = 118 ∨ c.what = 107) : Agree U L (dApply L a).1 := by
  have same : Agree U L L := fun c _ => ⟨fun _ => rfl, fun _ => ⟨rfl, rfl⟩, fun _ => rfl⟩
  -- a value that is set
  have set : (⟨a.path, 118⟩ : Cell) ∉ U → a.path ≠ [47] → dthere L a.path = true → ∀ v w, Agree U L (dput L ⟨a.path, v, w⟩) := by
    intro h1 hr ht v w c hc
    have hm := there_mem ht hr
    refine ⟨fun hw => ?_, fun hw => ?_, fun hw => dnames_put (.inl hm)⟩
    · by_cases hq : c.path = a.path
      · rw [hq, ht]; exact there_put.2 (.inl rfl)
      · exact there_put' L _ _ hq
    · refine dval_put L _ _ fun hq => h1 ?_
      simp only at hq
      rw [← hq, ← hw]; exact hc
  unfold dApply
  split
  · exact same
  rename_i hb
  have hr : a.right = true := by
    cases hr : a.right with
    | true => rfl
    | false => exact absurd (.inr (.inr hr)) hb
  have hv := valid_right hr
  have hv' : ¬ validP a.path = false := by simp [hv]
  unfold usesP at h
  rw [if_neg hv'] at h
  split
  · rename_i ho
    unfold dcreate
    split
    · exact same
    split
    · exact same
    rename_i ht hu
    have hne : a.path ≠ [47] := fun e => ht (by rw [e]; exact there_root L)
    have hp := parent_ne hv hne
    rw [if_neg (by omega), if_neg (by omega), if_neg (fun x => hp x.2), if_neg hp, if_pos ho] at h
    have w1 := h ⟨a.path, 101⟩ (by simp [ofP])
    have w2 := h ⟨a.path, 118⟩ (by simp [ofP])
    have w3 := h ⟨parentP a.path, 107⟩ (by simp [ofP])
    intro c hc
    refine ⟨fun hw => there_put' L _ _ fun hq => w1 ?_, fun hw => dval_put L _ _ fun hq => w2 ?_, fun hw => dnames_put (.inr fun hq => w3 ?_)⟩
    · simp only at hq; rw [← hq, ← hw]; exact hc
    · simp only at hq; rw [← hq, ← hw]; exact hc
    · simp only at hq; rw [hq, ← hw]; exact hc
  rename_i ho1
  split
  · exact same
  rename_i ht
  have ht' : dthere L a.path = true := by simpa using ht
  split
  · rename_i ho
    unfold dremove
    split
    · exact same
    have hp := parent_ne hv (right_ne hr (.inl ho))
    rw [if_neg (by omega), if_neg (by omega), if_neg (fun x => hp x.2), if_neg hp, if_neg (by omega), if_pos ho] at h
    have w1 := h ⟨a.path, 101⟩ (by simp [ofP])
    have w2 := h ⟨a.path, 118⟩ (by simp [ofP])
    have w3 := h ⟨parentP a.path, 107⟩ (by simp [ofP])
    intro c hc
    refine ⟨fun hw => there_del hL.nodup _ _ fun hq => w1 ?_, fun hw => dval_del hL.nodup _ _ fun hq => w2 ?_, fun hw => dnames_del fun hq => w3 ?_⟩
    · rw [← hq, ← hw]; exact hc
    · rw [← hq, ← hw]; exact hc
    · rw [hq, ← hw]; exact hc
  split
  · rename_i ho
    have hne := right_ne hr (.inr (.inl ho))
    have hp := parent_ne hv hne
    rw [if_neg (by omega), if_neg (by omega), if_neg (fun x => hp x.2), if_neg hp, if_neg (by omega), if_neg (by omega), if_pos ho] at h
    exact set (h _ (by simp [ofP])) hne ht' _ _
  split
  · exact same
  split
  · exact same
  · have ho : a.op = 6 := by omega
    unfold dcas
    split
    · exact same
    have hne := right_ne hr (.inr (.inr ho))
    have hp := parent_ne hv hne
    rw [if_neg (by omega), if_neg (by omega), if_neg (fun x => hp x.2), if_neg hp, if_neg (by omega), if_neg (by omega), if_neg (by omega), if_pos ho] at h
    exact set (h _ (by simp [ofP])) hne ht' _ _

theorem uses_what' (c : Cmd) : (allU c).all (fun x => x.what == 101 || (x.what == 118 || x.what == 107)) = true := by
  unfold allU usesP
  repeat' split
  all_goals simp [ofP]
theorem uses_what (c : Cmd) : ∀ x ∈ allU c, x.what = 101 ∨ x.what = 118 ∨ x.what = 107 := by
  intro x hx
  have := List.all_eq_true.1 (uses_what' c) x hx
  simpa using this

/-- where an effect is: at the path, and that value is written -/
theorem eff_at (L : Dir) (c : Cmd) : dEff L c = .none ∨ ((⟨c.path, 118⟩ : Cell) ∈ (usesP c).writes ∧ ((∃ v w, dEff L c = .put ⟨c.path, v, w⟩) ∨ dEff L c = .del c.path)) := by
  unfold dEff
  split
  · exact .inl rfl
  rename_i hb
  have hr : c.right = true := by
    cases hr : c.right with
    | true => rfl
    | false => exact absurd (.inr (.inr hr)) hb
  have hv := valid_right hr
  have hv' : ¬ validP c.path = false := by simp [hv]
  unfold usesP
  rw [if_neg hv']
  split
  · rename_i ho
    split
    · exact .inl rfl
    split
    · exact .inl rfl
    rename_i ht hu
    have hne : c.path ≠ [47] := fun e => ht (by rw [e]; exact there_root L)
    have hp := parent_ne hv hne
    exact .inr ⟨by simp [hp, ho, ofP], .inl ⟨_, _, rfl⟩⟩
  split
  · exact .inl rfl
  split
  · rename_i ho
    split
    · exact .inl rfl
    have hp := parent_ne hv (right_ne hr (.inl ho))
    exact .inr ⟨by simp [hp, ho, ofP], .inr rfl⟩
  split
  · rename_i ho
    have hp := parent_ne hv (right_ne hr (.inr (.inl ho)))
    exact .inr ⟨by simp [hp, ho, ofP], .inl ⟨_, _, rfl⟩⟩
  split
  · exact .inl rfl
  split
  · exact .inl rfl
  split
  · exact .inl rfl
  have ho : c.op = 6 := by omega
  have hp := parent_ne hv (right_ne hr (.inr (.inr ho)))
  exact .inr ⟨by simp [hp, ho, ofP], .inl ⟨_, _, rfl⟩⟩

theorem spoils_not {u x : Use} (h : spoilsP u x = false) : ∀ c ∈ u.writes, c ∉ x.reads ++ x.writes := by
  intro c hc
  have := List.any_eq_false.1 h c hc
  simpa using this

/-- two directories' commands, in either order -/
theorem dswap {n : Nat} {L : Dir} (h : DInv n L) (hn : n ≤ 4294967290) {a b : Cmd} (hp : pathsP a b = false) :
    (dApply (dApply L a).1 b).2 = (dApply L b).2 ∧ (dApply (dApply L b).1 a).2 = (dApply L a).2 ∧ DEq (dApply (dApply L a).1 b).1 (dApply (dApply L b).1 a).1 := by
  unfold pathsP at hp
  rw [Bool.or_eq_false_iff] at hp
  have h1 := spoils_not hp.1
  have h2 := spoils_not hp.2
  have ab := dApply_local (effect_local h (U := allU b) h1 (uses_what b))
  have ba := dApply_local (effect_local h (U := allU a) h2 (uses_what a))
  refine ⟨ab.1, ba.1, ?_⟩
  have ia := dApply_inv h (by omega) a
  have ib := dApply_inv h (by omega) b
  rw [dApply_eff (dApply L a).1 b, dApply_eff (dApply L b).1 a, ab.2, ba.2]
  rw [dApply_eff L a] at ia ⊢
  rw [dApply_eff L b] at ib ⊢
  rcases eff_at L a with ea | ⟨wa, ea⟩
  · rw [ea]; exact fun q => rfl
  rcases eff_at L b with eb | ⟨wb, eb⟩
  · rw [eb]; exact fun q => rfl
  have hne : a.path ≠ b.path := fun e => h1 _ wa (by rw [e]; exact List.mem_append_right _ wb)
  have hN := h.nodup
  rcases ea with ⟨v, w, ea⟩ | ea <;> rcases eb with ⟨v', w', eb⟩ | eb <;> rw [ea] at ia ⊢ <;> rw [eb] at ib ⊢ <;> intro q <;> simp only [Eff.run] at ia ib ⊢
  · rw [find_put, find_put, find_put, find_put]
    simp only
    by_cases q1 : q = a.path
    · by_cases q2 : q = b.path
      · exact absurd (q1.symm.trans q2) hne
      · simp [q1, hne]
    · by_cases q2 : q = b.path <;> simp [q1, q2, Ne.symm hne]
  · rw [find_del _ _ ia.nodup, find_put, find_put, find_del _ _ hN]
    simp only
    by_cases q1 : q = a.path
    · simp [q1, hne]
    · by_cases q2 : q = b.path <;> simp [q1, q2, Ne.symm hne]
  · rw [find_put, find_del _ _ hN, find_del _ _ ib.nodup, find_put]
    simp only
    by_cases q1 : q = a.path
    · simp [q1, hne]
    · by_cases q2 : q = b.path <;> simp [q1, q2, Ne.symm hne]
  · rw [find_del _ _ ia.nodup, find_del _ _ hN, find_del _ _ ib.nodup, find_del _ _ hN]
    by_cases q1 : q = a.path
    · simp [q1]
    · by_cases q2 : q = b.path <;> simp [q1, q2, Ne.symm hne]

/-- does a machine go by a command at all? -/
def skips (M : Mach) (c : Cmd) : Bool := decide (c.op = 0) || (!c.ok || (decide (c.seq < sseq M.lasts c.client) || decide (sseq M.lasts c.client = c.seq)))
theorem mApply_skip {M N : Mach} {c : Cmd} {r : Reply} (h : skips M c = true) (hf : sfind M.lasts c.client = sfind N.lasts c.client) : mApply N c r = (N, (mApply M c r).2) := by
  unfold skips at h
  unfold mApply
  rw [sseq_of_find hf, srep_of_find hf] at *
  split
  · rfl
  split
  · rfl
  split
  · rfl
  split
  · rfl
  rename_i h1 h2 h3 h4
  simp [h1, h2, h3, h4] at h
theorem mApply_goes {M : Mach} {c : Cmd} {r : Reply} (h : skips M c = false) (hc : c.control = false) : mApply M c r = (⟨(dApply M.dir c).1, sput M.lasts ⟨c.client, c.seq, (dApply M.dir c).2⟩⟩, (dApply M.dir c).2) := by
  unfold skips at h
  simp only [Bool.or_eq_false_iff, decide_eq_false_iff_not, Bool.not_eq_false'] at h
  obtain ⟨h1, h2, h3, h4⟩ := h
  unfold mApply
  rw [if_neg h1, if_neg (by simp [h2]), if_neg h3, if_neg h4, hc]
  rfl
theorem skips_find {M N : Mach} {c : Cmd} (hf : sfind M.lasts c.client = sfind N.lasts c.client) : skips M c = skips N c := by
  unfold skips
  rw [sseq_of_find hf]

theorem mswap {n : Nat} {M : Mach} (h : MInv n M) (hn : n ≤ 4294967290) {a b : Cmd} (hb : bothP a b = false) (r : Reply) :
    (mApply (mApply M a r).1 b r).2 = (mApply M b r).2 ∧ (mApply (mApply M b r).1 a r).2 = (mApply M a r).2 ∧ MEq (mApply (mApply M a r).1 b r).1 (mApply (mApply M b r).1 a r).1 := by
  have zero : ∀ (c : Cmd), c.op = 0 → ∀ N : Mach, mApply N c r = (N, rep0 0) := fun c hc N => by unfold mApply; rw [if_pos hc]
  by_cases ha0 : a.op = 0
  · rw [zero a ha0, zero a ha0]; exact ⟨rfl, rfl, .refl _⟩
  by_cases hb0 : b.op = 0
  · rw [zero b hb0, zero b hb0]; exact ⟨rfl, rfl, .refl _⟩
  unfold bothP at hb
  rw [if_neg fun x => x.elim ha0 hb0] at hb
  split at hb
  · cases hb
  rename_i hcc
  have ca : a.control = false := by
    cases hx : a.control with
    | false => rfl
    | true => exact absurd (.inl hx) hcc
  have cb : b.control = false := by
    cases hx : b.control with
    | false => rfl
    | true => exact absurd (.inr (.inl hx)) hcc
  have hcl : a.client ≠ b.client := fun e => hcc (.inr (.inr e))
  have fa : sfind M.lasts a.client = sfind (mApply M b r).1.lasts a.client := (mApply_find r fun e => hcl e.symm).symm
  have fb : sfind M.lasts b.client = sfind (mApply M a r).1.lasts b.client := (mApply_find r hcl).symm
  cases sa : skips M a with
  | true =>
    have e1 := mApply_skip (r := r) sa (N := M) rfl
    have e2 := mApply_skip (r := r) sa fa
    rw [e2]
    have e3 : (mApply M a r).1 = M := by rw [e1]
    rw [e3]
    exact ⟨rfl, rfl, .refl _⟩
  | false =>
    cases sb : skips M b with
    | true =>
      have e1 := mApply_skip (r := r) sb (N := M) rfl
      have e2 := mApply_skip (r := r) sb fb
      rw [e2]
      have e3 : (mApply M b r).1 = M := by rw [e1]
      rw [e3]
      exact ⟨rfl, rfl, .refl _⟩
    | false =>
      have sa' : skips (mApply M b r).1 a = false := by rw [← skips_find fa]; exact sa
      have sb' : skips (mApply M a r).1 b = false := by rw [← skips_find fb]; exact sb
      rw [mApply_goes sa' ca, mApply_goes sb' cb]
      rw [mApply_goes sa ca, mApply_goes sb cb]
      simp only
      obtain ⟨d1, d2, d3⟩ := dswap h.dir hn hb
      refine ⟨d1, d2, d3, fun q => ?_⟩
      simp only
      rw [sfind_put, sfind_put, sfind_put, sfind_put, d1, d2]
      simp only
      by_cases q1 : q = a.client
      · simp [q1, hcl]
      · by_cases q2 : q = b.client <;> simp [q1, q2, Ne.symm hcl]

end Go.Proofs.YtdeondiigpidnaaGreat.Ab
end

section
set_option linter.unusedVariables false
set_option linter.unusedSimpArgs false
/- Contract: two that don't matter to each other do the same in either order. -/
namespace Go.Proofs.YtdeondiigpidnaaGreat.Ab
open Go Go.Proofs Go.Sort
set_option linter.unusedVariables false
set_option linter.unusedSimpArgs false
set_option linter.unusedSectionVars false
variable [Fwd]

theorem reply_small {n : Nat} {M : Mach} (h : MInv n M) (hn : n ≤ 4294967295) (c : Cmd) (r : Reply) (hr : r.names.length ≤ 4294967296) : (mApply M c r).2.names.length ≤ 4294967296 := by
  unfold mApply
  have h1 := dApply_names (h.ok hn).dir.len c
  have h2 := (h.ok hn).snames c.client
  repeat' split
  all_goals first
    | exact h2
    | exact h1
    | exact hr
    | (simp [rep0]; done)

theorem ac_lswaps (hf : Fwd.on = false) (l : List Cmd) (k : Cap) (a b : Cmd) (s : Store) : AC Tryz.prog n_lswaps [.sl (l.map Cmd.enc) k, a.enc, b.enc] s fun r _ => r = .bool true := by
  refine AC_of_tfun (H := h_lswaps) (S := s_lswaps) (K := fun r _ => r = .bool true) mixed fn_lswaps ca_lswaps ok_lswaps ?_ fun r s' h => ⟨r, s', .refl _, .refl _, h⟩
  rw [e_lswaps]
  refine AC.mono (ac_works hf s) ?_
  rintro _ s1 rfl
  refine ⟨true, rfl, ?_⟩
  simp only [Bool.not_true, cond_false, cond_true]
  refine (ac_over l k s1).use ⟨_, rfl, ?_⟩
  refine cond_of (fun h1 => ?_) (fun h1 => trivial)
  refine (ac_over [a, b] .full s1).use ⟨_, rfl, ?_⟩
  refine cond_of (fun h2 => ?_) (fun h2 => trivial)
  have ol := over_len (by simpa using h1 : over l = false)
  have oc := (over_len (by simpa using h2 : over [a, b] = false)).2
  have hpa := (oc a (by simp)).1
  have hpb := (oc b (by simp)).1
  have hpl : ∀ x ∈ l, x.path.length ≤ 4294967296 := fun x hx => by have := (ol.2 x hx).1; omega
  refine (ac_both hf a b s1 (by omega) (by omega)).use ⟨_, rfl, ?_⟩
  refine cond_of (fun h3 => trivial) (fun h3 => ?_)
  refine AC.mono (ac_snew s1) ?_
  rintro _ s2 ⟨p, d, m, q, rfl, _, h4, _, _, _, _⟩
  refine ⟨p, rfl, ?_⟩
  refine loop_apply hf (v := 0) h4 .nil (by omega) hpl ?_
  have h5 := h4.turned (mRun (ctl 0) ⟨[], []⟩ l)
  have hinv := mRun_inv .nil (ctl 0) rfl l (by omega)
  generalize hM : mRun (ctl 0) ⟨[], []⟩ l = M at *
  have hc : (ctl 0).names.length ≤ 0 + l.length := by simp [ctl]
  have hc' : (ctl 0).names.length ≤ 4294967296 := by simp [ctl]
  have hok := hinv.ok (by omega)
  refine AC.mono (ac_sclone h5) ?_
  rintro _ s4 ⟨p', d', m', q', rfl, hle, h6, f1, f2, f3, f4⟩
  refine ⟨p', rfl, ?_⟩
  have g1 := h5.le hle
  have oth := Other.of h5 f1 f2 f3 f4
  have bak := Other.back h5 f1 f2 f3 f4
  have ia := mApply_inv hinv (by omega) a (ctl 0) hc
  have ib := mApply_inv hinv (by omega) b (ctl 0) hc
  have iab := mApply_inv ia (by omega) b (ctl 0) (by omega)
  have iba := mApply_inv ib (by omega) a (ctl 0) (by omega)
  obtain ⟨w1, w2, w3⟩ := mswap hinv (by omega) h3 (ctl 0)
  refine (ac_sapply hf g1 hok a (ctl 0) .full (by omega) hc').use ⟨_, _, _, _, _, rfl, ?_⟩
  have g2 := g1.turned (mApply M a (ctl 0)).1
  refine (ac_sapply hf g2 (ia.ok (by omega)) b (ctl 0) .full (by omega) hc').use ⟨_, _, _, _, _, rfl, ?_⟩
  have g3 := g2.turned (mApply (mApply M a (ctl 0)).1 b (ctl 0)).1
  have h7 := (h6.other oth (mApply M a (ctl 0)).1).other oth (mApply (mApply M a (ctl 0)).1 b (ctl 0)).1
  refine (ac_sapply hf h7 hok b (ctl 0) .full (by omega) hc').use ⟨_, _, _, _, _, rfl, ?_⟩
  have h8 := h7.turned (mApply M b (ctl 0)).1
  have g4 := g3.other bak (mApply M b (ctl 0)).1
  refine (ac_sapply hf h8 (ib.ok (by omega)) a (ctl 0) .full (by omega) hc').use ⟨_, _, _, _, _, rfl, ?_⟩
  have h9 := h8.turned (mApply (mApply M b (ctl 0)).1 a (ctl 0)).1
  have g5 := g4.other bak (mApply (mApply M b (ctl 0)).1 a (ctl 0)).1
  refine (ac_same _ _ .any .any _ (reply_small hinv (by omega) a (ctl 0) hc')).use ⟨_, rfl, ?_⟩
  rw [decide_eq_true w2.symm, cond_true]
  refine (ac_same _ _ .any .any _ (reply_small ia (by omega) b (ctl 0) hc')).use ⟨_, rfl, ?_⟩
  rw [decide_eq_true w1, cond_true]
  refine (ac_same9 hf g5 (iab.ok (by omega)) h9 (iba.ok (by omega))).use ?_
  exact ⟨_, rfl, by rw [same_of_eq w3 iab iba]⟩

end Go.Proofs.YtdeondiigpidnaaGreat.Ab
end
